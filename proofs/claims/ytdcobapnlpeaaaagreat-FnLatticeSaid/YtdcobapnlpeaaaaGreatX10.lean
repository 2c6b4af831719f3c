/- Merged from templates. -/
import Derived.Test.YtdcobapnlpeaaaaGreatX9
set_option maxRecDepth 100000
set_option maxHeartbeats 8000000
namespace Go.Proofs.YtdcobapnlpeaaaaGreat
open Go.RowKit
attribute [local go_sem ↓] Go.wp_at_zero Go.wp_at_succ
theorem lz (x y:Int) (h:x=y) (a:0<=x/\x<=1000):wrap64 x=y/\IntKind.i64.wrap x=y:=⟨by rw[<-h];exact nZ x a,by rw[<-h];exact n9 x a⟩
theorem kG (w:World) (p n:Int) (rv:Value) (R:List (List Int)) (S:Nat->Prop) (hr:Rows2 S w rv R) (hR:iy R.length R) (hp:1<=p/\p<=7) (hn:1<=n/\n<=729) (cq:R.length<=9) :
  Calls Tryz.prog 320 #[.int .i64 p,rv,.int .i64 n] w (Ret w (PresN 18 w.heap.size)):=by
 obtain⟨ar,capr,rfl,_,_⟩:=Sl.shape hr;obtain⟨n,rfl⟩:=Int.eq_ofNat_of_zero_le (show 0<=n by omega);have aT:∀w',Ext (w.alloc (.cells #[.slice none 0 0,.slice none 0 0,.slice none 0 0] 28)) w'->Box3 w' w.heap.size (.slice none 0 0) (.slice none 0 0) (.slice none 0 0):=λw' h=>(Box3.made w 28 _ _ _).ext h;have aU:Ext w (w.alloc (.cells #[.slice none 0 0,.slice none 0 0,.slice none 0 0] 28)):=World.grownBy_alloc _ _ _;have aV:(w.alloc (.cells #[.slice none 0 0,.slice none 0 0,.slice none 0 0] 28)).heap.size=w.heap.size+1:=by simp
 have HN:=Lib.hid (And.intro hn (And.intro hp (And.intro hR (And.intro aT aV))));clear hn aT aV hp hR;go_enter Tryz.func320,Tryz.ntmps320;go_wp2_with fail
 generalize w.alloc (.cells #[.slice none 0 0,.slice none 0 0,.slice none 0 0] 28)=w0 at *;refine Calls.mono (l07Factors_ok w0 n (by have:=HN.out.1;omega)) ?_;rintro e1 w1 ⟨v1,rfl,hg1,a1,c1,t,r1,rfl,af,C9,aX⟩;go_wp2_with fail
 refine Calls.mono (l01Own_ok w1 _ t _ (af.ints (by omega)) (by omega)) ?_;rintro e2 w2 ⟨v2,rfl,hg2,mL⟩;have bJ:Ints Any w1 (.slice a1 t.length c1) t:=(af.ints (by omega)).sub (λ_ _ _=>trivial);have HT:=Lib.hid (And.intro aX af);clear aX af;go_wp2_with fail
 go_loopw [9,10] (λov Z wr=>∃(i:Nat) (l:List Int) (v4:Value),v4=ov/\Z=.int .i64 i/\i<=R.length/\l.length=t.length+i/\Ext w1 wr/\Own w1.heap.size wr v4 l) (λ_ Z _=>R.length-(intOf Z).toNat)
 case atStart=>exact⟨0,t,_,rfl,rfl,by omega,rfl,hg2,mL⟩
 case round =>
  clear mL hg2;obtain⟨i,l,v4,rfl,rfl,hi,aa,C,hO⟩:=hrel;by_cases a:i<R.length
  ·have E:(i:Int)<R.length:=by omega
   have aY:l.length<=1000000:=by omega
   have HL:=Lib.hid (And.intro aY aa);clear aY aa;go_wp2_with (first|(at_builtin;refine wp_app_int rfl _ _ rfl w1.heap.size v4 l p rfl wr hO rfl rfl HL.out.1 C.size ?_;intro v5 G bK T;have a0:=grown_own C T (λj hj a=>by have:=(hO.lt j hj).1;omega))|fail)
   go_roundw
   case rel=>exact⟨i+1,_,v5,rfl,by go_num,by omega,by rw[List.length_append,HL.out.2];rfl,a0,bK⟩
   case measure=>simp[intOf];omega
  ·have E : ¬((i:Int)<R.length):=by omega
   have bL:i=R.length:=by omega
   subst bL;obtain⟨o,ho⟩:∃o,o=l:=⟨_,rfl⟩;rw[<-ho] at hO aa;clear ho;have ca:o.length<=18:=by omega
   have cu:t.length<=o.length:=by omega
   obtain⟨a4,c4,hv4,_⟩:=(hO.ints (by omega)).shape;subst hv4;have bM:Ints Any wr (.slice a4 o.length c4) o:=(hO.ints (by omega)).sub (λ_ _ _=>trivial);have cw:=C.size;clear hO;obtain⟨F,hw4⟩:∃F:World,F=wr:=⟨_,rfl⟩;subst hw4;have HO:=Lib.hid aa;clear aa;go_wp2_with fail
   refine Calls.mono (l07Trivial_ok F _ o _ bM (by omega)) ?_;rintro e5 G ⟨v5,rfl,T,vo,vp,vc,rfl,I⟩;obtain⟨Y,co,ap,O,U,P,rfl,rfl,rfl⟩:=trivX_shape I;go_wp2_with fail
   have a2:Ext G (G.alloc (.cells #[.slice Y o.length co,.slice ap o.length O,.slice U o.length P] 28)):=World.grownBy_alloc _ _ _;have y:=BX.start (N:=18) (B:=F.heap.size) (by omega) I a2 (Box3.made G 28 (.slice Y o.length co) (.slice ap o.length O) (.slice U o.length P)) T.size;have bN:=T.size;generalize G.alloc (.cells #[.slice Y o.length co,.slice ap o.length O,.slice U o.length P] 28)=w6 at *;have a3:Ext F w6:=grown_trans T a2;have Q:Ext w0 F:=grown_trans hg1 C;clear I T;go_loopw [13] (λZ wr=>∃i:Nat,Z=.int .i64 i/\i<=t.length/\Ext F wr/\BX 18 o F.heap.size G.heap.size wr (.slice Y o.length co) (.slice ap o.length O) (.slice U o.length P)) (λZ _=>t.length-(intOf Z).toNat)
   case atStart=>exact⟨0,rfl,by omega,a3,y⟩
   case round =>
    clear y a3;have a5:=C;clear C hi a E;obtain⟨i,rfl,hi,C,y⟩:=hrel;by_cases a:i+1<t.length
    ·have E:(i:Int)+1<t.length:=by omega
     obtain⟨g,cap,z,fS,hgB,iI,hgl,a6,a7⟩:=y.storeP i (by omega);obtain⟨rfl,rfl⟩:ap=some ⟨g,0,none⟩/\O=cap:=by cases fS;exact⟨rfl,rfl⟩
     clear fS;have e1:∀w',Near wr g w'->w'.cell? ⟨G.heap.size,1,none⟩=some (.slice (some ⟨g,0,none⟩) o.length O):=λw' h=>h.cell y.box.2.2.1 (by simp;omega)
     have m:∀w,Calls Tryz.prog 308 #[.int .i64 o.length,.int .i64 ((i:Int)+1)] w (Ret w λw' v=>Own w.heap.size w' v (unitV o.length (i+1))):=λw=>by
      have h:=l07Unit_ok o.length (i+1) w (by omega) (by omega);rwa [show((i+1:Nat):Int)=(i:Int)+1 by omega] at h
     have a':(unitV o.length (i+1)).length<=9223372036854775807:=by rw[unitV_len];omega
     have HX:=Lib.hid (And.intro y (And.intro a7 (And.intro a6 a')));clear y a7 a6 a';have cy:(i:Int)<o.length:=by omega
     have bb:i<100000:=by omega
     go_wp2;have bO:IntKind.i64.wrap ((i:Int)+1)=(i:Int)+1:=qN _ bb;have bP:wrap64 ((i:Int)+1)=(i:Int)+1:=qO _ bb
     go_region_held3 (λw'=>Near wr g w') (first|exact Near.of (grown_drew _ _)|exact Near.of (by assumption)|exact Near.store (by assumption)|assumption)
      (first
       | (go_at_call 308;refine Calls.mono (Calls.rel (w0:=wr) (by first|exact grown_drew _ _|assumption) (m _)) ?_;rintro eE H ⟨vE,rfl,D,gJ,ab⟩;obtain⟨aE,cE,fQ,_⟩:=(ab.ints HX.out.2.2.2).shape;subst fQ;have ag:=(HX.out.2.2.1 H D).1;have aC:=(HX.out.2.2.1 H D).2))
     clear bO bP;have cD:=D.size;have I:=HX.out.2.1 H _ (unitV o.length (i+1)) D (OwnIn.of ab (by rw[unitV_len];omega) (λk hk _=>Nat.le_trans (by assumption) hk)) (by rw[unitV_len];omega);have aD:Ext F (H.setCell ⟨g,i,none⟩ (.slice aE (unitV o.length (i+1)).length cE)):=grown_own (grown_trans C D) (grown_set1 _ _ _ _) (λj hj a=>by cases hj;omega);clear ag aC e1;go_wp2;go_roundw
     case rel=>exact⟨i+1,by go_num,by omega,aD,I⟩
     case measure=>simp[intOf];omega
    ·have E:¬((i:Int)+1<t.length):=by omega
     have be:Ext w wr:=grown_trans aU (grown_trans Q C);have bf:∀x∈R,x.length<=1000000:=λx hx=>by have:=(HN.out.2.2.1 x hx).1;omega
     have m:=l01Own2_ok wr _ R _ (Rows2.ext hr be) bf (by omega);clear bf;go_wp2_with fail
     refine Calls.mono m ?_;rintro e8 w8 ⟨v8,rfl,ji,aG⟩;clear m;obtain⟨a8,c8,iz,_,_⟩:=SlD.shape (aG.toD (by omega));subst iz;have bg:Rows2 (λk=>wr.heap.size<=k/\k<w8.heap.size) w8 (.slice a8 R.length c8) R:=(RowsD.rows (aG.toD (by omega))).sub (λk hk a=>⟨hk,a⟩)
     have bh:BXF 18 o (λk=>F.heap.size<=k/\k≠G.heap.size/\¬(wr.heap.size<=k/\k<w8.heap.size)) G.heap.size w8 (.slice Y o.length co) (.slice ap o.length O) (.slice U o.length P):=
      (y.f.turn (F':=λk=>F.heap.size<=k/\k≠G.heap.size/\¬(wr.heap.size<=k/\k<w8.heap.size)) (λk hk a=>⟨hk.1,hk.2,by omega⟩) (λh=>h.2.1 rfl)).ext ji
     have am:Ext F w8:=grown_trans C ji;have cd:=ji.size;clear y aG a E hi;go_wp2
     go_loopw [14,15] (λav Z K=>∃(i lo hi:Nat) (aA:Option Addr) (cA:Nat) (A:List (List Int)),av=.slice aA R.length cA/\Z=.int .i64 i/\i<=t.length/\A.length=R.length/\iy R.length A/\hi<=K.heap.size/\Rows2 (λk=>lo<=k/\k<hi) K (.slice aA R.length cA) A/\Ext F K /\
      BXF 18 o (λk=>F.heap.size<=k/\k≠G.heap.size/\¬(lo<=k/\k<hi)) G.heap.size K (.slice Y o.length co) (.slice ap o.length O) (.slice U o.length P)) (λ_ Z _=>t.length-(intOf Z).toNat)
     case atStart=>exact⟨0,wr.heap.size,w8.heap.size,a8,c8,R,rfl,rfl,by omega,rfl,HN.out.2.2.1,Nat.le_refl _,bg,am,bh⟩
     case round=>
      clear bg am bh ji be C;obtain⟨i,lo,V,aA,cA,A,rfl,rfl,hi,bj,bk,hhi,hA,C,y⟩:=hrel;by_cases a:i<t.length
      ·have E:(i:Int)<t.length:=by omega
       have HA:=Lib.hid (And.intro bj bk);clear bj bk;go_wp2
       go_loopw [16] (λjv K=>∃j:Nat,jv=.int .i64 j/\j<=R.length/\V<=K.heap.size/\Rows2 (λk=>lo<=k/\k<V) K (.slice aA R.length cA) A/\Ext F K /\
        BXF 18 o (λk=>F.heap.size<=k/\k≠G.heap.size/\¬(lo<=k/\k<V)) G.heap.size K (.slice Y o.length co) (.slice ap o.length O) (.slice U o.length P)) (λjv _=>R.length-(intOf jv).toNat)
       case atStart=>exact⟨0,rfl,by omega,hhi,hA,C,y⟩
       case round=>
        clear y C hA hhi;obtain⟨j,rfl,hj,hhi,hA,C,y⟩:=hrel;by_cases ce:j<R.length
        ·have aH:(j:Int)<R.length:=by omega
         have bm:=HO.out;obtain⟨J,hJ⟩:∃J,J=t.length+j-i-1:=⟨_,rfl⟩;have bS:J<o.length-1-i:=by omega
         obtain⟨gc,capc,b,bn,z2,gz,hcB,gW,ag,hcell,jV,mM,hbg,hbl,an,aq⟩:=y.storeC i J (by omega) bS (λk hk=>⟨by have:=C.size;omega,by have:=y.box.1;omega,by omega⟩);obtain⟨rfl,rfl⟩:U=some ⟨gc,0,none⟩/\P=capc:=by cases gz;exact⟨rfl,rfl⟩
         clear gz;have bo:j<A.length:=by have:=HA.out.1;omega
         obtain⟨ba,oa,az,au,rfl,bp,_,aI,aJ⟩:=Rows2.at hA j bo;have ah:=HA.out.2 _ (gtMem bo);obtain⟨zr,br⟩:∃zr,zr=gt A j:=⟨_,rfl⟩;rw[<-br] at aI aJ ah;clear br;have ch:ba≠b:=λe=>jV.2.2 (e▸bp);have e1:∀w',Near wr b w'->w'.cell? ⟨G.heap.size,2,none⟩=some (.slice (some ⟨gc,0,none⟩) o.length P):=λw' h=>h.cell y.box.2.2.2.1 (by simp;omega);have e2:∀w',Near wr b w'->w'.cell? ⟨gc,i,none⟩=some (.slice (some ⟨b,0,none⟩) (o.length-1-i) bn):=λw' h=>h.cell hcell (by simp;omega);have e3:∀w',Near wr b w'->w'.cell? ⟨ba,oa+j,none⟩=some (.slice az zr.length au):=λw' h=>h.cell aI (by simp;omega)
         have m:∀w',Ext wr w'->Calls Tryz.prog 321 #[.int .i64 t.length,.slice az zr.length au,.int .i64 0] w' (Ret w' λbU r=>∃l,l.length<=18/\Own w'.heap.size bU r l):=λw' he=>
          Calls.mono (l07Shift_ok w' t.length _ zr 0 _ (Ints.ext aJ he) (by have:=ah.1;omega)) (λe w2 ⟨v,h1,h2,h3⟩=>⟨v,h1,h2,_,by simp[shiftL];have:=ah.1;omega,h3⟩)
         have bs:∀H u,Ext wr H->Rows2 (λk=>lo<=k/\k<V) (H.setCell ⟨b,J,none⟩ u) (.slice (some ⟨ba,oa,none⟩) R.length cA) A:=λH u he=>Rows2.mono hA (λk hk a=>by
          have hT:wr.grownBy (H.setCell ⟨b,J,none⟩ u) (some b):=grown_trans (grown_of_ext _ he) (grown_set1 _ _ _ _);exact⟨hk,Nat.lt_of_lt_of_le a hT.size,hT.block k a (λe=>jV.2.2 (by cases e;exact hk))⟩)
         have HY:=Lib.hid (And.intro aq (And.intro an (And.intro m bs)));clear aq an m hcell aI aJ bs ah;have cG:(J:Int)<((o.length-1-i:Nat):Int):=by omega
         have cH:(i:Int)<o.length:=by omega
         have M:=lz ((t.length:Int)+j) ((t.length+j:Nat):Int) (by omega) (by omega);have W:=lz (((t.length+j:Nat):Int)-i) ((t.length+j-i:Nat):Int) (by clear M;omega) (by clear M;omega);have aK:=lz (((t.length+j-i:Nat):Int)-1) (J:Int) (by clear M W;omega) (by clear M W;omega);generalize ((t.length+j:Nat):Int)=d1 at M W;generalize ((t.length+j-i:Nat):Int)=d2 at W aK;have HW:=Lib.hid (And.intro M (And.intro W aK));clear M W aK;have ci:=y.box.1;have HJ:=Lib.hid (And.intro bm hJ);clear bm hJ y hA;go_wp2;obtain⟨⟨q1,q2⟩,⟨q3,q4⟩,q5,q6⟩:=HW.out
         go_region_held3 (λw'=>Near wr b w') (first|exact Near.of (grown_drew _ _)|exact Near.of (by assumption)|exact Near.store (by assumption)|assumption)
          (first
           | (go_at_call 321;refine Calls.mono (Calls.rel (w0:=wr) (by first|exact grown_drew _ _|assumption) (HY.out.2.2.1 _ (by first|exact grown_drew _ _|assumption))) ?_;rintro eE H ⟨vE,rfl,D,gJ,lE,aL,ab⟩;obtain⟨aE,cE,fQ,_⟩:=(ab.ints (Nat.le_trans aL (by decide))).shape;subst fQ;have ag:=(HY.out.2.1 H D).1;have aC:=(HY.out.2.1 H D).2))
         clear q1 q2 q3 q4 q5 q6;have I:=HY.out.1 H _ lE D (OwnIn.of ab (Nat.le_trans aL (by decide)) (λk hk _=>Nat.le_trans (by assumption) hk)) aL;have bW:=HY.out.2.2.2 H (.slice aE lE.length cE) D;have aD:Ext F (H.setCell ⟨b,J,none⟩ (.slice aE lE.length cE)):=grown_own (grown_trans C D) (grown_set1 _ _ _ _) (λj hj a=>by cases hj;omega);have aw:V<=(H.setCell ⟨b,J,none⟩ (.slice aE lE.length cE)).heap.size:=by have:=D.size;simp;omega
         clear ag aC e1 e2 e3;have HZ:=Lib.hid aw;clear aw;go_wp2;go_roundw
         case rel=>exact⟨j+1,by go_num,by omega,HZ.out,bW,aD,I⟩
         case measure=>simp[intOf];omega
        ·have aH:¬((j:Int)<R.length):=by omega
         obtain⟨bt,ot,rfl,_,_,aM⟩:=Ints.at (Ints.ext bJ (grown_trans a5 C)) i a;have bX:2<=gt t i/\gt t i<=7:=HT.out.1 _ (gtMem a);obtain⟨te,ax⟩:∃te,te=gt t i:=⟨_,rfl⟩;rw[<-ax] at aM bX;clear ax;have bw:=Rows2.sub hA (S':=Any) (λ_ _ _=>trivial);obtain⟨wo,aN⟩:∃wo:World,wo=wr:=⟨_,rfl⟩;rw[<-aN] at aM bw;have X:Ext wo wr:=by rw[aN];exact Ext.refl _
         go_wp2
         go_loopw [14,18] (λav tv K=>∃(q ai ad:Nat) (aB:Option Addr) (cB:Nat) (B:List (List Int)),av=.slice aB R.length cB/\tv=.int .i64 q/\1<=q/\q<=7/\B.length=R.length/\iy R.length B/\ad<=K.heap.size/\Rows2 (λk=>ai<=k/\k<ad) K (.slice aB R.length cB) B/\Ext wo K/\Ext F K /\
          BXF 18 o (λk=>F.heap.size<=k/\k≠G.heap.size/\¬(ai<=k/\k<ad)) G.heap.size K (.slice Y o.length co) (.slice ap o.length O) (.slice U o.length P)) (λ_ tv _=>8-(intOf tv).toNat)
         case atStart=>exact⟨1,lo,V,aA,cA,A,rfl,rfl,by omega,by omega,HA.out.1,HA.out.2,hhi,hA,X,C,y⟩
         case round=>
          clear y C hA hhi X aN;obtain⟨q,ai,ad,aB,cB,B,rfl,rfl,bZ,hq7,aj,ae,hhi,hB,X,C,y⟩:=hrel;have ay:=X.cell aM (by simp);by_cases cL:(q:Int)<te
          ·have m:=uR wr p _ _ B A R.length _ _ hB (Rows2.ext bw X) HN.out.2.1 ae HA.out.2 (by omega) (by omega)
           have HB:=Lib.hid (And.intro aj ae);clear aj ae;obtain⟨wp,hwp⟩:∃wp:World,wp=wr:=⟨_,rfl⟩;go_wp2_with fail
           refine Calls.mono m ?_;rintro e9 w9 ⟨v9,rfl,iA,L,aP,bA,aQ⟩;clear m;obtain⟨a9,c9,mN,_,_⟩:=SlD.shape (aQ.toD (by have:=HB.out.1;omega));rw[aP,HB.out.1] at mN;subst mN;have b0:=(RowsD.rows (aQ.toD (by have:=HB.out.1;omega))).sub (S':=λk=>wr.heap.size<=k/\k<w9.heap.size) (λk hk a=>⟨hk,a⟩)
           have b1:BXF 18 o (λk=>F.heap.size<=k/\k≠G.heap.size/\¬(wr.heap.size<=k/\k<w9.heap.size)) G.heap.size w9 (.slice Y o.length co) (.slice ap o.length O) (.slice U o.length P):=
            (y.turn (F':=λk=>F.heap.size<=k/\k≠G.heap.size/\¬(wr.heap.size<=k/\k<w9.heap.size)) (λk hk a=>⟨hk.1,hk.2.1,by omega⟩) (λh=>h.2.1 rfl)).ext iA
           have bB:=grown_trans X iA;have bC:=grown_trans C iA;have ck:=iA.cell ay (by simp);have HL:=Lib.hid (And.intro aP bA);clear aP bA;clear ay y iA hB aQ;go_wp2;go_roundw
           case rel=>exact⟨q+1,wr.heap.size,w9.heap.size,a9,c9,L,rfl,by go_num,by omega,by omega,by rw[HL.out.1,HB.out.1],HL.out.2,Nat.le_refl _,b0,bB,bC,b1⟩
           case measure=>simp[intOf];omega
          ·have HB:=Lib.hid (And.intro aj ae);clear aj ae
           go_wp2;go_roundw
           case rel=>exact⟨i+1,ai,ad,aB,cB,B,rfl,by go_num,by omega,HB.out.1,HB.out.2,hhi,hB,C,y⟩
           case measure=>simp[intOf];omega
      ·have E:¬((i:Int)<t.length):=by omega
       have hz:=HN.out.2.2.2.1 _ (grown_trans Q C);clear hA;obtain⟨h0,h1,h2,h3',h4⟩:=id y.box;obtain⟨k0,k1,k2,k3,k4⟩:=id hz;have hZ:=hz.all (.slice Y o.length co) (.slice ap o.length O) (.slice U o.length P);have hT:=grown_set3 wr w.heap.size (.slice Y o.length co) (.slice ap o.length O) (.slice U o.length P);obtain⟨_,z0,z1,z2,_⟩:=id hZ;have HQ:=Lib.hid (And.intro hT y);clear hT hZ y;go_wp2;refine bodyPost_ret (v := .agg #[.slice Y o.length co,.slice ap o.length O,.slice U o.length P]) (by simp[results,Tryz.results320,go_sem,z0,z1,z2]) rfl ?_;have bZ:=HN.out.2.2.2.2;have cN:=Q.size;exact⟨_,rfl,grown_own (grown_trans aU (grown_trans Q C)) HQ.out.1 (λj hj a=>by cases hj;omega),(BX.ret (BXF.bx HQ.out.2 bN (λk hk=>hk.1)) HQ.out.1 (by omega)).weak (by omega)⟩
theorem oh {w b:World}{sb l N M B:Nat}{x y z:Value}(m:w.grownBy b (some sb)) (r:w.heap.size<B) (g:Src l b sb) (n:l<=w.heap.size) (hP:jH N B b x y z) (p:N<=M) :
  Mut w (some sb) (iX l sb (jW M w.heap.size)) (.returned (.agg #[x,y,z])) (((b.setCell ⟨w.heap.size,0,none⟩ x).setCell ⟨w.heap.size,1,none⟩ y).setCell ⟨w.heap.size,2,none⟩ z):=by
 have i:=grown_set3 b w.heap.size x y z;obtain⟨Q,h1,h2⟩:=hP;exact⟨_,rfl,grown_own m i (λj q a=>by cases q;omega),⟨x,y,z,rfl,Q,h1.mono p,h2.mono (λk hk a=>⟨by have hk:B<=k:=hk;show w.heap.size<=k;omega,Nat.lt_of_lt_of_le a i.size,i.block k a (λe=>by have hk:B<=k:=hk;have:=Option.some.inj e;omega)⟩)⟩,g.own i (λk hk=>by cases hk;exact n)⟩
theorem fN (w:World) (L:List Int) (a:L.length<=1000):Ints (λk=>k=w.heap.size) (w.alloc (.cells (L.map (Value.int .i64)).toArray 2)) (.slice (some ⟨w.heap.size,0,none⟩) L.length L.length) L:=by
 have h:Own 0 (w.alloc (.cells (L.map (Value.int .i64)).toArray 2)) (.slice (some ⟨w.heap.size,0,none⟩) L.length L.length) L:=by
  have:=World.ownsRow_lit (base:=0) (e:=2) (size:=1) w (L.map (Value.int .i64)).toArray L.length (Nat.zero_le _) (by unfold maxLen;omega) (by simp);simpa using this
 exact ints_of_own h (by omega) (λk hk=>own_blk hk)
theorem kH (w:World) (a:List Value) (R:List (List Int)) (b:a.length=R.length) (g:R.length<=1000) (h:∀i,i<R.length->Ints Any w (gt a i) (gt R i)) :
  Rows2 Any (w.alloc (.cells a.toArray 24)) (.slice (some ⟨w.heap.size,0,none⟩) R.length R.length) R:=by
 refine⟨_,_,rfl,⟨Nat.le_refl _,by omega,λh=>by cases h⟩,λi e=>⟨w.heap.size,0,gt a i,rfl,trivial,by simp,?_,Ints.ext (h i e) (World.grownBy_alloc _ _ _)⟩⟩;rw[World.cell?_alloc_at _ _ _ _ rfl];simp[gt,b,e]
set_option maxHeartbeats 16000000 in
theorem qP (B0:Nat) (w:World) (sb:Nat) (aA:B0<=w.heap.size) (hs:Src B0 w sb) :
  Calls Tryz.prog 290 #[.pointer (some ⟨sb,0,none⟩)] w (Mut w (some sb) (iX B0 sb (jW 18 w.heap.size))):=by
 have a8:=hs.lt;have aB:=Box3.made w 28 (.slice none 0 0) (.slice none 0 0) (.slice none 0 0);have aC:Ext w (w.alloc (.cells #[.slice none 0 0,.slice none 0 0,.slice none 0 0] 28)):=World.grownBy_alloc _ _ _;have aT:(w.alloc (.cells #[.slice none 0 0,.slice none 0 0,.slice none 0 0] 28)).heap.size=w.heap.size+1:=by simp
 have aU:=Lib.hid hs;clear hs;go_enter Tryz.func290,Tryz.ntmps290;go_wp2_with fail
 generalize w.alloc (.cells #[.slice none 0 0,.slice none 0 0,.slice none 0 0] 28)=w0 at *;refine Calls.mono (l01Next_ok B0 w0 sb 9 (aU.out.ext aC)) ?_;rintro e1 p ⟨v1,rfl,ai,x,rfl,hx0,hx1,hs1⟩;have ah:=Box3.keep aB ai.size (ai.block _ aB.1 (λe=>by have:=Option.some.inj e;omega));have aj:=grown_trans (grown_of_ext (some sb) aC) ai;have a9:w.heap.size+1<=p.heap.size:=by have:=ai.size;omega
 have hx:=hx1 (by omega);have Y:=Lib.hid hs1;clear hx0 hx1 ai aB aC aT hs1;rcases(show x=0\/x=1\/x=2\/x=3\/x=4\/x=5\/x=6\/x=7\/x=8 by omega) with rfl|rfl|rfl|rfl|rfl|rfl|rfl|rfl|rfl
 all_goals clear hx
 ·have aH:=World.grownBy_alloc p (.cells #[] 2) (some sb)
  have aI:Own p.heap.size (p.alloc (.cells #[] 2)) (.slice (some ⟨p.heap.size,0,none⟩) 0 0) []:=World.ownsRow_lit p #[] 0 (Nat.le_refl _) (by decide) rfl;have aJ:=(Y.out.ext (World.grownBy_alloc p (.cells #[] 2) none));have A:=Lib.hid aJ;clear aJ;go_wp2_with fail
  generalize p.alloc (.cells #[] 2)=wE at *;refine Calls.mono (l01Next_ok B0 wE sb 5 A.out) ?_;rintro e2 a ⟨v2,rfl,S,k,rfl,hk0,hk1,hs2⟩;have hk:=hk1 (by omega);clear hk0 hk1;have aK:=aI.kept S (by simp[Value.ownBlock];omega);have b:=grown_trans aH S;have aL:=Lib.hid hs2;clear hs2 aH aI S;go_wp2_with fail
  go_loopw [3,4] (λov kv wr=>∃(k:Int) (o:List Int) (v4:Value),v4=ov/\kv=.int .i64 k/\0<=k/\k<=4/\Hid (o.length+k<=4)/\p.grownBy wr (some sb)/\Own p.heap.size wr v4 o/\Hid (Src B0 wr sb)) (λ_ kv _=>(intOf kv).toNat)
  case atStart=>exact⟨k,[],_,rfl,rfl,hk.1,by omega,Lib.hid (by simp;omega),b,aK,aL⟩
  case round=>
   clear aK b aL hk;obtain⟨k,o,v4,rfl,rfl,hk0,hk4,hol,hg,hO,K⟩:=hrel;have bb:=hg.size;by_cases bc:0<k
   ·have aM:∀j,v4.ownBlock=some j->p.heap.size<=j:=λj hj=>(hO.lt j hj).1
    have aD:o.length<=1000000:=by have:=hol.out;omega
    have HO:=Lib.hid (And.intro aM aD);clear aM aD;go_wp2_with fail
    have L:Ext wr (wr.alloc (.cells #[.int .i64 2,.int .i64 2,.int .i64 3] 2)):=World.grownBy_alloc _ _ _;have hL:Ints (λk=>k=wr.heap.size) (wr.alloc (.cells #[.int .i64 2,.int .i64 2,.int .i64 3] 2)) (.slice (some ⟨wr.heap.size,0,none⟩) 3 3) [2,2,3]:=fN wr [2,2,3] (by simp);have aq:(wr.alloc (.cells #[.int .i64 2,.int .i64 2,.int .i64 3] 2)).heap.size=wr.heap.size+1:=by simp
    generalize wr.alloc (.cells #[.int .i64 2,.int .i64 2,.int .i64 3] 2)=wL at *;refine Calls.mono (l01Pick_ok B0 wL sb _ [2,2,3] _ (K.out.ext L) hL (λk hk=>by omega) (by simp) (by simp)) ?_;rintro Z G ⟨v3,rfl,g,i,V,rfl,hs3⟩;generalize gt ([2,2,3]:List Int) i=m at *;have aw:=grown_trans (grown_of_ext (some sb) L) g;have aV:=hO.kept aw (.inr (λe=>by have:=HO.out.1 sb e;omega));have ax:=grown_trans hg aw;have aW:=Lib.hid hs3;clear hs3 L g hL V hO;go_wp2_with (first|(at_builtin;refine wp_app_int rfl _ _ rfl p.heap.size v4 o m rfl G aV rfl rfl HO.out.2 ax.size ?_;intro v5 w5 aX aO)|fail)
    have aY:Src B0 w5 sb:=aW.out.own aO (λj hj=>by have:=HO.out.1 j hj;omega);have aP:p.grownBy w5 (some sb):=grown_own ax aO (λj hj be=>by have:=HO.out.1 j hj;omega);have aD:(o++[m]).length=o.length+1:=by simp
    go_roundw
    case rel=>exact⟨k-1,o++[m],v5,rfl,rfl,by omega,by omega,Lib.hid (by have:=hol.out;omega),aP,aX,Lib.hid aY⟩
    case measure=>simp[intOf];omega
   ·have aZ:=hO.ints (show o.length<=9223372036854775807 by have:=hol.out;omega)
    have a0:=hol.out;have a4:o.length<=100:=by omega
    clear a0 hO;go_wp2_with fail
    refine Calls.mono (l07Trivial_ok wr _ o _ aZ a4) ?_;rintro Z G ⟨v3,rfl,g,vo,vp,vc,rfl,gX⟩;have C:jH 18 wr.heap.size G vo vp vc:=⟨trivP o,trivP_shp o (by have:=hol.out;omega),gX.p3⟩;obtain⟨a1,n1,c1,a2,n2,c2,a3,n3,c3,rfl,rfl,rfl⟩:=C.shape;clear gX;have l:p.grownBy G (some sb):=grown_trans hg (grown_of_ext (some sb) g);have W:=Box3.keep ah l.size (l.block _ ah.1 (λe=>by have:=Option.some.inj e;omega));have U:=grown_trans aj l;obtain⟨b0,b1,b2,b3,b4⟩:=id W;have hZ:=W.all (.slice a1 n1 c1) (.slice a2 n2 c2) (.slice a3 n3 c3);obtain⟨-,z0,z1,z2,-⟩:=id hZ;have HF:=Lib.hid (And.intro U (And.intro C (K.out.ext g)));clear hZ U C W;go_wp2_with fail
    refine bodyPost_ret (v := .agg #[.slice a1 n1 c1,.slice a2 n2 c2,.slice a3 n3 c3]) (by simp[results,Tryz.results290,go_sem,z0,z1,z2]) rfl ?_;exact oh HF.out.1 (B:=wr.heap.size) (by omega) HF.out.2.2 aA HF.out.2.1 (by omega)
 ·skip
  go_wp2_with fail
  have L:Ext p (p.alloc (.cells #[.int .i64 1,.int .i64 4,.int .i64 6,.int .i64 8,.int .i64 9,.int .i64 12,.int .i64 5,.int .i64 7,.int .i64 27,.int .i64 25,.int .i64 36] 2)):=World.grownBy_alloc _ _ _;have hL:Ints (λk=>k=p.heap.size) (p.alloc (.cells #[.int .i64 1,.int .i64 4,.int .i64 6,.int .i64 8,.int .i64 9,.int .i64 12,.int .i64 5,.int .i64 7,.int .i64 27,.int .i64 25,.int .i64 36] 2)) (.slice (some ⟨p.heap.size,0,none⟩) 11 11) [1,4,6,8,9,12,5,7,27,25,36]:=fN p [1,4,6,8,9,12,5,7,27,25,36] (by simp);have aq:(p.alloc (.cells #[.int .i64 1,.int .i64 4,.int .i64 6,.int .i64 8,.int .i64 9,.int .i64 12,.int .i64 5,.int .i64 7,.int .i64 27,.int .i64 25,.int .i64 36] 2)).heap.size=p.heap.size+1:=by simp
  generalize p.alloc (.cells #[.int .i64 1,.int .i64 4,.int .i64 6,.int .i64 8,.int .i64 9,.int .i64 12,.int .i64 5,.int .i64 7,.int .i64 27,.int .i64 25,.int .i64 36] 2)=wL at *;refine Calls.mono (l01Pick_ok B0 wL sb _ [1,4,6,8,9,12,5,7,27,25,36] _ (Y.out.ext L) hL (λk hk=>by omega) (by simp) (by simp)) ?_;rintro e2 a ⟨v2,rfl,S,i,V,rfl,hs2⟩;have hm:∀y∈([1,4,6,8,9,12,5,7,27,25,36]:List Int),1<=y/\y<=36:=by simp
  have aE:=hm _ (gtMem V);generalize gt ([1,4,6,8,9,12,5,7,27,25,36]:List Int) i=m at *;clear hm V hL;have b:=grown_trans (grown_of_ext (some sb) L) S;have ae:w.heap.size+1<=a.heap.size:=by have:=b.size;omega
  clear L S;have A:=Lib.hid hs2;clear hs2;obtain⟨m,rfl⟩:=Int.eq_ofNat_of_zero_le (show 0<=m by omega);go_wp2_with fail
  refine Calls.mono (uS a m (by omega)) ?_;rintro Z G ⟨v3,rfl,g,vo,vp,vc,c,rfl,hP⟩;obtain⟨_,_,_,he,C⟩:=hP.q;cases he
  obtain⟨a1,n1,c1,a2,n2,c2,a3,n3,c3,rfl,rfl,rfl⟩:=C.shape;have l:p.grownBy G (some sb):=grown_trans b (grown_of_ext (some sb) g);have W:=Box3.keep ah l.size (l.block _ ah.1 (λe=>by have:=Option.some.inj e;omega));have U:=grown_trans aj l;obtain⟨b0,b1,b2,b3,b4⟩:=id W;have aF:=World.grownBy_alloc (((G.setCell ⟨w.heap.size,0,none⟩ (.slice a1 n1 c1)).setCell ⟨w.heap.size,1,none⟩ (.slice a2 n2 c2)).setCell ⟨w.heap.size,2,none⟩ (.slice a3 n3 c3)) (.cells #[.slice a1 n1 c1,.slice a2 n2 c2,.slice a3 n3 c3] 28) none;have hZ:=(W.all (.slice a1 n1 c1) (.slice a2 n2 c2) (.slice a3 n3 c3)).ext aF;obtain⟨-,z0,z1,z2,-⟩:=id hZ;have HF:=Lib.hid (And.intro U (And.intro C (And.intro (A.out.ext g) aF)));clear hZ U C W aF;go_wp2_with fail
  refine bodyPost_ret (v := .agg #[.slice a1 n1 c1,.slice a2 n2 c2,.slice a3 n3 c3]) (by simp[results,Tryz.results290,go_sem,z0,z1,z2]) rfl ?_;obtain⟨_,he,k1,⟨q1,q2,q3,k2,Q,k4,k5⟩,k3⟩:=oh (M:=18) HF.out.1 (B:=a.heap.size) (by omega) HF.out.2.2.1 aA HF.out.2.1 (by omega);cases he
  cases k2
  exact⟨_,rfl,grown_trans k1 (grown_of_ext (some sb) HF.out.2.2.2),⟨_,_,_,rfl,Q,k4,k5.ext HF.out.2.2.2⟩,k3.ext HF.out.2.2.2⟩
 focus
  go_wp2_with fail
  have L:Ext p (p.alloc (.cells #[.int .i64 3,.int .i64 4,.int .i64 5,.int .i64 6,.int .i64 7,.int .i64 8,.int .i64 9,.int .i64 12] 2)):=World.grownBy_alloc _ _ _;have hL:Ints (λk=>k=p.heap.size) (p.alloc (.cells #[.int .i64 3,.int .i64 4,.int .i64 5,.int .i64 6,.int .i64 7,.int .i64 8,.int .i64 9,.int .i64 12] 2)) (.slice (some ⟨p.heap.size,0,none⟩) 8 8) [3,4,5,6,7,8,9,12]:=fN p [3,4,5,6,7,8,9,12] (by simp);have aq:(p.alloc (.cells #[.int .i64 3,.int .i64 4,.int .i64 5,.int .i64 6,.int .i64 7,.int .i64 8,.int .i64 9,.int .i64 12] 2)).heap.size=p.heap.size+1:=by simp
  generalize p.alloc (.cells #[.int .i64 3,.int .i64 4,.int .i64 5,.int .i64 6,.int .i64 7,.int .i64 8,.int .i64 9,.int .i64 12] 2)=wL at *;refine Calls.mono (l01Pick_ok B0 wL sb _ [3,4,5,6,7,8,9,12] _ (Y.out.ext L) hL (λk hk=>by omega) (by simp) (by simp)) ?_;rintro e2 a ⟨v2,rfl,S,i,V,rfl,hs2⟩;have hm:∀y∈([3,4,5,6,7,8,9,12]:List Int),3<=y/\y<=12:=by simp
  have aE:=hm _ (gtMem V);generalize gt ([3,4,5,6,7,8,9,12]:List Int) i=m at *;clear hm V hL;have b:=grown_trans (grown_of_ext (some sb) L) S;have ae:w.heap.size+1<=a.heap.size:=by have:=b.size;omega
  clear L S;have A:=Lib.hid hs2;clear hs2;have a5:0<=m/2/\m/2<=6:=by omega
  go_wp2_with fail
  refine Calls.mono (jI a 2 m (m-1) 0 (by omega) (by omega) (by omega) (by omega)) ?_;rintro Z G ⟨v3,rfl,g,hP⟩;obtain⟨vo,vp,vc,rfl,C⟩:=hP.q;have l:p.grownBy G (some sb):=grown_trans b (grown_of_ext (some sb) g);have K:=A.out.ext g
 rotate_left
 focus
  go_wp2_with fail
  have L:Ext p (p.alloc (.cells #[.int .i64 4,.int .i64 6,.int .i64 8,.int .i64 12] 2)):=World.grownBy_alloc _ _ _;have hL:Ints (λk=>k=p.heap.size) (p.alloc (.cells #[.int .i64 4,.int .i64 6,.int .i64 8,.int .i64 12] 2)) (.slice (some ⟨p.heap.size,0,none⟩) 4 4) [4,6,8,12]:=fN p [4,6,8,12] (by simp);have aq:(p.alloc (.cells #[.int .i64 4,.int .i64 6,.int .i64 8,.int .i64 12] 2)).heap.size=p.heap.size+1:=by simp
  generalize p.alloc (.cells #[.int .i64 4,.int .i64 6,.int .i64 8,.int .i64 12] 2)=wL at *;refine Calls.mono (l01Pick_ok B0 wL sb _ [4,6,8,12] _ (Y.out.ext L) hL (λk hk=>by omega) (by simp) (by simp)) ?_;rintro e2 a ⟨v2,rfl,S,i,V,rfl,hs2⟩;have hm:∀y∈([4,6,8,12]:List Int),3<=y/\y<=12:=by simp
  have aE:=hm _ (gtMem V);generalize gt ([4,6,8,12]:List Int) i=m at *;clear hm V hL;have b:=grown_trans (grown_of_ext (some sb) L) S;have ae:w.heap.size+1<=a.heap.size:=by have:=b.size;omega
  clear L S;have A:=Lib.hid hs2;clear hs2;have a5:0<=m/2/\m/2<=6:=by omega
  go_wp2_with fail
  refine Calls.mono (jI a 2 m (m-1) (m/2) (by omega) (by omega) (by omega) (by omega)) ?_;rintro Z G ⟨v3,rfl,g,hP⟩;obtain⟨vo,vp,vc,rfl,C⟩:=hP.q;have l:p.grownBy G (some sb):=grown_trans b (grown_of_ext (some sb) g);have K:=A.out.ext g
 rotate_left
 focus
  go_wp2_with fail
  refine Calls.mono (l01Next_ok B0 p sb 6 Y.out) ?_;rintro e2 a ⟨v2,rfl,b,y,rfl,hy0,hy1,hs2⟩;have hy:=hy1 (by omega);have A:=Lib.hid hs2;have ae:w.heap.size+1<=a.heap.size:=by have:=b.size;omega
  clear hy0 hy1 hs2;rcases(show y=0\/y=1\/y=2\/y=3\/y=4\/y=5 by omega) with rfl|rfl|rfl|rfl|rfl|rfl
  all_goals clear hy
  focus
   go_wp2_with fail
   refine Calls.mono (jI a 3 7 2 0 (by omega) (by omega) (by omega) (by omega)) ?_;rintro Z G ⟨v3,rfl,g,hP⟩;obtain⟨vo,vp,vc,rfl,C⟩:=hP.q;have l:p.grownBy G (some sb):=grown_trans b (grown_of_ext (some sb) g);have K:=A.out.ext g
  rotate_left
  focus
   go_wp2_with fail
   refine Calls.mono (jI a 4 5 2 0 (by omega) (by omega) (by omega) (by omega)) ?_;rintro Z G ⟨v3,rfl,g,hP⟩;obtain⟨vo,vp,vc,rfl,C⟩:=hP.q;have l:p.grownBy G (some sb):=grown_trans b (grown_of_ext (some sb) g);have K:=A.out.ext g
  rotate_left
  focus
   go_wp2_with fail
   refine Calls.mono (jI a 2 8 3 0 (by omega) (by omega) (by omega) (by omega)) ?_;rintro Z G ⟨v3,rfl,g,hP⟩;obtain⟨vo,vp,vc,rfl,C⟩:=hP.q;have l:p.grownBy G (some sb):=grown_trans b (grown_of_ext (some sb) g);have K:=A.out.ext g
  rotate_left
  focus
   go_wp2_with fail
   refine Calls.mono (jI a 2 8 5 0 (by omega) (by omega) (by omega) (by omega)) ?_;rintro Z G ⟨v3,rfl,g,hP⟩;obtain⟨vo,vp,vc,rfl,C⟩:=hP.q;have l:p.grownBy G (some sb):=grown_trans b (grown_of_ext (some sb) g);have K:=A.out.ext g
  rotate_left
  focus
   go_wp2_with fail
   refine Calls.mono (jI a 4 4 3 0 (by omega) (by omega) (by omega) (by omega)) ?_;rintro Z G ⟨v3,rfl,g,hP⟩;obtain⟨vo,vp,vc,rfl,C⟩:=hP.q;have l:p.grownBy G (some sb):=grown_trans b (grown_of_ext (some sb) g);have K:=A.out.ext g
  rotate_left
  focus
   go_wp2_with fail
   refine Calls.mono (jI a 3 9 4 0 (by omega) (by omega) (by omega) (by omega)) ?_;rintro Z G ⟨v3,rfl,g,hP⟩;obtain⟨vo,vp,vc,rfl,C⟩:=hP.q;have l:p.grownBy G (some sb):=grown_trans b (grown_of_ext (some sb) g);have K:=A.out.ext g
  rotate_left
 rotate_left 6
 focus
  go_wp2_with fail
  have L:Ext p (p.alloc (.cells #[.int .i64 2,.int .i64 3,.int .i64 2,.int .i64 3,.int .i64 5] 2)):=World.grownBy_alloc _ _ _;have hL:Ints (λk=>k=p.heap.size) (p.alloc (.cells #[.int .i64 2,.int .i64 3,.int .i64 2,.int .i64 3,.int .i64 5] 2)) (.slice (some ⟨p.heap.size,0,none⟩) 5 5) [2,3,2,3,5]:=fN p [2,3,2,3,5] (by simp);have aq:(p.alloc (.cells #[.int .i64 2,.int .i64 3,.int .i64 2,.int .i64 3,.int .i64 5] 2)).heap.size=p.heap.size+1:=by simp
  generalize p.alloc (.cells #[.int .i64 2,.int .i64 3,.int .i64 2,.int .i64 3,.int .i64 5] 2)=wL at *;refine Calls.mono (l01Pick_ok B0 wL sb _ [2,3,2,3,5] _ (Y.out.ext L) hL (λk hk=>by omega) (by simp) (by simp)) ?_;rintro e2 a ⟨v2,rfl,S,i,V,rfl,hs2⟩;have hm:∀y∈([2,3,2,3,5]:List Int),2<=y/\y<=5:=by simp
  have aE:=hm _ (gtMem V);generalize gt ([2,3,2,3,5]:List Int) i=m at *;clear hm V hL;have b:=grown_trans (grown_of_ext (some sb) L) S;have ae:w.heap.size+1<=a.heap.size:=by have:=b.size;omega
  clear L S;have A:=Lib.hid hs2;clear hs2;go_wp2_with fail
  refine Calls.mono (uT B0 a sb m (by omega) A.out) ?_;rintro Z G ⟨v3,rfl,g,hP,hs3⟩;obtain⟨vo,vp,vc,rfl,C⟩:=hP.q;have l:p.grownBy G (some sb):=grown_trans b g;have K:=hs3
 rotate_left
 focus
  go_wp2_with fail
  refine Calls.mono (l01Next_ok B0 p sb 6 Y.out) ?_;rintro e2 a ⟨v2,rfl,b,y,rfl,hy0,hy1,hs2⟩;have hy:=hy1 (by omega);have A:=Lib.hid hs2;have ae:w.heap.size+1<=a.heap.size:=by have:=b.size;omega
  clear hy0 hy1 hs2;rcases(show y=0\/y=1\/y=2\/y=3\/y=4\/y=5 by omega) with rfl|rfl|rfl|rfl|rfl|rfl
  all_goals clear hy
  focus
   go_wp2_with fail
   have D:Ext a (a.alloc (.cells #[.int .i64 2,.int .i64 0] 2)):=World.grownBy_alloc _ _ _;have N:Ints Any (a.alloc (.cells #[.int .i64 2,.int .i64 0] 2)) (.slice (some ⟨a.heap.size,0,none⟩) 2 2) [2,0]:=Ints.sub (fN a [2,0] (by simp)) (λ_ _ _=>trivial);have n:(a.alloc (.cells #[.int .i64 2,.int .i64 0] 2)).heap.size=a.heap.size+1:=by simp
   generalize a.alloc (.cells #[.int .i64 2,.int .i64 0] 2)=u0 at *;have r:Ext u0 (u0.alloc (.cells #[.int .i64 0,.int .i64 2] 2)):=World.grownBy_alloc _ _ _;have H:Ints Any (u0.alloc (.cells #[.int .i64 0,.int .i64 2] 2)) (.slice (some ⟨u0.heap.size,0,none⟩) 2 2) [0,2]:=Ints.sub (fN u0 [0,2] (by simp)) (λ_ _ _=>trivial);have z:(u0.alloc (.cells #[.int .i64 0,.int .i64 2] 2)).heap.size=u0.heap.size+1:=by simp
   generalize u0.alloc (.cells #[.int .i64 0,.int .i64 2] 2)=u1 at *;rw[n] at H;have O:=Ints.ext (N) r;have P:=H
   have E:∀i,i<([[2,0],[0,2]]:List (List Int)).length->Ints Any u1 (gt ([.slice (some ⟨a.heap.size,0,none⟩) 2 2,.slice (some ⟨a.heap.size+1,0,none⟩) 2 2]:List Value) i) (gt ([[2,0],[0,2]]:List (List Int)) i):=by
    intro i V;rcases(show i=0\/i=1 by simp at V;omega) with rfl|rfl
    ·exact O
    ·exact P
   have I:=kH u1 [.slice (some ⟨a.heap.size,0,none⟩) 2 2,.slice (some ⟨a.heap.size+1,0,none⟩) 2 2] [[2,0],[0,2]] rfl (by simp) E;have R:=World.grownBy_alloc u1 (.cells #[.slice (some ⟨a.heap.size,0,none⟩) 2 2,.slice (some ⟨a.heap.size+1,0,none⟩) 2 2] 24) none;have u:Ext a (u1.alloc (.cells #[.slice (some ⟨a.heap.size,0,none⟩) 2 2,.slice (some ⟨a.heap.size+1,0,none⟩) 2 2] 24)):=grown_trans D (grown_trans r R);have al:u1.heap.size=a.heap.size+2:=by omega
   rw[z,n] at I;refine Calls.mono (kG _ 3 2 _ [[2,0],[0,2]] Any I (by unfold iy Sm;simp) (by omega) (by omega) (by simp)) ?_;rintro Z G ⟨v3,rfl,g,hP⟩;have hP:=hP.q.mono (B':=a.heap.size) (Nat.le_refl _) u.size;have F:Ext a G:=grown_trans u g;clear I R u E O N D n P H r z;obtain⟨vo,vp,vc,rfl,C⟩:=hP;have l:p.grownBy G (some sb):=grown_trans b (grown_of_ext (some sb) F);have K:=A.out.ext F
  rotate_left
  focus
   go_wp2_with fail
   have D:Ext a (a.alloc (.cells #[.int .i64 0,.int .i64 1] 2)):=World.grownBy_alloc _ _ _;have N:Ints Any (a.alloc (.cells #[.int .i64 0,.int .i64 1] 2)) (.slice (some ⟨a.heap.size,0,none⟩) 2 2) [0,1]:=Ints.sub (fN a [0,1] (by simp)) (λ_ _ _=>trivial);have n:(a.alloc (.cells #[.int .i64 0,.int .i64 1] 2)).heap.size=a.heap.size+1:=by simp
   generalize a.alloc (.cells #[.int .i64 0,.int .i64 1] 2)=u0 at *;have r:Ext u0 (u0.alloc (.cells #[.int .i64 2,.int .i64 0] 2)):=World.grownBy_alloc _ _ _;have H:Ints Any (u0.alloc (.cells #[.int .i64 2,.int .i64 0] 2)) (.slice (some ⟨u0.heap.size,0,none⟩) 2 2) [2,0]:=Ints.sub (fN u0 [2,0] (by simp)) (λ_ _ _=>trivial);have z:(u0.alloc (.cells #[.int .i64 2,.int .i64 0] 2)).heap.size=u0.heap.size+1:=by simp
   generalize u0.alloc (.cells #[.int .i64 2,.int .i64 0] 2)=u1 at *;rw[n] at H;have O:=Ints.ext (N) r;have P:=H
   have E:∀i,i<([[0,1],[2,0]]:List (List Int)).length->Ints Any u1 (gt ([.slice (some ⟨a.heap.size,0,none⟩) 2 2,.slice (some ⟨a.heap.size+1,0,none⟩) 2 2]:List Value) i) (gt ([[0,1],[2,0]]:List (List Int)) i):=by
    intro i V;rcases(show i=0\/i=1 by simp at V;omega) with rfl|rfl
    ·exact O
    ·exact P
   have I:=kH u1 [.slice (some ⟨a.heap.size,0,none⟩) 2 2,.slice (some ⟨a.heap.size+1,0,none⟩) 2 2] [[0,1],[2,0]] rfl (by simp) E;have R:=World.grownBy_alloc u1 (.cells #[.slice (some ⟨a.heap.size,0,none⟩) 2 2,.slice (some ⟨a.heap.size+1,0,none⟩) 2 2] 24) none;have u:Ext a (u1.alloc (.cells #[.slice (some ⟨a.heap.size,0,none⟩) 2 2,.slice (some ⟨a.heap.size+1,0,none⟩) 2 2] 24)):=grown_trans D (grown_trans r R);have al:u1.heap.size=a.heap.size+2:=by omega
   rw[z,n] at I;refine Calls.mono (kG _ 3 4 _ [[0,1],[2,0]] Any I (by unfold iy Sm;simp) (by omega) (by omega) (by simp)) ?_;rintro Z G ⟨v3,rfl,g,hP⟩;have hP:=hP.q.mono (B':=a.heap.size) (Nat.le_refl _) u.size;have F:Ext a G:=grown_trans u g;clear I R u E O N D n P H r z;obtain⟨vo,vp,vc,rfl,C⟩:=hP;have l:p.grownBy G (some sb):=grown_trans b (grown_of_ext (some sb) F);have K:=A.out.ext F
  rotate_left
  focus
   go_wp2_with fail
   have D:Ext a (a.alloc (.cells #[.int .i64 0,.int .i64 1,.int .i64 0] 2)):=World.grownBy_alloc _ _ _;have N:Ints Any (a.alloc (.cells #[.int .i64 0,.int .i64 1,.int .i64 0] 2)) (.slice (some ⟨a.heap.size,0,none⟩) 3 3) [0,1,0]:=Ints.sub (fN a [0,1,0] (by simp)) (λ_ _ _=>trivial);have n:(a.alloc (.cells #[.int .i64 0,.int .i64 1,.int .i64 0] 2)).heap.size=a.heap.size+1:=by simp
   generalize a.alloc (.cells #[.int .i64 0,.int .i64 1,.int .i64 0] 2)=u0 at *;have r:Ext u0 (u0.alloc (.cells #[.int .i64 0,.int .i64 0,.int .i64 1] 2)):=World.grownBy_alloc _ _ _;have H:Ints Any (u0.alloc (.cells #[.int .i64 0,.int .i64 0,.int .i64 1] 2)) (.slice (some ⟨u0.heap.size,0,none⟩) 3 3) [0,0,1]:=Ints.sub (fN u0 [0,0,1] (by simp)) (λ_ _ _=>trivial);have z:(u0.alloc (.cells #[.int .i64 0,.int .i64 0,.int .i64 1] 2)).heap.size=u0.heap.size+1:=by simp
   generalize u0.alloc (.cells #[.int .i64 0,.int .i64 0,.int .i64 1] 2)=u1 at *;have J:Ext u1 (u1.alloc (.cells #[.int .i64 1,.int .i64 1,.int .i64 0] 2)):=World.grownBy_alloc _ _ _;have X:Ints Any (u1.alloc (.cells #[.int .i64 1,.int .i64 1,.int .i64 0] 2)) (.slice (some ⟨u1.heap.size,0,none⟩) 3 3) [1,1,0]:=Ints.sub (fN u1 [1,1,0] (by simp)) (λ_ _ _=>trivial);have T:(u1.alloc (.cells #[.int .i64 1,.int .i64 1,.int .i64 0] 2)).heap.size=u1.heap.size+1:=by simp
   generalize u1.alloc (.cells #[.int .i64 1,.int .i64 1,.int .i64 0] 2)=u2 at *;rw[n] at H;rw[z,n] at X;have O:=Ints.ext (Ints.ext (N) r) J;have P:=Ints.ext (H) J;have ac:=X
   have E:∀i,i<([[0,1,0],[0,0,1],[1,1,0]]:List (List Int)).length->Ints Any u2 (gt ([.slice (some ⟨a.heap.size,0,none⟩) 3 3,.slice (some ⟨a.heap.size+1,0,none⟩) 3 3,.slice (some ⟨a.heap.size+1+1,0,none⟩) 3 3]:List Value) i) (gt ([[0,1,0],[0,0,1],[1,1,0]]:List (List Int)) i):=by
    intro i V;rcases(show i=0\/i=1\/i=2 by simp at V;omega) with rfl|rfl|rfl
    ·exact O
    ·exact P
    ·exact ac
   have I:=kH u2 [.slice (some ⟨a.heap.size,0,none⟩) 3 3,.slice (some ⟨a.heap.size+1,0,none⟩) 3 3,.slice (some ⟨a.heap.size+1+1,0,none⟩) 3 3] [[0,1,0],[0,0,1],[1,1,0]] rfl (by simp) E;have R:=World.grownBy_alloc u2 (.cells #[.slice (some ⟨a.heap.size,0,none⟩) 3 3,.slice (some ⟨a.heap.size+1,0,none⟩) 3 3,.slice (some ⟨a.heap.size+1+1,0,none⟩) 3 3] 24) none;have u:Ext a (u2.alloc (.cells #[.slice (some ⟨a.heap.size,0,none⟩) 3 3,.slice (some ⟨a.heap.size+1,0,none⟩) 3 3,.slice (some ⟨a.heap.size+1+1,0,none⟩) 3 3] 24)):=grown_trans D (grown_trans r (grown_trans J R));have al:u2.heap.size=a.heap.size+3:=by omega
   rw[T,z,n] at I;refine Calls.mono (kG _ 2 7 _ [[0,1,0],[0,0,1],[1,1,0]] Any I (by unfold iy Sm;simp) (by omega) (by omega) (by simp)) ?_;rintro Z G ⟨v3,rfl,g,hP⟩;have hP:=hP.q.mono (B':=a.heap.size) (Nat.le_refl _) u.size;have F:Ext a G:=grown_trans u g;clear I R u E O N D n P H r z ac X J T;obtain⟨vo,vp,vc,rfl,C⟩:=hP;have l:p.grownBy G (some sb):=grown_trans b (grown_of_ext (some sb) F);have K:=A.out.ext F
  rotate_left
  focus
   go_wp2_with fail
   have D:Ext a (a.alloc (.cells #[.int .i64 1,.int .i64 1,.int .i64 0] 2)):=World.grownBy_alloc _ _ _;have N:Ints Any (a.alloc (.cells #[.int .i64 1,.int .i64 1,.int .i64 0] 2)) (.slice (some ⟨a.heap.size,0,none⟩) 3 3) [1,1,0]:=Ints.sub (fN a [1,1,0] (by simp)) (λ_ _ _=>trivial);have n:(a.alloc (.cells #[.int .i64 1,.int .i64 1,.int .i64 0] 2)).heap.size=a.heap.size+1:=by simp
   generalize a.alloc (.cells #[.int .i64 1,.int .i64 1,.int .i64 0] 2)=u0 at *;have r:Ext u0 (u0.alloc (.cells #[.int .i64 0,.int .i64 1,.int .i64 1] 2)):=World.grownBy_alloc _ _ _;have H:Ints Any (u0.alloc (.cells #[.int .i64 0,.int .i64 1,.int .i64 1] 2)) (.slice (some ⟨u0.heap.size,0,none⟩) 3 3) [0,1,1]:=Ints.sub (fN u0 [0,1,1] (by simp)) (λ_ _ _=>trivial);have z:(u0.alloc (.cells #[.int .i64 0,.int .i64 1,.int .i64 1] 2)).heap.size=u0.heap.size+1:=by simp
   generalize u0.alloc (.cells #[.int .i64 0,.int .i64 1,.int .i64 1] 2)=u1 at *;have J:Ext u1 (u1.alloc (.cells #[.int .i64 0,.int .i64 0,.int .i64 1] 2)):=World.grownBy_alloc _ _ _;have X:Ints Any (u1.alloc (.cells #[.int .i64 0,.int .i64 0,.int .i64 1] 2)) (.slice (some ⟨u1.heap.size,0,none⟩) 3 3) [0,0,1]:=Ints.sub (fN u1 [0,0,1] (by simp)) (λ_ _ _=>trivial);have T:(u1.alloc (.cells #[.int .i64 0,.int .i64 0,.int .i64 1] 2)).heap.size=u1.heap.size+1:=by simp
   generalize u1.alloc (.cells #[.int .i64 0,.int .i64 0,.int .i64 1] 2)=u2 at *;rw[n] at H;rw[z,n] at X;have O:=Ints.ext (Ints.ext (N) r) J;have P:=Ints.ext (H) J;have ac:=X
   have E:∀i,i<([[1,1,0],[0,1,1],[0,0,1]]:List (List Int)).length->Ints Any u2 (gt ([.slice (some ⟨a.heap.size,0,none⟩) 3 3,.slice (some ⟨a.heap.size+1,0,none⟩) 3 3,.slice (some ⟨a.heap.size+1+1,0,none⟩) 3 3]:List Value) i) (gt ([[1,1,0],[0,1,1],[0,0,1]]:List (List Int)) i):=by
    intro i V;rcases(show i=0\/i=1\/i=2 by simp at V;omega) with rfl|rfl|rfl
    ·exact O
    ·exact P
    ·exact ac
   have I:=kH u2 [.slice (some ⟨a.heap.size,0,none⟩) 3 3,.slice (some ⟨a.heap.size+1,0,none⟩) 3 3,.slice (some ⟨a.heap.size+1+1,0,none⟩) 3 3] [[1,1,0],[0,1,1],[0,0,1]] rfl (by simp) E;have R:=World.grownBy_alloc u2 (.cells #[.slice (some ⟨a.heap.size,0,none⟩) 3 3,.slice (some ⟨a.heap.size+1,0,none⟩) 3 3,.slice (some ⟨a.heap.size+1+1,0,none⟩) 3 3] 24) none;have u:Ext a (u2.alloc (.cells #[.slice (some ⟨a.heap.size,0,none⟩) 3 3,.slice (some ⟨a.heap.size+1,0,none⟩) 3 3,.slice (some ⟨a.heap.size+1+1,0,none⟩) 3 3] 24)):=grown_trans D (grown_trans r (grown_trans J R));have al:u2.heap.size=a.heap.size+3:=by omega
   rw[T,z,n] at I;refine Calls.mono (kG _ 2 4 _ [[1,1,0],[0,1,1],[0,0,1]] Any I (by unfold iy Sm;simp) (by omega) (by omega) (by simp)) ?_;rintro Z G ⟨v3,rfl,g,hP⟩;have hP:=hP.q.mono (B':=a.heap.size) (Nat.le_refl _) u.size;have F:Ext a G:=grown_trans u g;clear I R u E O N D n P H r z ac X J T;obtain⟨vo,vp,vc,rfl,C⟩:=hP;have l:p.grownBy G (some sb):=grown_trans b (grown_of_ext (some sb) F);have K:=A.out.ext F
  rotate_left
  focus
   go_wp2_with fail
   have D:Ext a (a.alloc (.cells #[.int .i64 0,.int .i64 1,.int .i64 0,.int .i64 0] 2)):=World.grownBy_alloc _ _ _;have N:Ints Any (a.alloc (.cells #[.int .i64 0,.int .i64 1,.int .i64 0,.int .i64 0] 2)) (.slice (some ⟨a.heap.size,0,none⟩) 4 4) [0,1,0,0]:=Ints.sub (fN a [0,1,0,0] (by simp)) (λ_ _ _=>trivial);have n:(a.alloc (.cells #[.int .i64 0,.int .i64 1,.int .i64 0,.int .i64 0] 2)).heap.size=a.heap.size+1:=by simp
   generalize a.alloc (.cells #[.int .i64 0,.int .i64 1,.int .i64 0,.int .i64 0] 2)=u0 at *;have r:Ext u0 (u0.alloc (.cells #[.int .i64 1,.int .i64 0,.int .i64 0,.int .i64 0] 2)):=World.grownBy_alloc _ _ _;have H:Ints Any (u0.alloc (.cells #[.int .i64 1,.int .i64 0,.int .i64 0,.int .i64 0] 2)) (.slice (some ⟨u0.heap.size,0,none⟩) 4 4) [1,0,0,0]:=Ints.sub (fN u0 [1,0,0,0] (by simp)) (λ_ _ _=>trivial);have z:(u0.alloc (.cells #[.int .i64 1,.int .i64 0,.int .i64 0,.int .i64 0] 2)).heap.size=u0.heap.size+1:=by simp
   generalize u0.alloc (.cells #[.int .i64 1,.int .i64 0,.int .i64 0,.int .i64 0] 2)=u1 at *;have J:Ext u1 (u1.alloc (.cells #[.int .i64 0,.int .i64 0,.int .i64 0,.int .i64 1] 2)):=World.grownBy_alloc _ _ _;have X:Ints Any (u1.alloc (.cells #[.int .i64 0,.int .i64 0,.int .i64 0,.int .i64 1] 2)) (.slice (some ⟨u1.heap.size,0,none⟩) 4 4) [0,0,0,1]:=Ints.sub (fN u1 [0,0,0,1] (by simp)) (λ_ _ _=>trivial);have T:(u1.alloc (.cells #[.int .i64 0,.int .i64 0,.int .i64 0,.int .i64 1] 2)).heap.size=u1.heap.size+1:=by simp
   generalize u1.alloc (.cells #[.int .i64 0,.int .i64 0,.int .i64 0,.int .i64 1] 2)=u2 at *;have ad:Ext u2 (u2.alloc (.cells #[.int .i64 0,.int .i64 0,.int .i64 1,.int .i64 0] 2)):=World.grownBy_alloc _ _ _;have aG:Ints Any (u2.alloc (.cells #[.int .i64 0,.int .i64 0,.int .i64 1,.int .i64 0] 2)) (.slice (some ⟨u2.heap.size,0,none⟩) 4 4) [0,0,1,0]:=Ints.sub (fN u2 [0,0,1,0] (by simp)) (λ_ _ _=>trivial);have az:(u2.alloc (.cells #[.int .i64 0,.int .i64 0,.int .i64 1,.int .i64 0] 2)).heap.size=u2.heap.size+1:=by simp
   generalize u2.alloc (.cells #[.int .i64 0,.int .i64 0,.int .i64 1,.int .i64 0] 2)=u3 at *;rw[n] at H;rw[z,n] at X;rw[T,z,n] at aG;have O:=Ints.ext (Ints.ext (Ints.ext (N) r) J) ad;have P:=Ints.ext (Ints.ext (H) J) ad;have ac:=Ints.ext (X) ad;have aQ:=aG
   have E:∀i,i<([[0,1,0,0],[1,0,0,0],[0,0,0,1],[0,0,1,0]]:List (List Int)).length->Ints Any u3 (gt ([.slice (some ⟨a.heap.size,0,none⟩) 4 4,.slice (some ⟨a.heap.size+1,0,none⟩) 4 4,.slice (some ⟨a.heap.size+1+1,0,none⟩) 4 4,.slice (some ⟨a.heap.size+1+1+1,0,none⟩) 4 4]:List Value) i) (gt ([[0,1,0,0],[1,0,0,0],[0,0,0,1],[0,0,1,0]]:List (List Int)) i):=by
    intro i V;rcases(show i=0\/i=1\/i=2\/i=3 by simp at V;omega) with rfl|rfl|rfl|rfl
    ·exact O
    ·exact P
    ·exact ac
    ·exact aQ
   have I:=kH u3 [.slice (some ⟨a.heap.size,0,none⟩) 4 4,.slice (some ⟨a.heap.size+1,0,none⟩) 4 4,.slice (some ⟨a.heap.size+1+1,0,none⟩) 4 4,.slice (some ⟨a.heap.size+1+1+1,0,none⟩) 4 4] [[0,1,0,0],[1,0,0,0],[0,0,0,1],[0,0,1,0]] rfl (by simp) E;have R:=World.grownBy_alloc u3 (.cells #[.slice (some ⟨a.heap.size,0,none⟩) 4 4,.slice (some ⟨a.heap.size+1,0,none⟩) 4 4,.slice (some ⟨a.heap.size+1+1,0,none⟩) 4 4,.slice (some ⟨a.heap.size+1+1+1,0,none⟩) 4 4] 24) none;have u:Ext a (u3.alloc (.cells #[.slice (some ⟨a.heap.size,0,none⟩) 4 4,.slice (some ⟨a.heap.size+1,0,none⟩) 4 4,.slice (some ⟨a.heap.size+1+1,0,none⟩) 4 4,.slice (some ⟨a.heap.size+1+1+1,0,none⟩) 4 4] 24)):=grown_trans D (grown_trans r (grown_trans J (grown_trans ad R)));have al:u3.heap.size=a.heap.size+4:=by omega
   rw[az,T,z,n] at I;refine Calls.mono (kG _ 2 2 _ [[0,1,0,0],[1,0,0,0],[0,0,0,1],[0,0,1,0]] Any I (by unfold iy Sm;simp) (by omega) (by omega) (by simp)) ?_;rintro Z G ⟨v3,rfl,g,hP⟩;have hP:=hP.q.mono (B':=a.heap.size) (Nat.le_refl _) u.size;have F:Ext a G:=grown_trans u g;clear I R u E O N D n P H r z ac X J T aQ aG ad az;obtain⟨vo,vp,vc,rfl,C⟩:=hP;have l:p.grownBy G (some sb):=grown_trans b (grown_of_ext (some sb) F);have K:=A.out.ext F
  rotate_left
  focus
   go_wp2_with fail
   have D:Ext a (a.alloc (.cells #[.int .i64 0,.int .i64 1] 2)):=World.grownBy_alloc _ _ _;have N:Ints Any (a.alloc (.cells #[.int .i64 0,.int .i64 1] 2)) (.slice (some ⟨a.heap.size,0,none⟩) 2 2) [0,1]:=Ints.sub (fN a [0,1] (by simp)) (λ_ _ _=>trivial);have n:(a.alloc (.cells #[.int .i64 0,.int .i64 1] 2)).heap.size=a.heap.size+1:=by simp
   generalize a.alloc (.cells #[.int .i64 0,.int .i64 1] 2)=u0 at *;have r:Ext u0 (u0.alloc (.cells #[.int .i64 4,.int .i64 4] 2)):=World.grownBy_alloc _ _ _;have H:Ints Any (u0.alloc (.cells #[.int .i64 4,.int .i64 4] 2)) (.slice (some ⟨u0.heap.size,0,none⟩) 2 2) [4,4]:=Ints.sub (fN u0 [4,4] (by simp)) (λ_ _ _=>trivial);have z:(u0.alloc (.cells #[.int .i64 4,.int .i64 4] 2)).heap.size=u0.heap.size+1:=by simp
   generalize u0.alloc (.cells #[.int .i64 4,.int .i64 4] 2)=u1 at *;rw[n] at H;have O:=Ints.ext (N) r;have P:=H
   have E:∀i,i<([[0,1],[4,4]]:List (List Int)).length->Ints Any u1 (gt ([.slice (some ⟨a.heap.size,0,none⟩) 2 2,.slice (some ⟨a.heap.size+1,0,none⟩) 2 2]:List Value) i) (gt ([[0,1],[4,4]]:List (List Int)) i):=by
    intro i V;rcases(show i=0\/i=1 by simp at V;omega) with rfl|rfl
    ·exact O
    ·exact P
   have I:=kH u1 [.slice (some ⟨a.heap.size,0,none⟩) 2 2,.slice (some ⟨a.heap.size+1,0,none⟩) 2 2] [[0,1],[4,4]] rfl (by simp) E;have R:=World.grownBy_alloc u1 (.cells #[.slice (some ⟨a.heap.size,0,none⟩) 2 2,.slice (some ⟨a.heap.size+1,0,none⟩) 2 2] 24) none;have u:Ext a (u1.alloc (.cells #[.slice (some ⟨a.heap.size,0,none⟩) 2 2,.slice (some ⟨a.heap.size+1,0,none⟩) 2 2] 24)):=grown_trans D (grown_trans r R);have al:u1.heap.size=a.heap.size+2:=by omega
   rw[z,n] at I;refine Calls.mono (kG _ 5 3 _ [[0,1],[4,4]] Any I (by unfold iy Sm;simp) (by omega) (by omega) (by simp)) ?_;rintro Z G ⟨v3,rfl,g,hP⟩;have hP:=hP.q.mono (B':=a.heap.size) (Nat.le_refl _) u.size;have F:Ext a G:=grown_trans u g;clear I R u E O N D n P H r z;obtain⟨vo,vp,vc,rfl,C⟩:=hP;have l:p.grownBy G (some sb):=grown_trans b (grown_of_ext (some sb) F);have K:=A.out.ext F
  rotate_left
 rotate_left 6
 focus
  go_wp2_with fail
  refine Calls.mono (l01Next_ok B0 p sb 10 Y.out) ?_;rintro e2 a ⟨v2,rfl,b,y,rfl,hy0,hy1,hs2⟩;have hy:=hy1 (by omega);have A:=Lib.hid hs2;have ae:w.heap.size+1<=a.heap.size:=by have:=b.size;omega
  clear hy0 hy1 hs2;go_wp2_with fail
  refine Calls.mono (qQ a y hy.1 hy.2) ?_;rintro Z G ⟨v3,rfl,g,hP⟩;obtain⟨vo,vp,vc,rfl,C⟩:=hP;have l:p.grownBy G (some sb):=grown_trans b (grown_of_ext (some sb) g);have K:=A.out.ext g
 rotate_left
 focus
  go_wp2_with fail
  refine Calls.mono (l01Next_ok B0 p sb 10 Y.out) ?_;rintro e2 a ⟨v2,rfl,b,y,rfl,hy0,hy1,hs2⟩;have hy:=hy1 (by omega);have A:=Lib.hid hs2;have ae:w.heap.size+1<=a.heap.size:=by have:=b.size;omega
  clear hy0 hy1 hs2;go_wp2_with fail
  refine Calls.mono (qQ a y hy.1 hy.2) ?_;rintro Z G ⟨v3,rfl,g,hP⟩;obtain⟨vo,vp,vc,rfl,C⟩:=hP;have l:p.grownBy G (some sb):=grown_trans b (grown_of_ext (some sb) g);have K:=A.out.ext g
 rotate_left
 all_goals
  obtain⟨a1,n1,c1,a2,n2,c2,a3,n3,c3,rfl,rfl,rfl⟩:=C.shape;have W:=Box3.keep ah l.size (l.block _ ah.1 (λe=>by have:=Option.some.inj e;omega));have U:=grown_trans aj l;obtain⟨b0,b1,b2,b3,b4⟩:=id W;have hZ:=W.all (.slice a1 n1 c1) (.slice a2 n2 c2) (.slice a3 n3 c3);obtain⟨-,z0,z1,z2,-⟩:=id hZ;have HF:=Lib.hid (And.intro U (And.intro C K));clear hZ U C W;go_wp2_with fail
  refine bodyPost_ret (v := .agg #[.slice a1 n1 c1,.slice a2 n2 c2,.slice a3 n3 c3]) (by simp[results,Tryz.results290,go_sem,z0,z1,z2]) rfl ?_;exact oh HF.out.1 (B:=a.heap.size) (by omega) HF.out.2.2 aA HF.out.2.1 (by omega)
end Go.Proofs.YtdcobapnlpeaaaaGreat
namespace Go.Proofs.YtdcobapnlpeaaaaGreat
open Go.RowKit
theorem uU (T E:Nat) (z:Value) (bytes:Nat) (H:Tryz.prog.underlying T=some (.slice E)) (X:(Tryz.prog.info? E).map (λi=>(i.zero,i.size,i.bytes))=some (some z,1,bytes))
  (B:z.cells.size=1) (C:bytes<=64) {D:Array Oper}{o:Oper}{a:Act}{K:Act->World->Prop}{Q:Exit->Act->World->Prop}{Y:Prop}{w:World}(r:o.guard=none) (s x:Operand)
  (I:o.op=Op.call { callee:=Callee.builtin Builtin.append,args := #[s,x],argTypes := #[T,T] }) (base g cap:Nat) (xs:List Value) (J:a.eval s=.slice (some ⟨g,0,none⟩) xs.length cap) (l:OwnV base E w (.slice (some ⟨g,0,none⟩) xs.length cap) xs)
  (G:Option Addr) (m c:Nat) (k:List Value) (hx:a.eval x=.slice G m c) (O:k.length=m) (L:G=none->c=0)
  (n:∀j,j<m->∃b off,G=some ⟨b,off,none⟩/\w.cell? ⟨b,off+j,none⟩=some (gt k j)) (h1:∀u,u∈k->u.oneCell'=true) (R:xs.length+m<=1000000) (v:base<=w.heap.size)
  (h:∀S w',OwnV base E w' S (xs++k)->w.grownBy w' (some g)->K (a.put o.dst S) w') :
  if Region.wanted o (yielded D a.tmps)=true then Oper.wp Tryz.prog o a w K Q else Y:=by
 obtain⟨M,hi,hz0,hz1,hz2⟩:=info_parts X;have Z:Region.wanted o (yielded D a.tmps)=true:=by simp[Region.wanted,r]
 rcases Nat.eq_zero_or_pos m with rfl|U
 ·have hn:k=[]:=List.eq_nil_of_length_eq_zero O
  subst hn;have p:=l;rw[List.append_nil] at h;cases G with
  | none=>
   have A:=L rfl;subst A;rw[if_pos Z];have F:=run_append_owned_none (P:=Tryz.prog) (w:=w) base T o.type E M 1 H hi _ xs.length xs l;unfold Oper.wp;simp[execOp,I,resolve,invoke,builtin,J,hx,F,Result.andThen]
   exact h _ _ p (grown_refl _ _)
  | some ad=>
   have V:xs.length<=cap:=by
    rcases l.form with⟨h,_⟩|⟨g',cp,hv,A,_⟩
    ·cases h
    ·simp only[Value.slice.injEq] at hv;omega
   refine step_append_at w r s x T I E M z 1 bytes H hi hz0 hz1 hz2 B (by decide) g 0 xs.length cap xs J (by omega) (λj u q => ?_) ad 0 c [] hx rfl (by simp) (by simp) (λ_ j q=>by simp at q) (by unfold maxLen;omega) (by have:=Nat.mul_le_mul (show xs.length+0<=1000000 by omega) C;omega) (λ_ => ?_) (λh=>by omega)
   ·have y:j<xs.length:=by
     rcases Nat.lt_or_ge j xs.length with h|h
     ·exact h
     ·rw[List.getElem?_eq_none h] at q;cases q
    rw[Nat.zero_add,l.cell j y];simp[gt,q]
   ·have e:w.setCells g (0+xs.length*1) []=w:=by simp[World.setCells]
    rw[e];exact h _ _ p (grown_refl _ _)
 ·obtain ⟨b,off,rfl,_⟩:=n 0 U
  refine step_append_lies w r s x T I base E M z 1 bytes H hi hz0 hz1 hz2 B (by decide) _ xs.length xs J l ⟨b,off,none⟩ m c k hx (by omega) (λj u q => ?_) h1 U (by unfold maxLen;omega) (by have:=Nat.mul_le_mul (show xs.length+m<=1000000 by omega) C;omega) v w.heap.size rfl ?_
  ·have y:j<m:=by
    rcases Nat.lt_or_ge j k.length with h|h
    ·omega
    ·rw[List.getElem?_eq_none h] at q;cases q
   obtain⟨b',off',he,A⟩:=n j y;cases he
   have N:gt k j=u:=by simp[gt,q]
   rw[N] at A;unfold Addr.add;split
   ·rename_i h0;subst h0;exact A
   ·exact A
  ·intro g' W w' k1 k2 k3 _
   exact h _ w' (by unfold OwnV;rw[List.length_append,O];exact k1) k2
theorem uW {q:Array Oper}{o:Oper}{a:Act}{K:Act->World->Prop}{Q:Exit->Act->World->Prop}{D:Prop}{w:World}(r:o.guard=none) (s x:Operand)
  (E:o.op=Op.call { callee:=Callee.builtin Builtin.append,args := #[s,x],argTypes := #[24,24] }) (B g cap n:Nat) (l m:List Int) (y:l.length=n) (F:a.eval s=.slice (some ⟨g,0,none⟩) n cap)
  (i:Own B w (.slice (some ⟨g,0,none⟩) n cap) l) (v:Value) (S:Nat->Prop) (G:Ints S w v m) (hx:a.eval x=v) (k:l.length+m.length<=1000000) (e:B<=w.heap.size)
  (h:∀p w',Own B w' p (l++m)->w.grownBy w' (some g)->K (a.put o.dst p) w') :
  if Region.wanted o (yielded q a.tmps)=true then Oper.wp Tryz.prog o a w K Q else D:=by
 subst y;obtain⟨H,c,rfl,⟨_,_,I⟩,hc⟩:=G;have z:(l.map (Value.int .i64)).length=l.length:=List.length_map ..;refine uU 24 2 (.int .i64 0) 8 und_ints Tryz.infoInt rfl (by decide) r s x E B g cap (l.map (Value.int .i64)) (by rw[z];exact F) (by have:=i.v;rw[z];exact this) H m.length c (m.map (Value.int .i64)) hx (by simp) I (λj A => ?_) (λu C => ?_) (by rw[z];exact k) e (λp w' J L => ?_)
 ·obtain ⟨b,off,u,h1,_,_,M,h3⟩:=hc j A
  exact⟨b,off,h1,by rw[M,h3];simp[gt,A]⟩
 ·simp at C
  obtain⟨x,_,rfl⟩:=C;rfl
 ·exact h p w' (Own.of (by rw[List.map_append];exact J)) L
end Go.Proofs.YtdcobapnlpeaaaaGreat
namespace Go.Proofs.YtdcobapnlpeaaaaGreat
open Go.RowKit
attribute [local go_sem ↓] Go.wp_at_zero Go.wp_at_succ
theorem uX (w:World) (v:Value) (l:List Int) (S:Nat->Prop) (m:Ints S w v l) (q:l.length<=1048576) :
  Calls Tryz.prog 199 #[v] w (Ret w λw' r=>Own w.heap.size w' r l/\∃g c,r=.slice (some ⟨g,0,none⟩) l.length c/\w.heap.size<=g):=by
 obtain⟨a,cap,rfl,_,_⟩:=m.shape;go_enter Tryz.func199,Tryz.ntmps199;go_wp2_with (at_builtin;refine wp_app_ints rfl _ _ rfl w.heap.size _ [] rfl (World.ownsRow_lit w #[] 0 (Nat.le_refl _) (by decide) rfl) _ l rfl S (m.ext (World.grownBy_alloc _ _ _)) (by simp;omega) (by simp) ?_;intro u y b i k)
 go_ret;refine⟨_,rfl,grown_own (World.grownBy_alloc _ _ _) i (λj n p=>by have:=own_blk n;omega),b,?_⟩;rcases b.v.form with⟨h1,_⟩|⟨g,c,h1,_,h2,_⟩
 ·exact absurd (k.1 h1).1 (by intro e;cases e)
 ·exact⟨g,c,by rw[h1];simp,h2⟩
def qR (w0:World) (o:List Int) (q:Value) (a:World):Prop:=∃pb b co ap e g i,q=.pointer (some ⟨pb,0,none⟩)/\Ext w0 a /\
 BX 40 o w0.heap.size pb a (.slice b o.length co) (.slice ap o.length e) (.slice g o.length i)
theorem qT {w0 g b:World}{o:List Int}{pb co i j:Nat}{l ap m:Option Addr}{B:Nat}(p:o.length<=40) (q:PresX (From B) g (.slice l o.length co) (.slice ap o.length i) (.slice m o.length j) (trivP o)) (hB:w0.heap.size<=B) (r:w0.heap.size<=pb)
  (u:pb<B\/g.heap.size<=pb) (v:Ext w0 b) (n:g.grownBy b (some pb)) (w:Box3 b pb (.slice l o.length co) (.slice ap o.length i) (.slice m o.length j)):qR w0 o (.pointer (some ⟨pb,0,none⟩)) b:=
 ⟨pb,l,co,ap,i,m,j,rfl,v,r,w,trivP o,trivP_shp o p,rfl,q.mono (λk hk a=>by
  have y:B<=k:=hk;exact⟨⟨by omega,by omega⟩,Nat.lt_of_lt_of_le a n.size,n.block k a (λe=>by cases e;omega)⟩)⟩
theorem uY (w:World) (pa pb:Value) (A B:Pr) (Sa Sb:Nat->Prop) (ha:PresV Sa w pa A) (hb:PresV Sb w pb B) (hA:Shp 20 A) (hB:Shp 20 B) :
  Calls Tryz.prog 291 #[pa,pb] w (Ret w (PresN 40 w.heap.size)):=by
 obtain⟨vo,vp,vc,rfl,h3⟩:=ha;obtain⟨uo,up,uc,rfl,k3⟩:=hb;obtain⟨ao,ax,jX,_,_⟩:=h3.o.shape;obtain⟨ap,cap,hv2,_,_⟩:=Sl.shape h3.p;obtain⟨ac,ay,hv3,_,_⟩:=Sl.shape h3.c;obtain⟨bo,aA,lB,_,_⟩:=k3.o.shape;obtain⟨bp,aB,uZ,_,_⟩:=Sl.shape k3.p;obtain⟨bc,aC,u5,_,_⟩:=Sl.shape k3.c;subst jX hv2 hv3 lB uZ u5;obtain⟨w0,ae⟩:∃w0,w0=((w.alloc (.cells #[.slice ao A.orders.length ax,.slice ap A.powers.length cap,.slice ac A.conj.length ay] 28)).alloc (.cells #[.slice bo B.orders.length aA,.slice bp B.powers.length aB,.slice bc B.conj.length aC] 28)).alloc (.cells #[.slice none 0 0,.slice none 0 0,.slice none 0 0] 28):=⟨_,rfl⟩;have bK:Ext w w0:=by rw[ae];exact grown_trans (World.grownBy_alloc _ _ _) (grown_trans (World.grownBy_alloc _ _ _) (World.grownBy_alloc _ _ _))
 have bk:Box3 w0 w.heap.size (.slice ao A.orders.length ax) (.slice ap A.powers.length cap) (.slice ac A.conj.length ay):=by rw[ae];exact((Box3.made w 28 _ _ _).ext (World.grownBy_alloc _ _ _)).ext (World.grownBy_alloc _ _ _)
 have bl:Box3 w0 (w.heap.size+1) (.slice bo B.orders.length aA) (.slice bp B.powers.length aB) (.slice bc B.conj.length aC):=by
  have h:=(Box3.made (w.alloc (.cells #[.slice ao A.orders.length ax,.slice ap A.powers.length cap,.slice ac A.conj.length ay] 28)) 28 (.slice bo B.orders.length aA) (.slice bp B.powers.length aB) (.slice bc B.conj.length aC)).ext (World.grownBy_alloc _ (.cells #[.slice none 0 0,.slice none 0 0,.slice none 0 0] 28) _);rw[ae];simpa using h
 have bm:Box3 w0 (w.heap.size+1+1) (.slice none 0 0) (.slice none 0 0) (.slice none 0 0):=by
  have h:=Box3.made ((w.alloc (.cells #[.slice ao A.orders.length ax,.slice ap A.powers.length cap,.slice ac A.conj.length ay] 28)).alloc (.cells #[.slice bo B.orders.length aA,.slice bp B.powers.length aB,.slice bc B.conj.length aC] 28)) 28 (.slice none 0 0) (.slice none 0 0) (.slice none 0 0);rw[ae];simpa using h
 have aQ:w0.heap.size=w.heap.size+3:=by rw[ae];simp
 have L:=Lib.hid (And.intro bk (And.intro bl (And.intro bm (And.intro aQ (And.intro hA hB)))));clear bk bl bm aQ hA hB;go_enter Tryz.func291,Tryz.ntmps291;go_wp2_with fail
 rw[<-ae];clear ae;obtain⟨_,f0,f1,f2,_⟩:=id L.out.1;obtain⟨_,g0,g1,g2,_⟩:=id L.out.2.1;go_quiet (fail)
 rename_i nq _;obtain⟨M,a1⟩:∃M,M=w0.drewN nq:=⟨_,rfl⟩;have aD:Ext w0 M:=by rw[a1];exact grown_drewN _ _ _
 rw[<-a1];clear a1 f0 f1 f2 g0 g1 g2;have a2:=grown_trans bK aD;have a3:=h3.ext a2;have a4:=k3.ext a2;have bn:=L.out.1.ext aD;have bq:=L.out.2.1.ext aD;have br:=L.out.2.2.1.ext aD;have a7:=L.out.2.2.2.2.1;have a9:=L.out.2.2.2.2.2;have aQ:=L.out.2.2.2.1;have b7:=aD.size;clear L h3 k3;have b8:A.orders.length<=20:=a7.n;have b9:B.orders.length<=20:=a9.n;obtain⟨o,ho⟩:∃o,o=A.orders++B.orders:=⟨_,rfl⟩;have bs:o.length=A.orders.length+B.orders.length:=by rw[ho];simp
 have aF:o.length<=40:=by omega
 have L:=Lib.hid (And.intro bn (And.intro bq (And.intro br (And.intro a7 (And.intro a9 (And.intro ho (And.intro bs aQ)))))));clear bn bq br a7 a9 ho bs;have e0:∀w',Ext M w'->w'.cell? ⟨w.heap.size,0,none⟩=some (.slice ao A.orders.length ax):=λw' h=>(L.out.1.ext h).2.1;have e1:∀w',Ext M w'->w'.cell? ⟨w.heap.size+1,0,none⟩=some (.slice bo B.orders.length aA):=λw' h=>(L.out.2.1.ext h).2.1;go_wp2_with fail
 go_cut [7] (λqv wx=>qR M o qv wx)
 case first=>
  go_region_held3 (λw'=>Ext M w') (first|exact grown_drew _ _|assumption|exact grown_trans (by assumption) (World.grownBy_alloc _ _ _)|exact grown_own (by assumption) (grown_set3 _ _ _ _ _) (λj hj D=>by cases hj;first|(exact absurd D (Nat.lt_irrefl _))|(have:=qU.size;omega)|(have:=aV.size;omega)|(have:=qV.size;omega)))
   (first
    | (go_at_call 199;refine Calls.mono (Calls.rel2 (w0:=M) (by assumption) (uX _ _ A.orders Sa (Ints.ext a3.o (by assumption)) (by omega))) ?_;rintro eO wO ⟨vO,rfl,qU,aW,bt,a',gO,cO,rfl,bu⟩;(first|(have hQ:=Box3.ext (Box3.made _ _ _ _ _) aW)|(have hQ:=Box3.ext (Box3.made _ _ _ _ _) (grown_trans (grown_drew _ _) aW))|skip);(try obtain⟨f0,f1,f2,f3,f4⟩:=id hQ))
    | (refine uW rfl _ _ rfl M.heap.size gO cO A.orders.length A.orders B.orders rfl (by rfl) (by first|exact a'.weak bt|exact(a'.weak bt).ext0 (World.grownBy_alloc _ _ _)) _ Sb (Ints.ext a4.o (by assumption)) (by rfl) (by omega) ((show Ext M _ by assumption).size) ?_;intro v8 w8 ba aG;rw[<-L.out.2.2.2.2.2.1] at ba;obtain⟨a8,c8,iz,_⟩:=(ba.ints (by omega)).shape;subst iz;have bv:=Ints.sub (ba.ints (by omega)) (S':=Any) (λ_ _ _=>trivial);have aV:Ext M w8:=grown_own (by assumption) aG (λj hj D=>by cases hj;omega);(first|(have hQ:=Box3.keep hQ aG.size (aG.block _ hQ.1 (λe=>by cases e;first|omega|(simp[World.drew] at bu<;>omega))))|(have hQ:=Box3.keep (Box3.made wO 28 (.slice none 0 0) (.slice none 0 0) (.slice none 0 0)) aG.size (aG.block _ (by simp) (λe=>by cases e;exact absurd (show wO.heap.size<wO.heap.size from(a'.lt _ rfl).2) (Nat.lt_irrefl _))))|skip);(try obtain⟨f0,f1,f2,f3,f4⟩:=id hQ))
    | (go_at_call 292;refine Calls.mono (Calls.rel2 (w0:=M) (by assumption) (l07Trivial_ok _ _ o Any (by first|exact bv|exact Ints.ext bv (World.grownBy_alloc _ _ _)) (Nat.le_trans aF (by decide)))) ?_;rintro eT wT ⟨vT,rfl,qV,aX,bw,vo,vp,vc,rfl,G⟩;obtain⟨xo,co,xp,cp,xc,cc,rfl,rfl,rfl⟩:=trivX_shape G;(try have hQ:=Box3.ext hQ aX);(first|(have hQ:=Box3.ext (Box3.made _ _ _ _ _) aX)|skip);(try obtain⟨f0,f1,f2,f3,f4⟩:=id hQ)))
  all_goals (try go_wp2_with fail)
  all_goals go_meet
  all_goals
   have cg:=qU.size;have ch:=aV.size;have ci:=qV.size
   first
    | exact qT aF G bw (by omega) (.inr (Nat.le_refl _)) (grown_trans (by assumption) (World.grownBy_alloc _ _ _)) (World.grownBy_alloc _ _ _) (Box3.made _ _ _ _ _)
    | exact qT aF G bw (by omega) (.inl (by first|omega|(simp;done)|(simp;omega))) (by assumption) (grown_set3 _ _ _ _ _) (hQ.all _ _ _)
  done
 case rest =>
  obtain⟨rb,xo,co,xp,cp,xc,cc,rfl,aH,H⟩:=hcut;clear e0 e1;go_wp2;go_loopw [8] (λiv wr=>∃i:Nat,iv=.int .i64 i/\i<=A.orders.length/\Ext M wr/\BX 40 o M.heap.size rb wr (.slice xo o.length co) (.slice xp o.length cp) (.slice xc o.length cc)) (λiv _=>A.orders.length-(intOf iv).toNat)
  case atStart=>exact⟨0,rfl,by omega,aH,H⟩
  case round=>
   clear H aH;obtain⟨i,rfl,hi,F,H⟩:=hrel;by_cases D:i<A.orders.length
   ·have an:(i:Int)<A.orders.length:=by omega
    have m:=L.out.2.2.2.1;have E:=L.out.2.2.2.2.2.2.1;have bx:=L.out.2.2.2.2.2.2.2;have aI:i<A.powers.length:=by rw[m.p];exact D
    have bz:(i:Int)<A.powers.length:=by omega
    have cj:((i:Nat):Int)<o.length:=by omega
    have hK:i=i:=rfl;obtain⟨g,capg,z,fS,hgB,iI,hgl,aJ,aK⟩:=H.storeP i (by omega);obtain⟨rfl,rfl⟩:xp=some ⟨g,0,none⟩/\cp=capg:=by cases fS;exact⟨rfl,rfl⟩
    clear fS;obtain⟨b2,o2,az,X,aL,_,u6,u,q⟩:=Rows2.at a3.p i aI;have ag:=F.cell u (by simp);have N:=m.pv _ (gtMem aI);obtain⟨O,P⟩:∃O,O=gt A.powers i:=⟨_,rfl⟩;rw[<-P] at ag q N;clear P u;have U:=L.out.1.ext F;have e1:∀w',Near wr g w'->w'.cell? ⟨rb,1,none⟩=some (.slice (some ⟨g,0,none⟩) o.length cp):=λw' h=>h.cell H.box.2.2.1 (by simp;omega);have e2:∀w',Near wr g w'->w'.cell? ⟨w.heap.size,1,none⟩=some (.slice (some ⟨b2,o2,none⟩) A.powers.length cap):=λw' h=>h.cell (by rw[<-aL];exact U.2.2.1) (by simp;omega);have e3:∀w',Near wr g w'->w'.cell? ⟨b2,o2+i,none⟩=some (.slice az O.length X):=λw' h=>h.cell ag (by simp;omega)
    have y:∀w',Ext wr w'->Calls Tryz.prog 321 #[.int .i64 0,.slice az O.length X,.int .i64 B.orders.length] w' (Ret w' λah r=>∃l,l.length<=40/\Own w'.heap.size ah r l):=λw' he=>
     Calls.mono (l07Shift_ok w' 0 _ O B.orders.length _ (Ints.ext q (grown_trans F he)) (by omega)) (λe w2 ⟨v,h1,h2,h3⟩=>⟨v,h1,h2,_,by rw[shiftL_len];omega,h3⟩)
    have T:=Lib.hid (And.intro H (And.intro aK (And.intro aJ (And.intro y (And.intro m (And.intro E hK))))));clear H aK aJ y ag q N U m E aL hK;go_wp2
    go_region_held3 (λw'=>Near wr g w') (first|exact Near.of (grown_drew _ _)|exact Near.of (by assumption)|exact Near.store (by assumption)|assumption)
     (first
      | (go_at_call 321;refine Calls.mono (Calls.rel (w0:=wr) (by first|exact grown_drew _ _|assumption) (T.out.2.2.2.1 _ (by first|exact grown_drew _ _|assumption))) ?_;rintro eE S ⟨vE,rfl,a,gJ,lE,C,I⟩;obtain⟨aE,cE,fQ,_⟩:=(I.ints (Nat.le_trans C (by decide))).shape;subst fQ;have V:=(T.out.2.2.1 S a).1;have ai:=(T.out.2.2.1 S a).2))
    have G:=T.out.2.1 S _ lE a (OwnIn.of I (Nat.le_trans C (by decide)) (λk hk _=>Nat.le_trans (by assumption) hk)) C;have W:Ext M (S.setCell ⟨g,i,none⟩ (.slice aE lE.length cE)):=grown_own (grown_trans F a) (grown_set1 _ _ _ _) (λj hj D=>by cases hj;omega);have m:=T.out.2.2.2.2.1;have E:=T.out.2.2.2.2.2.1;have aM:i<A.conj.length:=by rw[m.c];exact D
    have bB:(i:Int)<A.conj.length:=by omega
    have hK:=T.out.2.2.2.2.2.2;obtain⟨b3,o3,a5,lC,J,_,u7,u,q⟩:=Rows3.at a3.c i aM;have Q:=m.cl i D;have aj:∀v∈gt A.conj i,v.length<=20:=λv hv=>m.cv _ (gtMem aM) v hv;obtain⟨R,hR⟩:∃R,R=gt A.conj i:=⟨_,rfl⟩;rw[<-hR] at u q Q aj;have HC:=Lib.hid (And.intro Q (And.intro aj (And.intro E (And.intro hK (And.intro J q)))));clear Q aj E hK J q m hR T;clear V ai e1 e2 e3;clear a I C gJ F;go_wp2;generalize S.setCell ⟨g,i,none⟩ (.slice aE lE.length cE)=w7 at *;go_loopw [9] (λjv wr=>∃j:Nat,jv=.int .i64 j/\j<=R.length/\Ext M wr/\BX 40 o M.heap.size rb wr (.slice xo o.length co) (.slice (some ⟨g,0,none⟩) o.length cp) (.slice xc o.length cc)) (λjv _=>R.length-(intOf jv).toNat)
    case atStart=>exact⟨0,rfl,by omega,W,G⟩
    case round=>
     clear G W;obtain⟨j,rfl,hj,F,H⟩:=hrel;have U:=L.out.1.ext F;have q:=HC.out.2.2.2.2.2;have J:=HC.out.2.2.2.2.1;have d2:=U.2.2.2.1;rw[J] at d2;have d3:=F.cell u (by simp);by_cases Y:j<R.length
     ·have ak:(j:Int)<R.length:=by omega
      have Q:=HC.out.1;have E:=HC.out.2.2.1;have hK:=HC.out.2.2.2.1;have aN:j<o.length-1-i:=by omega
      obtain⟨gc,capc,b,aO,z2,gz,hcB,gW,V,hcell,jV,mM,hbg,hbl,Z,aa⟩:=H.storeC i j (by omega) aN;obtain⟨rfl,rfl⟩:xc=some ⟨gc,0,none⟩/\cc=capc:=by cases gz;exact⟨rfl,rfl⟩
      clear gz;obtain⟨b6,o6,a6,ab,rfl,_,ve,lD,al⟩:=Rows2.at q j Y;have am:=F.cell lD (by simp);have N:=HC.out.2.1 _ (gtMem Y);obtain⟨O,P⟩:∃O,O=gt R j:=⟨_,rfl⟩;rw[<-P] at am al N;clear P lD;have e1:∀w',Near wr b w'->w'.cell? ⟨rb,2,none⟩=some (.slice (some ⟨gc,0,none⟩) o.length cc):=λw' h=>h.cell H.box.2.2.2.1 (by simp;omega);have e2:∀w',Near wr b w'->w'.cell? ⟨gc,i,none⟩=some (.slice (some ⟨b,0,none⟩) (o.length-1-i) aO):=λw' h=>h.cell hcell (by simp;omega);have e3:∀w',Near wr b w'->w'.cell? ⟨w.heap.size,2,none⟩=some (.slice (some ⟨b3,o3,none⟩) A.conj.length ay):=λw' h=>h.cell d2 (by simp;omega);have e4:∀w',Near wr b w'->w'.cell? ⟨b3,o3+i,none⟩=some (.slice (some ⟨b6,o6,none⟩) R.length lC):=λw' h=>h.cell d3 (by simp;omega);have e5:∀w',Near wr b w'->w'.cell? ⟨b6,o6+j,none⟩=some (.slice a6 O.length ab):=λw' h=>h.cell am (by simp;omega)
      have y:∀w',Ext wr w'->Calls Tryz.prog 321 #[.int .i64 0,.slice a6 O.length ab,.int .i64 B.orders.length] w' (Ret w' λah r=>∃l,l.length<=40/\Own w'.heap.size ah r l):=λw' he=>
       Calls.mono (l07Shift_ok w' 0 _ O B.orders.length _ (Ints.ext al (grown_trans F he)) (by omega)) (λe w2 ⟨v,h1,h2,h3⟩=>⟨v,h1,h2,_,by rw[shiftL_len];omega,h3⟩)
      have bT:(j:Int)<((o.length-1-i:Nat):Int):=by omega
      have bU:(i:Int)<o.length:=by omega
      have HY:=Lib.hid (And.intro aa (And.intro Z y));clear aa Z y hcell am al N H;go_wp2;clear d2 d3;clear Q E hK J aN
      go_region_held3 (λw'=>Near wr b w') (first|exact Near.of (grown_drew _ _)|exact Near.of (by assumption)|exact Near.store (by assumption)|assumption)
       (first
        | (go_at_call 321;refine Calls.mono (Calls.rel (w0:=wr) (by first|exact grown_drew _ _|assumption) (HY.out.2.2 _ (by first|exact grown_drew _ _|assumption))) ?_;rintro eE S ⟨vE,rfl,a,gJ,lE,C,I⟩;obtain⟨aE,cE,fQ,_⟩:=(I.ints (Nat.le_trans C (by decide))).shape;subst fQ;have V:=(HY.out.2.1 S a).1;have ai:=(HY.out.2.1 S a).2))
      have G:=HY.out.1 S _ lE a (OwnIn.of I (Nat.le_trans C (by decide)) (λk hk _=>Nat.le_trans (by assumption) hk)) C;have W:Ext M (S.setCell ⟨b,j,none⟩ (.slice aE lE.length cE)):=grown_own (grown_trans F a) (grown_set1 _ _ _ _) (λj hj D=>by cases hj;omega);clear V ai e1 e2 e3 e4 e5;go_wp2;go_roundw
      case rel=>exact⟨j+1,by go_num,by omega,W,G⟩
      case measure=>simp[intOf];omega
     ·have ak:¬((j:Int)<R.length):=by omega
      clear J;go_wp2;go_roundw
      case rel=>exact⟨i+1,by go_num,by omega,F,H⟩
      case measure=>simp[intOf];omega
   ·have an:¬((i:Int)<A.orders.length):=by omega
    go_wp2;have aH:=F;clear F hi D an;go_loopw [10] (λiv wr=>∃i:Nat,iv=.int .i64 i/\i<=B.orders.length/\Ext M wr/\BX 40 o M.heap.size rb wr (.slice xo o.length co) (.slice xp o.length cp) (.slice xc o.length cc)) (λiv _=>B.orders.length-(intOf iv).toNat)
    case atStart=>exact⟨0,rfl,by omega,aH,H⟩
    case round=>
     clear H aH;obtain⟨i,rfl,hi,F,H⟩:=hrel;by_cases D:i<B.orders.length
     ·have an:(i:Int)<B.orders.length:=by omega
      have m:=L.out.2.2.2.2.1;have E:=L.out.2.2.2.2.2.2.1;have bx:=L.out.2.2.2.2.2.2.2;have aI:i<B.powers.length:=by rw[m.p];exact D
      have bz:(i:Int)<B.powers.length:=by omega
      obtain⟨K,hK⟩:∃K,K=(A.orders.length+i):=⟨_,rfl⟩;obtain⟨g,capg,z,fS,hgB,iI,hgl,aJ,aK⟩:=H.storeP K (by omega);obtain⟨rfl,rfl⟩:xp=some ⟨g,0,none⟩/\cp=capg:=by cases fS;exact⟨rfl,rfl⟩
      clear fS;obtain⟨b2,o2,az,X,aL,_,u6,u,q⟩:=Rows2.at a4.p i aI;have ag:=F.cell u (by simp);have N:=m.pv _ (gtMem aI);obtain⟨O,P⟩:∃O,O=gt B.powers i:=⟨_,rfl⟩;rw[<-P] at ag q N;clear P u;have U:=L.out.2.1.ext F;have e1:∀w',Near wr g w'->w'.cell? ⟨rb,1,none⟩=some (.slice (some ⟨g,0,none⟩) o.length cp):=λw' h=>h.cell H.box.2.2.1 (by simp;omega);have e2:∀w',Near wr g w'->w'.cell? ⟨w.heap.size+1,1,none⟩=some (.slice (some ⟨b2,o2,none⟩) B.powers.length aB):=λw' h=>h.cell (by rw[<-aL];exact U.2.2.1) (by simp;omega);have e3:∀w',Near wr g w'->w'.cell? ⟨b2,o2+i,none⟩=some (.slice az O.length X):=λw' h=>h.cell ag (by simp;omega)
      have y:∀w',Ext wr w'->Calls Tryz.prog 321 #[.int .i64 A.orders.length,.slice az O.length X,.int .i64 0] w' (Ret w' λah r=>∃l,l.length<=40/\Own w'.heap.size ah r l):=λw' he=>
       Calls.mono (l07Shift_ok w' A.orders.length _ O 0 _ (Ints.ext q (grown_trans F he)) (by omega)) (λe w2 ⟨v,h1,h2,h3⟩=>⟨v,h1,h2,_,by rw[shiftL_len];omega,h3⟩)
      have T:=Lib.hid (And.intro H (And.intro aK (And.intro aJ (And.intro y (And.intro m (And.intro E hK))))));clear H aK aJ y ag q N U m E aL hK;go_wp2;have bh:=lz ((A.orders.length:Int)+i) (K:Int) (by rw[T.out.2.2.2.2.2.2];omega) (by omega);obtain⟨q1,q2⟩:=bh;have cm:(K:Int)<o.length:=by clear q1 q2;have:=T.out.2.2.2.2.2.2;have:=T.out.2.2.2.2.2.1;omega
      go_region_held3 (λw'=>Near wr g w') (first|exact Near.of (grown_drew _ _)|exact Near.of (by assumption)|exact Near.store (by assumption)|assumption)
       (first
        | (go_at_call 321;refine Calls.mono (Calls.rel (w0:=wr) (by first|exact grown_drew _ _|assumption) (T.out.2.2.2.1 _ (by first|exact grown_drew _ _|assumption))) ?_;rintro eE S ⟨vE,rfl,a,gJ,lE,C,I⟩;obtain⟨aE,cE,fQ,_⟩:=(I.ints (Nat.le_trans C (by decide))).shape;subst fQ;have V:=(T.out.2.2.1 S a).1;have ai:=(T.out.2.2.1 S a).2))
      clear q1 q2;have G:=T.out.2.1 S _ lE a (OwnIn.of I (Nat.le_trans C (by decide)) (λk hk _=>Nat.le_trans (by assumption) hk)) C;have W:Ext M (S.setCell ⟨g,K,none⟩ (.slice aE lE.length cE)):=grown_own (grown_trans F a) (grown_set1 _ _ _ _) (λj hj D=>by cases hj;omega);have m:=T.out.2.2.2.2.1;have E:=T.out.2.2.2.2.2.1;have aM:i<B.conj.length:=by rw[m.c];exact D
      have bB:(i:Int)<B.conj.length:=by omega
      have hK:=T.out.2.2.2.2.2.2;obtain⟨b3,o3,a5,lC,J,_,u7,u,q⟩:=Rows3.at a4.c i aM;have Q:=m.cl i D;have aj:∀v∈gt B.conj i,v.length<=20:=λv hv=>m.cv _ (gtMem aM) v hv;obtain⟨R,hR⟩:∃R,R=gt B.conj i:=⟨_,rfl⟩;rw[<-hR] at u q Q aj;have HC:=Lib.hid (And.intro Q (And.intro aj (And.intro E (And.intro hK (And.intro J q)))));clear Q aj E hK J q m hR T;clear V ai e1 e2 e3;clear a I C gJ F;go_wp2;generalize S.setCell ⟨g,K,none⟩ (.slice aE lE.length cE)=w7 at *;go_loopw [11] (λjv wr=>∃j:Nat,jv=.int .i64 j/\j<=R.length/\Ext M wr/\BX 40 o M.heap.size rb wr (.slice xo o.length co) (.slice (some ⟨g,0,none⟩) o.length cp) (.slice xc o.length cc)) (λjv _=>R.length-(intOf jv).toNat)
      case atStart=>exact⟨0,rfl,by omega,W,G⟩
      case round=>
       clear G W;obtain⟨j,rfl,hj,F,H⟩:=hrel;have U:=L.out.2.1.ext F;have q:=HC.out.2.2.2.2.2;have J:=HC.out.2.2.2.2.1;have d2:=U.2.2.2.1;rw[J] at d2;have d3:=F.cell u (by simp);by_cases Y:j<R.length
       ·have ak:(j:Int)<R.length:=by omega
        have Q:=HC.out.1;have E:=HC.out.2.2.1;have hK:=HC.out.2.2.2.1;have aN:j<o.length-1-K:=by omega
        obtain⟨gc,capc,b,aO,z2,gz,hcB,gW,V,hcell,jV,mM,hbg,hbl,Z,aa⟩:=H.storeC K j (by omega) aN;obtain⟨rfl,rfl⟩:xc=some ⟨gc,0,none⟩/\cc=capc:=by cases gz;exact⟨rfl,rfl⟩
        clear gz;obtain⟨b6,o6,a6,ab,rfl,_,ve,lD,al⟩:=Rows2.at q j Y;have am:=F.cell lD (by simp);have N:=HC.out.2.1 _ (gtMem Y);obtain⟨O,P⟩:∃O,O=gt R j:=⟨_,rfl⟩;rw[<-P] at am al N;clear P lD;have e1:∀w',Near wr b w'->w'.cell? ⟨rb,2,none⟩=some (.slice (some ⟨gc,0,none⟩) o.length cc):=λw' h=>h.cell H.box.2.2.2.1 (by simp;omega);have e2:∀w',Near wr b w'->w'.cell? ⟨gc,K,none⟩=some (.slice (some ⟨b,0,none⟩) (o.length-1-K) aO):=λw' h=>h.cell hcell (by simp;omega);have e3:∀w',Near wr b w'->w'.cell? ⟨w.heap.size+1,2,none⟩=some (.slice (some ⟨b3,o3,none⟩) B.conj.length aC):=λw' h=>h.cell d2 (by simp;omega);have e4:∀w',Near wr b w'->w'.cell? ⟨b3,o3+i,none⟩=some (.slice (some ⟨b6,o6,none⟩) R.length lC):=λw' h=>h.cell d3 (by simp;omega);have e5:∀w',Near wr b w'->w'.cell? ⟨b6,o6+j,none⟩=some (.slice a6 O.length ab):=λw' h=>h.cell am (by simp;omega)
        have y:∀w',Ext wr w'->Calls Tryz.prog 321 #[.int .i64 A.orders.length,.slice a6 O.length ab,.int .i64 0] w' (Ret w' λah r=>∃l,l.length<=40/\Own w'.heap.size ah r l):=λw' he=>
         Calls.mono (l07Shift_ok w' A.orders.length _ O 0 _ (Ints.ext al (grown_trans F he)) (by omega)) (λe w2 ⟨v,h1,h2,h3⟩=>⟨v,h1,h2,_,by rw[shiftL_len];omega,h3⟩)
        have bT:(j:Int)<((o.length-1-K:Nat):Int):=by omega
        have bU:(K:Int)<o.length:=by omega
        have HY:=Lib.hid (And.intro aa (And.intro Z y));clear aa Z y hcell am al N H;go_wp2;clear d2 d3;have bh:=lz ((A.orders.length:Int)+i) (K:Int) (by rw[hK];omega) (by omega);obtain⟨q1,q2⟩:=bh;clear Q E hK J aN
        go_region_held3 (λw'=>Near wr b w') (first|exact Near.of (grown_drew _ _)|exact Near.of (by assumption)|exact Near.store (by assumption)|assumption)
         (first
          | (go_at_call 321;refine Calls.mono (Calls.rel (w0:=wr) (by first|exact grown_drew _ _|assumption) (HY.out.2.2 _ (by first|exact grown_drew _ _|assumption))) ?_;rintro eE S ⟨vE,rfl,a,gJ,lE,C,I⟩;obtain⟨aE,cE,fQ,_⟩:=(I.ints (Nat.le_trans C (by decide))).shape;subst fQ;have V:=(HY.out.2.1 S a).1;have ai:=(HY.out.2.1 S a).2))
        clear q1 q2;have G:=HY.out.1 S _ lE a (OwnIn.of I (Nat.le_trans C (by decide)) (λk hk _=>Nat.le_trans (by assumption) hk)) C;have W:Ext M (S.setCell ⟨b,j,none⟩ (.slice aE lE.length cE)):=grown_own (grown_trans F a) (grown_set1 _ _ _ _) (λj hj D=>by cases hj;omega);clear V ai e1 e2 e3 e4 e5;go_wp2;go_roundw
        case rel=>exact⟨j+1,by go_num,by omega,W,G⟩
        case measure=>simp[intOf];omega
       ·have ak:¬((j:Int)<R.length):=by omega
        clear J;go_wp2;go_roundw
        case rel=>exact⟨i+1,by go_num,by omega,F,H⟩
        case measure=>simp[intOf];omega
     ·have an:¬((i:Int)<B.orders.length):=by omega
      obtain⟨h0,h1,h2,h3',h4⟩:=id H.box;have hz:=L.out.2.2.1.ext F;have bx:=L.out.2.2.2.2.2.2.2;obtain⟨k0,k1,k2,k3,k4⟩:=id hz;have hZ:=hz.all (.slice xo o.length co) (.slice xp o.length cp) (.slice xc o.length cc);have hT:=grown_set3 wr (w.heap.size+1+1) (.slice xo o.length co) (.slice xp o.length cp) (.slice xc o.length cc);obtain⟨_,z0,z1,z2,_⟩:=id hZ;have HQ:=Lib.hid (And.intro hT H);clear hT hZ H;go_wp2;refine bodyPost_ret (v := .agg #[.slice xo o.length co,.slice xp o.length cp,.slice xc o.length cc]) (by simp[results,Tryz.results291,go_sem,z0,z1,z2]) rfl ?_;exact⟨_,rfl,grown_own (grown_trans a2 F) HQ.out.1 (λj hj D=>by cases hj;omega),(HQ.out.2.ret HQ.out.1 (by omega)).weak (by omega)⟩
end Go.Proofs.YtdcobapnlpeaaaaGreat
