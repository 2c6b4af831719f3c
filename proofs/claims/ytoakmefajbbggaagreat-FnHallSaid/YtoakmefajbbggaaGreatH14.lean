/- Merged from templates. -/
import Derived.Test.YtoakmefajbbggaaGreatH13
set_option maxRecDepth 100000
set_option maxHeartbeats 8000000
namespace Go.Proofs.YtoakmefajbbggaaGreat
open Go.RowKit
attribute [local go_sem ↓] Go.wp_at_zero Go.wp_at_succ
theorem w64_sm2 (x y:Int) (h:x=y) (a:0<=x/\x<=1000):wrap64 x=y/\IntKind.i64.wrap x=y:=⟨by rw[<-h];exact w64_small x a,by rw[<-h];exact i64_small x a⟩
theorem l07Affine_ok (w:World) (p n:Int) (rv:Value) (R:List (List Int)) (S:Nat->Prop) (hr:Rows2 S w rv R) (hR:SmR R.length R) (hp:1<=p/\p<=7) (hn:1<=n/\n<=729) (cr:R.length<=9) :
  Calls Tryz.prog 264 #[.int .i64 p,rv,.int .i64 n] w (Ret w (PresN 18 w.heap.size)):=by
 obtain⟨ar,capr,rfl,_,_⟩:=Sl.shape hr;obtain⟨n,rfl⟩:=Int.eq_ofNat_of_zero_le (show 0<=n by omega);have aV:∀w',Ext (w.alloc (.cells #[.slice none 0 0,.slice none 0 0,.slice none 0 0] 28)) w'->Box3 w' w.heap.size (.slice none 0 0) (.slice none 0 0) (.slice none 0 0):=λw' h=>(Box3.made w 28 _ _ _).ext h;have aW:Ext w (w.alloc (.cells #[.slice none 0 0,.slice none 0 0,.slice none 0 0] 28)):=World.grownBy_alloc _ _ _;have aX:(w.alloc (.cells #[.slice none 0 0,.slice none 0 0,.slice none 0 0] 28)).heap.size=w.heap.size+1:=by simp
 have HN:=Lib.hid (And.intro hn (And.intro hp (And.intro hR (And.intro aV aX))));clear hn aV aX hp hR;go_enter Tryz.func264,Tryz.ntmps264;go_wp2_with fail
 generalize w.alloc (.cells #[.slice none 0 0,.slice none 0 0,.slice none 0 0] 28)=w0 at *;refine Calls.mono (l07Factors_ok w0 n (by have:=HN.out.1;omega)) ?_;rintro e1 w1 ⟨v1,rfl,hg1,a1,c1,t,r1,rfl,ag,ht9,aZ⟩;go_wp2_with fail
 refine Calls.mono (l01Own_ok w1 _ t _ (ag.ints (by omega)) (by omega)) ?_;rintro e2 w2 ⟨v2,rfl,hg2,hO2⟩;have bL:Ints Any w1 (.slice a1 t.length c1) t:=(ag.ints (by omega)).sub (λ_ _ _=>trivial);have HT:=Lib.hid (And.intro aZ ag);clear aZ ag;go_wp2_with fail
 go_loopw [9,10] (λov iv wr=>∃(i:Nat) (l:List Int) (v4:Value),v4=ov/\iv=.int .i64 i/\i<=R.length/\l.length=t.length+i/\Ext w1 wr/\Own w1.heap.size wr v4 l) (λ_ iv _=>R.length-(intOf iv).toNat)
 case atStart=>exact⟨0,t,_,rfl,rfl,by omega,rfl,hg2,hO2⟩
 case round =>
  clear hO2 hg2;obtain⟨i,l,v4,rfl,rfl,hi,ab,C,hO⟩:=hrel;by_cases a:i<R.length
  ·have E:(i:Int)<R.length:=by omega
   have a0:l.length<=1000000:=by omega
   have HL:=Lib.hid (And.intro a0 ab);clear a0 ab;go_wp2_with (first|(at_builtin;refine wp_app_int rfl _ _ rfl w1.heap.size v4 l p rfl wr hO rfl rfl HL.out.1 C.size ?_;intro v5 G bM U;have a3:=grown_own C U (λj hj a=>by have:=(hO.lt j hj).1;omega))|fail)
   go_roundw
   case rel=>exact⟨i+1,_,v5,rfl,by go_num,by omega,by rw[List.length_append,HL.out.2];rfl,a3,bM⟩
   case measure=>simp[intOf];omega
  ·have E : ¬((i:Int)<R.length):=by omega
   have bN:i=R.length:=by omega
   subst bN;obtain⟨o,ho⟩:∃o,o=l:=⟨_,rfl⟩;rw[<-ho] at hO ab;clear ho;have cd:o.length<=18:=by omega
   have cv:t.length<=o.length:=by omega
   obtain⟨a4,c4,hv4,_⟩:=(hO.ints (by omega)).shape;subst hv4;have bO:Ints Any wr (.slice a4 o.length c4) o:=(hO.ints (by omega)).sub (λ_ _ _=>trivial);have cx:=C.size;clear hO;obtain⟨F,hw4⟩:∃F:World,F=wr:=⟨_,rfl⟩;subst hw4;have HO:=Lib.hid ab;clear ab;go_wp2_with fail
   refine Calls.mono (l07Trivial_ok F _ o _ bO (by omega)) ?_;rintro e5 G ⟨v5,rfl,U,vo,vp,vc,rfl,I⟩;obtain⟨Z,co,ap,O,V,Q,rfl,rfl,rfl⟩:=trivX_shape I;go_wp2_with fail
   have a5:Ext G (G.alloc (.cells #[.slice Z o.length co,.slice ap o.length O,.slice V o.length Q] 28)):=World.grownBy_alloc _ _ _;have y:=BX.start (N:=18) (B:=F.heap.size) (by omega) I a5 (Box3.made G 28 (.slice Z o.length co) (.slice ap o.length O) (.slice V o.length Q)) U.size;have bP:=U.size;generalize G.alloc (.cells #[.slice Z o.length co,.slice ap o.length O,.slice V o.length Q] 28)=w6 at *;have a6:Ext F w6:=grown_trans U a5;have T:Ext w0 F:=grown_trans hg1 C;clear I U;go_loopw [13] (λiv wr=>∃i:Nat,iv=.int .i64 i/\i<=t.length/\Ext F wr/\BX 18 o F.heap.size G.heap.size wr (.slice Z o.length co) (.slice ap o.length O) (.slice V o.length Q)) (λiv _=>t.length-(intOf iv).toNat)
   case atStart=>exact⟨0,rfl,by omega,a6,y⟩
   case round =>
    clear y a6;have a7:=C;clear C hi a E;obtain⟨i,rfl,hi,C,y⟩:=hrel;by_cases a:i+1<t.length
    ·have E:(i:Int)+1<t.length:=by omega
     obtain⟨g,cap,z,hvg,hgB,hgp,hgl,a',bb⟩:=y.storeP i (by omega);obtain⟨rfl,rfl⟩:ap=some ⟨g,0,none⟩/\O=cap:=by cases hvg;exact⟨rfl,rfl⟩
     clear hvg;have e1:∀w',Near wr g w'->w'.cell? ⟨G.heap.size,1,none⟩=some (.slice (some ⟨g,0,none⟩) o.length O):=λw' h=>h.cell y.box.2.2.1 (by simp;omega)
     have m:∀w,Calls Tryz.prog 167 #[.int .i64 o.length,.int .i64 ((i:Int)+1)] w (Ret w λw' v=>Own w.heap.size w' v (unitV o.length (i+1))):=λw=>by
      have h:=l07Unit_ok o.length (i+1) w (by omega) (by omega);rwa [show((i+1:Nat):Int)=(i:Int)+1 by omega] at h
     have bc:(unitV o.length (i+1)).length<=9223372036854775807:=by rw[unitV_len];omega
     have HX:=Lib.hid (And.intro y (And.intro bb (And.intro a' bc)));clear y bb a' bc;have cz:(i:Int)<o.length:=by omega
     have bd:i<100000:=by omega
     go_wp2;have bQ:IntKind.i64.wrap ((i:Int)+1)=(i:Int)+1:=i64_succ _ bd;have bR:wrap64 ((i:Int)+1)=(i:Int)+1:=w64_succ _ bd
     go_region_held3 (λw'=>Near wr g w') (first|exact Near.of (grown_drew _ _)|exact Near.of (by assumption)|exact Near.store (by assumption)|assumption)
      (first
       | (go_at_call 167;refine Calls.mono (Calls.rel (w0:=wr) (by first|exact grown_drew _ _|assumption) (m _)) ?_;rintro eE H ⟨vE,rfl,D,hsE,ad⟩;obtain⟨aE,cE,hvE,_⟩:=(ad.ints HX.out.2.2.2).shape;subst hvE;have ah:=(HX.out.2.2.1 H D).1;have aD:=(HX.out.2.2.1 H D).2))
     clear bQ bR;have cF:=D.size;have I:=HX.out.2.1 H _ (unitV o.length (i+1)) D (OwnIn.of ad (by rw[unitV_len];omega) (λk hk _=>Nat.le_trans (by assumption) hk)) (by rw[unitV_len];omega);have aF:Ext F (H.setCell ⟨g,i,none⟩ (.slice aE (unitV o.length (i+1)).length cE)):=grown_own (grown_trans C D) (grown_set1 _ _ _ _) (λj hj a=>by cases hj;omega);clear ah aD e1;go_wp2;go_roundw
     case rel=>exact⟨i+1,by go_num,by omega,aF,I⟩
     case measure=>simp[intOf];omega
    ·have E:¬((i:Int)+1<t.length):=by omega
     have bg:Ext w wr:=grown_trans aW (grown_trans T C);have bh:∀x∈R,x.length<=1000000:=λx hx=>by have:=(HN.out.2.2.1 x hx).1;omega
     have m:=l01Own2_ok wr _ R _ (Rows2.ext hr bg) bh (by omega);clear bh;go_wp2_with fail
     refine Calls.mono m ?_;rintro e8 w8 ⟨v8,rfl,hg8,aH⟩;clear m;obtain⟨a8,c8,hv8,_,_⟩:=SlD.shape (aH.toD (by omega));subst hv8;have bi:Rows2 (λk=>wr.heap.size<=k/\k<w8.heap.size) w8 (.slice a8 R.length c8) R:=(RowsD.rows (aH.toD (by omega))).sub (λk hk a=>⟨hk,a⟩)
     have bj:BXF 18 o (λk=>F.heap.size<=k/\k≠G.heap.size/\¬(wr.heap.size<=k/\k<w8.heap.size)) G.heap.size w8 (.slice Z o.length co) (.slice ap o.length O) (.slice V o.length Q):=
      (y.f.turn (F':=λk=>F.heap.size<=k/\k≠G.heap.size/\¬(wr.heap.size<=k/\k<w8.heap.size)) (λk hk a=>⟨hk.1,hk.2,by omega⟩) (λh=>h.2.1 rfl)).ext hg8
     have an:Ext F w8:=grown_trans C hg8;have cf:=hg8.size;clear y aH a E hi;go_wp2
     go_loopw [14,15] (λav iv K=>∃(i lo hi:Nat) (aA:Option Addr) (cA:Nat) (A:List (List Int)),av=.slice aA R.length cA/\iv=.int .i64 i/\i<=t.length/\A.length=R.length/\SmR R.length A/\hi<=K.heap.size/\Rows2 (λk=>lo<=k/\k<hi) K (.slice aA R.length cA) A/\Ext F K /\
      BXF 18 o (λk=>F.heap.size<=k/\k≠G.heap.size/\¬(lo<=k/\k<hi)) G.heap.size K (.slice Z o.length co) (.slice ap o.length O) (.slice V o.length Q)) (λ_ iv _=>t.length-(intOf iv).toNat)
     case atStart=>exact⟨0,wr.heap.size,w8.heap.size,a8,c8,R,rfl,rfl,by omega,rfl,HN.out.2.2.1,Nat.le_refl _,bi,an,bj⟩
     case round=>
      clear bi an bj hg8 bg C;obtain⟨i,lo,W,aA,cA,A,rfl,rfl,hi,bl,bm,hhi,hA,C,y⟩:=hrel;by_cases a:i<t.length
      ·have E:(i:Int)<t.length:=by omega
       have HA:=Lib.hid (And.intro bl bm);clear bl bm;go_wp2
       go_loopw [16] (λjv K=>∃j:Nat,jv=.int .i64 j/\j<=R.length/\W<=K.heap.size/\Rows2 (λk=>lo<=k/\k<W) K (.slice aA R.length cA) A/\Ext F K /\
        BXF 18 o (λk=>F.heap.size<=k/\k≠G.heap.size/\¬(lo<=k/\k<W)) G.heap.size K (.slice Z o.length co) (.slice ap o.length O) (.slice V o.length Q)) (λjv _=>R.length-(intOf jv).toNat)
       case atStart=>exact⟨0,rfl,by omega,hhi,hA,C,y⟩
       case round=>
        clear y C hA hhi;obtain⟨j,rfl,hj,hhi,hA,C,y⟩:=hrel;by_cases cg:j<R.length
        ·have aJ:(j:Int)<R.length:=by omega
         have bo:=HO.out;obtain⟨J,hJ⟩:∃J,J=t.length+j-i-1:=⟨_,rfl⟩;have bU:J<o.length-1-i:=by omega
         obtain⟨gc,capc,b,bp,z2,hvc,hcB,hcp,ah,hcell,hbB,hbp,hbg,hbl,aq,au⟩:=y.storeC i J (by omega) bU (λk hk=>⟨by have:=C.size;omega,by have:=y.box.1;omega,by omega⟩);obtain⟨rfl,rfl⟩:V=some ⟨gc,0,none⟩/\Q=capc:=by cases hvc;exact⟨rfl,rfl⟩
         clear hvc;have bq:j<A.length:=by have:=HA.out.1;omega
         obtain⟨ba,oa,az,aw,rfl,br,_,aK,aL⟩:=Rows2.at hA j bq;have ai:=HA.out.2 _ (gtMem bq);obtain⟨zr,bu⟩:∃zr,zr=gt A j:=⟨_,rfl⟩;rw[<-bu] at aK aL ai;clear bu;have cj:ba≠b:=λe=>hbB.2.2 (e▸br);have e1:∀w',Near wr b w'->w'.cell? ⟨G.heap.size,2,none⟩=some (.slice (some ⟨gc,0,none⟩) o.length Q):=λw' h=>h.cell y.box.2.2.2.1 (by simp;omega);have e2:∀w',Near wr b w'->w'.cell? ⟨gc,i,none⟩=some (.slice (some ⟨b,0,none⟩) (o.length-1-i) bp):=λw' h=>h.cell hcell (by simp;omega);have e3:∀w',Near wr b w'->w'.cell? ⟨ba,oa+j,none⟩=some (.slice az zr.length aw):=λw' h=>h.cell aK (by simp;omega)
         have m:∀w',Ext wr w'->Calls Tryz.prog 265 #[.int .i64 t.length,.slice az zr.length aw,.int .i64 0] w' (Ret w' λbW r=>∃l,l.length<=18/\Own w'.heap.size bW r l):=λw' he=>
          Calls.mono (l07Shift_ok w' t.length _ zr 0 _ (Ints.ext aL he) (by have:=ai.1;omega)) (λe w2 ⟨v,h1,h2,h3⟩=>⟨v,h1,h2,_,by simp[shiftL];have:=ai.1;omega,h3⟩)
         have bv:∀H u,Ext wr H->Rows2 (λk=>lo<=k/\k<W) (H.setCell ⟨b,J,none⟩ u) (.slice (some ⟨ba,oa,none⟩) R.length cA) A:=λH u he=>Rows2.mono hA (λk hk a=>by
          have hT:wr.grownBy (H.setCell ⟨b,J,none⟩ u) (some b):=grown_trans (grown_of_ext _ he) (grown_set1 _ _ _ _);exact⟨hk,Nat.lt_of_lt_of_le a hT.size,hT.block k a (λe=>hbB.2.2 (by cases e;exact hk))⟩)
         have HY:=Lib.hid (And.intro au (And.intro aq (And.intro m bv)));clear au aq m hcell aK aL bv ai;have cH:(J:Int)<((o.length-1-i:Nat):Int):=by omega
         have cI:(i:Int)<o.length:=by omega
         have M:=w64_sm2 ((t.length:Int)+j) ((t.length+j:Nat):Int) (by omega) (by omega);have X:=w64_sm2 (((t.length+j:Nat):Int)-i) ((t.length+j-i:Nat):Int) (by clear M;omega) (by clear M;omega);have aM:=w64_sm2 (((t.length+j-i:Nat):Int)-1) (J:Int) (by clear M X;omega) (by clear M X;omega);generalize ((t.length+j:Nat):Int)=d1 at M X;generalize ((t.length+j-i:Nat):Int)=d2 at X aM;have HW:=Lib.hid (And.intro M (And.intro X aM));clear M X aM;have ck:=y.box.1;have HJ:=Lib.hid (And.intro bo hJ);clear bo hJ y hA;go_wp2;obtain⟨⟨q1,q2⟩,⟨q3,q4⟩,q5,q6⟩:=HW.out
         go_region_held3 (λw'=>Near wr b w') (first|exact Near.of (grown_drew _ _)|exact Near.of (by assumption)|exact Near.store (by assumption)|assumption)
          (first
           | (go_at_call 265;refine Calls.mono (Calls.rel (w0:=wr) (by first|exact grown_drew _ _|assumption) (HY.out.2.2.1 _ (by first|exact grown_drew _ _|assumption))) ?_;rintro eE H ⟨vE,rfl,D,hsE,lE,aN,ad⟩;obtain⟨aE,cE,hvE,_⟩:=(ad.ints (Nat.le_trans aN (by decide))).shape;subst hvE;have ah:=(HY.out.2.1 H D).1;have aD:=(HY.out.2.1 H D).2))
         clear q1 q2 q3 q4 q5 q6;have I:=HY.out.1 H _ lE D (OwnIn.of ad (Nat.le_trans aN (by decide)) (λk hk _=>Nat.le_trans (by assumption) hk)) aN;have bY:=HY.out.2.2.2 H (.slice aE lE.length cE) D;have aF:Ext F (H.setCell ⟨b,J,none⟩ (.slice aE lE.length cE)):=grown_own (grown_trans C D) (grown_set1 _ _ _ _) (λj hj a=>by cases hj;omega);have ax:W<=(H.setCell ⟨b,J,none⟩ (.slice aE lE.length cE)).heap.size:=by have:=D.size;simp;omega
         clear ah aD e1 e2 e3;have HZ:=Lib.hid ax;clear ax;go_wp2;go_roundw
         case rel=>exact⟨j+1,by go_num,by omega,HZ.out,bY,aF,I⟩
         case measure=>simp[intOf];omega
        ·have aJ:¬((j:Int)<R.length):=by omega
         obtain⟨bt,ot,rfl,_,_,aO⟩:=Ints.at (Ints.ext bL (grown_trans a7 C)) i a;have bZ:2<=gt t i/\gt t i<=7:=HT.out.1 _ (gtMem a);obtain⟨te,ay⟩:∃te,te=gt t i:=⟨_,rfl⟩;rw[<-ay] at aO bZ;clear ay;have bA:=Rows2.sub hA (S':=Any) (λ_ _ _=>trivial);obtain⟨wo,aP⟩:∃wo:World,wo=wr:=⟨_,rfl⟩;rw[<-aP] at aO bA;have Y:Ext wo wr:=by rw[aP];exact Ext.refl _
         go_wp2
         go_loopw [14,18] (λav tv K=>∃(q aj ae:Nat) (aB:Option Addr) (cB:Nat) (B:List (List Int)),av=.slice aB R.length cB/\tv=.int .i64 q/\1<=q/\q<=7/\B.length=R.length/\SmR R.length B/\ae<=K.heap.size/\Rows2 (λk=>aj<=k/\k<ae) K (.slice aB R.length cB) B/\Ext wo K/\Ext F K /\
          BXF 18 o (λk=>F.heap.size<=k/\k≠G.heap.size/\¬(aj<=k/\k<ae)) G.heap.size K (.slice Z o.length co) (.slice ap o.length O) (.slice V o.length Q)) (λ_ tv _=>8-(intOf tv).toNat)
         case atStart=>exact⟨1,lo,W,aA,cA,A,rfl,rfl,by omega,by omega,HA.out.1,HA.out.2,hhi,hA,Y,C,y⟩
         case round=>
          clear y C hA hhi Y aP;obtain⟨q,aj,ae,aB,cB,B,rfl,rfl,b1,hq7,ak,af,hhi,hB,Y,C,y⟩:=hrel;have aC:=Y.cell aO (by simp);by_cases cM:(q:Int)<te
          ·have m:=l02Product_ok wr p _ _ B A R.length _ _ hB (Rows2.ext bA Y) HN.out.2.1 af HA.out.2 (by omega) (by omega)
           have HB:=Lib.hid (And.intro ak af);clear ak af;obtain⟨wp,hwp⟩:∃wp:World,wp=wr:=⟨_,rfl⟩;go_wp2_with fail
           refine Calls.mono m ?_;rintro e9 w9 ⟨v9,rfl,hg9,L,aR,bC,aS⟩;clear m;obtain⟨a9,c9,hv9,_,_⟩:=SlD.shape (aS.toD (by have:=HB.out.1;omega));rw[aR,HB.out.1] at hv9;subst hv9;have b2:=(RowsD.rows (aS.toD (by have:=HB.out.1;omega))).sub (S':=λk=>wr.heap.size<=k/\k<w9.heap.size) (λk hk a=>⟨hk,a⟩)
           have b3:BXF 18 o (λk=>F.heap.size<=k/\k≠G.heap.size/\¬(wr.heap.size<=k/\k<w9.heap.size)) G.heap.size w9 (.slice Z o.length co) (.slice ap o.length O) (.slice V o.length Q):=
            (y.turn (F':=λk=>F.heap.size<=k/\k≠G.heap.size/\¬(wr.heap.size<=k/\k<w9.heap.size)) (λk hk a=>⟨hk.1,hk.2.1,by omega⟩) (λh=>h.2.1 rfl)).ext hg9
           have bD:=grown_trans Y hg9;have bE:=grown_trans C hg9;have cm:=hg9.cell aC (by simp);have HL:=Lib.hid (And.intro aR bC);clear aR bC;clear aC y hg9 hB aS;go_wp2;go_roundw
           case rel=>exact⟨q+1,wr.heap.size,w9.heap.size,a9,c9,L,rfl,by go_num,by omega,by omega,by rw[HL.out.1,HB.out.1],HL.out.2,Nat.le_refl _,b2,bD,bE,b3⟩
           case measure=>simp[intOf];omega
          ·have HB:=Lib.hid (And.intro ak af);clear ak af
           go_wp2;go_roundw
           case rel=>exact⟨i+1,aj,ae,aB,cB,B,rfl,by go_num,by omega,HB.out.1,HB.out.2,hhi,hB,C,y⟩
           case measure=>simp[intOf];omega
      ·have E:¬((i:Int)<t.length):=by omega
       have hz:=HN.out.2.2.2.1 _ (grown_trans T C);clear hA;obtain⟨h0,h1,h2,h3',h4⟩:=id y.box;obtain⟨k0,k1,k2,k3,k4⟩:=id hz;have hZ:=hz.all (.slice Z o.length co) (.slice ap o.length O) (.slice V o.length Q);have hT:=grown_set3 wr w.heap.size (.slice Z o.length co) (.slice ap o.length O) (.slice V o.length Q);obtain⟨_,z0,z1,z2,_⟩:=id hZ;have HQ:=Lib.hid (And.intro hT y);clear hT hZ y;go_wp2;refine bodyPost_ret (v := .agg #[.slice Z o.length co,.slice ap o.length O,.slice V o.length Q]) (by simp[results,Tryz.results264,go_sem,z0,z1,z2]) rfl ?_;have b1:=HN.out.2.2.2.2;have cO:=T.size;exact⟨_,rfl,grown_own (grown_trans aW (grown_trans T C)) HQ.out.1 (λj hj a=>by cases hj;omega),(BX.ret (BXF.bx HQ.out.2 bP (λk hk=>hk.1)) HQ.out.1 (by omega)).weak (by omega)⟩
theorem fam_ret {w b:World}{sb m N M B:Nat}{x y z:Value}(p:w.grownBy b (some sb)) (A:w.heap.size<B) (i:Src m b sb) (q:m<=w.heap.size) (hP:PresN3 N B b x y z) (r:N<=M) :
  Mut w (some sb) (DrawR m sb (PresQ M w.heap.size)) (.returned (.agg #[x,y,z])) (((b.setCell ⟨w.heap.size,0,none⟩ x).setCell ⟨w.heap.size,1,none⟩ y).setCell ⟨w.heap.size,2,none⟩ z):=by
 have l:=grown_set3 b w.heap.size x y z;obtain⟨Q,h1,h2⟩:=hP;exact⟨_,rfl,grown_own p l (λj u a=>by cases u;omega),⟨x,y,z,rfl,Q,h1.mono r,h2.mono (λk hk a=>⟨by have hk:B<=k:=hk;show w.heap.size<=k;omega,Nat.lt_of_lt_of_le a l.size,l.block k a (λe=>by have hk:B<=k:=hk;have:=Option.some.inj e;omega)⟩)⟩,i.own l (λk hk=>by cases hk;exact q)⟩
theorem ints_litL (w:World) (L:List Int) (a:L.length<=1000):Ints (λk=>k=w.heap.size) (w.alloc (.cells (L.map (Value.int .i64)).toArray 2)) (.slice (some ⟨w.heap.size,0,none⟩) L.length L.length) L:=by
 have h:Own 0 (w.alloc (.cells (L.map (Value.int .i64)).toArray 2)) (.slice (some ⟨w.heap.size,0,none⟩) L.length L.length) L:=by
  have:=World.ownsRow_lit (base:=0) (e:=2) (size:=1) w (L.map (Value.int .i64)).toArray L.length (Nat.zero_le _) (by unfold maxLen;omega) (by simp);simpa using this
 exact ints_of_own h (by omega) (λk hk=>own_blk hk)
theorem rows_litL (w:World) (a:List Value) (R:List (List Int)) (b:a.length=R.length) (j:R.length<=1000) (h:∀i,i<R.length->Ints Any w (gt a i) (gt R i)) :
  Rows2 Any (w.alloc (.cells a.toArray 24)) (.slice (some ⟨w.heap.size,0,none⟩) R.length R.length) R:=by
 refine⟨_,_,rfl,⟨Nat.le_refl _,by omega,λh=>by cases h⟩,λi e=>⟨w.heap.size,0,gt a i,rfl,trivial,by simp,?_,Ints.ext (h i e) (World.grownBy_alloc _ _ _)⟩⟩;rw[World.cell?_alloc_at _ _ _ _ rfl];simp[gt,b,e]
set_option maxHeartbeats 16000000 in
theorem l07Family_ok (B0:Nat) (w:World) (sb:Nat) (aD:B0<=w.heap.size) (hs:Src B0 w sb) :
  Calls Tryz.prog 220 #[.pointer (some ⟨sb,0,none⟩)] w (Mut w (some sb) (DrawR B0 sb (PresQ 18 w.heap.size))):=by
 have ba:=hs.lt;have aE:=Box3.made w 28 (.slice none 0 0) (.slice none 0 0) (.slice none 0 0);have aF:Ext w (w.alloc (.cells #[.slice none 0 0,.slice none 0 0,.slice none 0 0] 28)):=World.grownBy_alloc _ _ _;have aW:(w.alloc (.cells #[.slice none 0 0,.slice none 0 0,.slice none 0 0] 28)).heap.size=w.heap.size+1:=by simp
 have aX:=Lib.hid hs;clear hs;go_enter Tryz.func220,Tryz.ntmps220;go_wp2_with fail
 generalize w.alloc (.cells #[.slice none 0 0,.slice none 0 0,.slice none 0 0] 28)=w0 at *;refine Calls.mono (l01Next_ok B0 w0 sb 9 (aX.out.ext aF)) ?_;rintro e1 u ⟨v1,rfl,al,x,rfl,hx0,hx1,hs1⟩;have ak:=Box3.keep aE al.size (al.block _ aE.1 (λe=>by have:=Option.some.inj e;omega));have am:=grown_trans (grown_of_ext (some sb) aF) al;have bb:w.heap.size+1<=u.heap.size:=by have:=al.size;omega
 have hx:=hx1 (by omega);have ab:=Lib.hid hs1;clear hx0 hx1 al aE aF aW hs1;rcases(show x=0\/x=1\/x=2\/x=3\/x=4\/x=5\/x=6\/x=7\/x=8 by omega) with rfl|rfl|rfl|rfl|rfl|rfl|rfl|rfl|rfl
 all_goals clear hx
 ·have aK:=World.grownBy_alloc u (.cells #[] 2) (some sb)
  have aL:Own u.heap.size (u.alloc (.cells #[] 2)) (.slice (some ⟨u.heap.size,0,none⟩) 0 0) []:=World.ownsRow_lit u #[] 0 (Nat.le_refl _) (by decide) rfl;have aM:=(ab.out.ext (World.grownBy_alloc u (.cells #[] 2) none));have D:=Lib.hid aM;clear aM;go_wp2_with fail
  generalize u.alloc (.cells #[] 2)=wE at *;refine Calls.mono (l01Next_ok B0 wE sb 5 D.out) ?_;rintro e2 a ⟨v2,rfl,V,k,rfl,hk0,hk1,hs2⟩;have hk:=hk1 (by omega);clear hk0 hk1;have aN:=aL.kept V (by simp[Value.ownBlock];omega);have b:=grown_trans aK V;have aO:=Lib.hid hs2;clear hs2 aK aL V;go_wp2_with fail
  go_loopw [3,4] (λov kv wr=>∃(k:Int) (o:List Int) (v4:Value),v4=ov/\kv=.int .i64 k/\0<=k/\k<=4/\Hid (o.length+k<=4)/\u.grownBy wr (some sb)/\Own u.heap.size wr v4 o/\Hid (Src B0 wr sb)) (λ_ kv _=>(intOf kv).toNat)
  case atStart=>exact⟨k,[],_,rfl,rfl,hk.1,by omega,Lib.hid (by simp;omega),b,aN,aO⟩
  case round=>
   clear aN b aO hk;obtain⟨k,o,v4,rfl,rfl,hk0,hk4,hol,hg,hO,N⟩:=hrel;have be:=hg.size;by_cases bf:0<k
   ·have aP:∀j,v4.ownBlock=some j->u.heap.size<=j:=λj hj=>(hO.lt j hj).1
    have aG:o.length<=1000000:=by have:=hol.out;omega
    have HO:=Lib.hid (And.intro aP aG);clear aP aG;go_wp2_with fail
    have O:Ext wr (wr.alloc (.cells #[.int .i64 2,.int .i64 2,.int .i64 3] 2)):=World.grownBy_alloc _ _ _;have hL:Ints (λk=>k=wr.heap.size) (wr.alloc (.cells #[.int .i64 2,.int .i64 2,.int .i64 3] 2)) (.slice (some ⟨wr.heap.size,0,none⟩) 3 3) [2,2,3]:=ints_litL wr [2,2,3] (by simp);have av:(wr.alloc (.cells #[.int .i64 2,.int .i64 2,.int .i64 3] 2)).heap.size=wr.heap.size+1:=by simp
    generalize wr.alloc (.cells #[.int .i64 2,.int .i64 2,.int .i64 3] 2)=wL at *;refine Calls.mono (l01Pick_ok B0 wL sb _ [2,2,3] _ (N.out.ext O) hL (λk hk=>by omega) (by simp) (by simp)) ?_;rintro e3 I ⟨v3,rfl,l,i,Y,rfl,hs3⟩;generalize gt ([2,2,3]:List Int) i=m at *;have az:=grown_trans (grown_of_ext (some sb) O) l;have aY:=hO.kept az (.inr (λe=>by have:=HO.out.1 sb e;omega));have aA:=grown_trans hg az;have aZ:=Lib.hid hs3;clear hs3 O l hL Y hO;go_wp2_with (first|(at_builtin;refine wp_app_int rfl _ _ rfl u.heap.size v4 o m rfl I aY rfl rfl HO.out.2 aA.size ?_;intro v5 w5 a0 aR)|fail)
    have a4:Src B0 w5 sb:=aZ.out.own aR (λj hj=>by have:=HO.out.1 j hj;omega);have aS:u.grownBy w5 (some sb):=grown_own aA aR (λj hj bh=>by have:=HO.out.1 j hj;omega);have aG:(o++[m]).length=o.length+1:=by simp
    go_roundw
    case rel=>exact⟨k-1,o++[m],v5,rfl,rfl,by omega,by omega,Lib.hid (by have:=hol.out;omega),aS,a0,Lib.hid a4⟩
    case measure=>simp[intOf];omega
   ·have a5:=hO.ints (show o.length<=9223372036854775807 by have:=hol.out;omega)
    have a6:=hol.out;have a7:o.length<=100:=by omega
    clear a6 hO;go_wp2_with fail
    refine Calls.mono (l07Trivial_ok wr _ o _ a5 a7) ?_;rintro e3 I ⟨v3,rfl,l,vo,vp,vc,rfl,hX3⟩;have E:PresN3 18 wr.heap.size I vo vp vc:=⟨trivP o,trivP_shp o (by have:=hol.out;omega),hX3.p3⟩;obtain⟨a1,n1,c1,a2,n2,c2,a3,n3,c3,rfl,rfl,rfl⟩:=E.shape;clear hX3;have p:u.grownBy I (some sb):=grown_trans hg (grown_of_ext (some sb) l);have Z:=Box3.keep ak p.size (p.block _ ak.1 (λe=>by have:=Option.some.inj e;omega));have X:=grown_trans am p;obtain⟨b0,b1,b2,b3,b4⟩:=id Z;have hZ:=Z.all (.slice a1 n1 c1) (.slice a2 n2 c2) (.slice a3 n3 c3);obtain⟨-,z0,z1,z2,-⟩:=id hZ;have HF:=Lib.hid (And.intro X (And.intro E (N.out.ext l)));clear hZ X E Z;go_wp2_with fail
    refine bodyPost_ret (v := .agg #[.slice a1 n1 c1,.slice a2 n2 c2,.slice a3 n3 c3]) (by simp[results,Tryz.results220,go_sem,z0,z1,z2]) rfl ?_;exact fam_ret HF.out.1 (B:=wr.heap.size) (by omega) HF.out.2.2 aD HF.out.2.1 (by omega)
 ·skip
  go_wp2_with fail
  have O:Ext u (u.alloc (.cells #[.int .i64 1,.int .i64 4,.int .i64 6,.int .i64 8,.int .i64 9,.int .i64 12,.int .i64 5,.int .i64 7,.int .i64 27,.int .i64 25,.int .i64 36] 2)):=World.grownBy_alloc _ _ _;have hL:Ints (λk=>k=u.heap.size) (u.alloc (.cells #[.int .i64 1,.int .i64 4,.int .i64 6,.int .i64 8,.int .i64 9,.int .i64 12,.int .i64 5,.int .i64 7,.int .i64 27,.int .i64 25,.int .i64 36] 2)) (.slice (some ⟨u.heap.size,0,none⟩) 11 11) [1,4,6,8,9,12,5,7,27,25,36]:=ints_litL u [1,4,6,8,9,12,5,7,27,25,36] (by simp);have av:(u.alloc (.cells #[.int .i64 1,.int .i64 4,.int .i64 6,.int .i64 8,.int .i64 9,.int .i64 12,.int .i64 5,.int .i64 7,.int .i64 27,.int .i64 25,.int .i64 36] 2)).heap.size=u.heap.size+1:=by simp
  generalize u.alloc (.cells #[.int .i64 1,.int .i64 4,.int .i64 6,.int .i64 8,.int .i64 9,.int .i64 12,.int .i64 5,.int .i64 7,.int .i64 27,.int .i64 25,.int .i64 36] 2)=wL at *;refine Calls.mono (l01Pick_ok B0 wL sb _ [1,4,6,8,9,12,5,7,27,25,36] _ (ab.out.ext O) hL (λk hk=>by omega) (by simp) (by simp)) ?_;rintro e2 a ⟨v2,rfl,V,i,Y,rfl,hs2⟩;have hm:∀y∈([1,4,6,8,9,12,5,7,27,25,36]:List Int),1<=y/\y<=36:=by simp
  have aH:=hm _ (gtMem Y);generalize gt ([1,4,6,8,9,12,5,7,27,25,36]:List Int) i=m at *;clear hm Y hL;have b:=grown_trans (grown_of_ext (some sb) O) V;have ah:w.heap.size+1<=a.heap.size:=by have:=b.size;omega
  clear O V;have D:=Lib.hid hs2;clear hs2;obtain⟨m,rfl⟩:=Int.eq_ofNat_of_zero_le (show 0<=m by omega);go_wp2_with fail
  refine Calls.mono (CyclicPresentation_ok a m (by omega)) ?_;rintro e3 I ⟨v3,rfl,l,vo,vp,vc,c,rfl,hP⟩;obtain⟨_,_,_,he,E⟩:=hP.q;cases he
  obtain⟨a1,n1,c1,a2,n2,c2,a3,n3,c3,rfl,rfl,rfl⟩:=E.shape;have p:u.grownBy I (some sb):=grown_trans b (grown_of_ext (some sb) l);have Z:=Box3.keep ak p.size (p.block _ ak.1 (λe=>by have:=Option.some.inj e;omega));have X:=grown_trans am p;obtain⟨b0,b1,b2,b3,b4⟩:=id Z;have aI:=World.grownBy_alloc (((I.setCell ⟨w.heap.size,0,none⟩ (.slice a1 n1 c1)).setCell ⟨w.heap.size,1,none⟩ (.slice a2 n2 c2)).setCell ⟨w.heap.size,2,none⟩ (.slice a3 n3 c3)) (.cells #[.slice a1 n1 c1,.slice a2 n2 c2,.slice a3 n3 c3] 28) none;have hZ:=(Z.all (.slice a1 n1 c1) (.slice a2 n2 c2) (.slice a3 n3 c3)).ext aI;obtain⟨-,z0,z1,z2,-⟩:=id hZ;have HF:=Lib.hid (And.intro X (And.intro E (And.intro (D.out.ext l) aI)));clear hZ X E Z aI;go_wp2_with fail
  refine bodyPost_ret (v := .agg #[.slice a1 n1 c1,.slice a2 n2 c2,.slice a3 n3 c3]) (by simp[results,Tryz.results220,go_sem,z0,z1,z2]) rfl ?_;obtain⟨_,he,k1,⟨q1,q2,q3,k2,Q,k4,k5⟩,k3⟩:=fam_ret (M:=18) HF.out.1 (B:=a.heap.size) (by omega) HF.out.2.2.1 aD HF.out.2.1 (by omega);cases he
  cases k2
  exact⟨_,rfl,grown_trans k1 (grown_of_ext (some sb) HF.out.2.2.2),⟨_,_,_,rfl,Q,k4,k5.ext HF.out.2.2.2⟩,k3.ext HF.out.2.2.2⟩
 focus
  go_wp2_with fail
  have O:Ext u (u.alloc (.cells #[.int .i64 3,.int .i64 4,.int .i64 5,.int .i64 6,.int .i64 7,.int .i64 8,.int .i64 9,.int .i64 12] 2)):=World.grownBy_alloc _ _ _;have hL:Ints (λk=>k=u.heap.size) (u.alloc (.cells #[.int .i64 3,.int .i64 4,.int .i64 5,.int .i64 6,.int .i64 7,.int .i64 8,.int .i64 9,.int .i64 12] 2)) (.slice (some ⟨u.heap.size,0,none⟩) 8 8) [3,4,5,6,7,8,9,12]:=ints_litL u [3,4,5,6,7,8,9,12] (by simp);have av:(u.alloc (.cells #[.int .i64 3,.int .i64 4,.int .i64 5,.int .i64 6,.int .i64 7,.int .i64 8,.int .i64 9,.int .i64 12] 2)).heap.size=u.heap.size+1:=by simp
  generalize u.alloc (.cells #[.int .i64 3,.int .i64 4,.int .i64 5,.int .i64 6,.int .i64 7,.int .i64 8,.int .i64 9,.int .i64 12] 2)=wL at *;refine Calls.mono (l01Pick_ok B0 wL sb _ [3,4,5,6,7,8,9,12] _ (ab.out.ext O) hL (λk hk=>by omega) (by simp) (by simp)) ?_;rintro e2 a ⟨v2,rfl,V,i,Y,rfl,hs2⟩;have hm:∀y∈([3,4,5,6,7,8,9,12]:List Int),3<=y/\y<=12:=by simp
  have aH:=hm _ (gtMem Y);generalize gt ([3,4,5,6,7,8,9,12]:List Int) i=m at *;clear hm Y hL;have b:=grown_trans (grown_of_ext (some sb) O) V;have ah:w.heap.size+1<=a.heap.size:=by have:=b.size;omega
  clear O V;have D:=Lib.hid hs2;clear hs2;have a8:0<=m/2/\m/2<=6:=by omega
  go_wp2_with fail
  refine Calls.mono (l07Meta_ok a 2 m (m-1) 0 (by omega) (by omega) (by omega) (by omega)) ?_;rintro e3 I ⟨v3,rfl,l,hP⟩;obtain⟨vo,vp,vc,rfl,E⟩:=hP.q;have p:u.grownBy I (some sb):=grown_trans b (grown_of_ext (some sb) l);have N:=D.out.ext l
 rotate_left
 focus
  go_wp2_with fail
  have O:Ext u (u.alloc (.cells #[.int .i64 4,.int .i64 6,.int .i64 8,.int .i64 12] 2)):=World.grownBy_alloc _ _ _;have hL:Ints (λk=>k=u.heap.size) (u.alloc (.cells #[.int .i64 4,.int .i64 6,.int .i64 8,.int .i64 12] 2)) (.slice (some ⟨u.heap.size,0,none⟩) 4 4) [4,6,8,12]:=ints_litL u [4,6,8,12] (by simp);have av:(u.alloc (.cells #[.int .i64 4,.int .i64 6,.int .i64 8,.int .i64 12] 2)).heap.size=u.heap.size+1:=by simp
  generalize u.alloc (.cells #[.int .i64 4,.int .i64 6,.int .i64 8,.int .i64 12] 2)=wL at *;refine Calls.mono (l01Pick_ok B0 wL sb _ [4,6,8,12] _ (ab.out.ext O) hL (λk hk=>by omega) (by simp) (by simp)) ?_;rintro e2 a ⟨v2,rfl,V,i,Y,rfl,hs2⟩;have hm:∀y∈([4,6,8,12]:List Int),3<=y/\y<=12:=by simp
  have aH:=hm _ (gtMem Y);generalize gt ([4,6,8,12]:List Int) i=m at *;clear hm Y hL;have b:=grown_trans (grown_of_ext (some sb) O) V;have ah:w.heap.size+1<=a.heap.size:=by have:=b.size;omega
  clear O V;have D:=Lib.hid hs2;clear hs2;have a8:0<=m/2/\m/2<=6:=by omega
  go_wp2_with fail
  refine Calls.mono (l07Meta_ok a 2 m (m-1) (m/2) (by omega) (by omega) (by omega) (by omega)) ?_;rintro e3 I ⟨v3,rfl,l,hP⟩;obtain⟨vo,vp,vc,rfl,E⟩:=hP.q;have p:u.grownBy I (some sb):=grown_trans b (grown_of_ext (some sb) l);have N:=D.out.ext l
 rotate_left
 focus
  go_wp2_with fail
  refine Calls.mono (l01Next_ok B0 u sb 6 ab.out) ?_;rintro e2 a ⟨v2,rfl,b,y,rfl,hy0,hy1,hs2⟩;have hy:=hy1 (by omega);have D:=Lib.hid hs2;have ah:w.heap.size+1<=a.heap.size:=by have:=b.size;omega
  clear hy0 hy1 hs2;rcases(show y=0\/y=1\/y=2\/y=3\/y=4\/y=5 by omega) with rfl|rfl|rfl|rfl|rfl|rfl
  all_goals clear hy
  focus
   go_wp2_with fail
   refine Calls.mono (l07Meta_ok a 3 7 2 0 (by omega) (by omega) (by omega) (by omega)) ?_;rintro e3 I ⟨v3,rfl,l,hP⟩;obtain⟨vo,vp,vc,rfl,E⟩:=hP.q;have p:u.grownBy I (some sb):=grown_trans b (grown_of_ext (some sb) l);have N:=D.out.ext l
  rotate_left
  focus
   go_wp2_with fail
   refine Calls.mono (l07Meta_ok a 4 5 2 0 (by omega) (by omega) (by omega) (by omega)) ?_;rintro e3 I ⟨v3,rfl,l,hP⟩;obtain⟨vo,vp,vc,rfl,E⟩:=hP.q;have p:u.grownBy I (some sb):=grown_trans b (grown_of_ext (some sb) l);have N:=D.out.ext l
  rotate_left
  focus
   go_wp2_with fail
   refine Calls.mono (l07Meta_ok a 2 8 3 0 (by omega) (by omega) (by omega) (by omega)) ?_;rintro e3 I ⟨v3,rfl,l,hP⟩;obtain⟨vo,vp,vc,rfl,E⟩:=hP.q;have p:u.grownBy I (some sb):=grown_trans b (grown_of_ext (some sb) l);have N:=D.out.ext l
  rotate_left
  focus
   go_wp2_with fail
   refine Calls.mono (l07Meta_ok a 2 8 5 0 (by omega) (by omega) (by omega) (by omega)) ?_;rintro e3 I ⟨v3,rfl,l,hP⟩;obtain⟨vo,vp,vc,rfl,E⟩:=hP.q;have p:u.grownBy I (some sb):=grown_trans b (grown_of_ext (some sb) l);have N:=D.out.ext l
  rotate_left
  focus
   go_wp2_with fail
   refine Calls.mono (l07Meta_ok a 4 4 3 0 (by omega) (by omega) (by omega) (by omega)) ?_;rintro e3 I ⟨v3,rfl,l,hP⟩;obtain⟨vo,vp,vc,rfl,E⟩:=hP.q;have p:u.grownBy I (some sb):=grown_trans b (grown_of_ext (some sb) l);have N:=D.out.ext l
  rotate_left
  focus
   go_wp2_with fail
   refine Calls.mono (l07Meta_ok a 3 9 4 0 (by omega) (by omega) (by omega) (by omega)) ?_;rintro e3 I ⟨v3,rfl,l,hP⟩;obtain⟨vo,vp,vc,rfl,E⟩:=hP.q;have p:u.grownBy I (some sb):=grown_trans b (grown_of_ext (some sb) l);have N:=D.out.ext l
  rotate_left
 rotate_left 6
 focus
  go_wp2_with fail
  have O:Ext u (u.alloc (.cells #[.int .i64 2,.int .i64 3,.int .i64 2,.int .i64 3,.int .i64 5] 2)):=World.grownBy_alloc _ _ _;have hL:Ints (λk=>k=u.heap.size) (u.alloc (.cells #[.int .i64 2,.int .i64 3,.int .i64 2,.int .i64 3,.int .i64 5] 2)) (.slice (some ⟨u.heap.size,0,none⟩) 5 5) [2,3,2,3,5]:=ints_litL u [2,3,2,3,5] (by simp);have av:(u.alloc (.cells #[.int .i64 2,.int .i64 3,.int .i64 2,.int .i64 3,.int .i64 5] 2)).heap.size=u.heap.size+1:=by simp
  generalize u.alloc (.cells #[.int .i64 2,.int .i64 3,.int .i64 2,.int .i64 3,.int .i64 5] 2)=wL at *;refine Calls.mono (l01Pick_ok B0 wL sb _ [2,3,2,3,5] _ (ab.out.ext O) hL (λk hk=>by omega) (by simp) (by simp)) ?_;rintro e2 a ⟨v2,rfl,V,i,Y,rfl,hs2⟩;have hm:∀y∈([2,3,2,3,5]:List Int),2<=y/\y<=5:=by simp
  have aH:=hm _ (gtMem Y);generalize gt ([2,3,2,3,5]:List Int) i=m at *;clear hm Y hL;have b:=grown_trans (grown_of_ext (some sb) O) V;have ah:w.heap.size+1<=a.heap.size:=by have:=b.size;omega
  clear O V;have D:=Lib.hid hs2;clear hs2;go_wp2_with fail
  refine Calls.mono (l07Heisenberg_ok B0 a sb m (by omega) D.out) ?_;rintro e3 I ⟨v3,rfl,l,hP,hs3⟩;obtain⟨vo,vp,vc,rfl,E⟩:=hP.q;have p:u.grownBy I (some sb):=grown_trans b l;have N:=hs3
 rotate_left
 focus
  go_wp2_with fail
  refine Calls.mono (l01Next_ok B0 u sb 6 ab.out) ?_;rintro e2 a ⟨v2,rfl,b,y,rfl,hy0,hy1,hs2⟩;have hy:=hy1 (by omega);have D:=Lib.hid hs2;have ah:w.heap.size+1<=a.heap.size:=by have:=b.size;omega
  clear hy0 hy1 hs2;rcases(show y=0\/y=1\/y=2\/y=3\/y=4\/y=5 by omega) with rfl|rfl|rfl|rfl|rfl|rfl
  all_goals clear hy
  focus
   go_wp2_with fail
   have F:Ext a (a.alloc (.cells #[.int .i64 2,.int .i64 0] 2)):=World.grownBy_alloc _ _ _;have R:Ints Any (a.alloc (.cells #[.int .i64 2,.int .i64 0] 2)) (.slice (some ⟨a.heap.size,0,none⟩) 2 2) [2,0]:=Ints.sub (ints_litL a [2,0] (by simp)) (λ_ _ _=>trivial);have r:(a.alloc (.cells #[.int .i64 2,.int .i64 0] 2)).heap.size=a.heap.size+1:=by simp
   generalize a.alloc (.cells #[.int .i64 2,.int .i64 0] 2)=u0 at *;have z:Ext u0 (u0.alloc (.cells #[.int .i64 0,.int .i64 2] 2)):=World.grownBy_alloc _ _ _;have J:Ints Any (u0.alloc (.cells #[.int .i64 0,.int .i64 2] 2)) (.slice (some ⟨u0.heap.size,0,none⟩) 2 2) [0,2]:=Ints.sub (ints_litL u0 [0,2] (by simp)) (λ_ _ _=>trivial);have C:(u0.alloc (.cells #[.int .i64 0,.int .i64 2] 2)).heap.size=u0.heap.size+1:=by simp
   generalize u0.alloc (.cells #[.int .i64 0,.int .i64 2] 2)=u1 at *;rw[r] at J;have S:=Ints.ext (R) z;have T:=J
   have G:∀i,i<([[2,0],[0,2]]:List (List Int)).length->Ints Any u1 (gt ([.slice (some ⟨a.heap.size,0,none⟩) 2 2,.slice (some ⟨a.heap.size+1,0,none⟩) 2 2]:List Value) i) (gt ([[2,0],[0,2]]:List (List Int)) i):=by
    intro i Y;rcases(show i=0\/i=1 by simp at Y;omega) with rfl|rfl
    ·exact S
    ·exact T
   have K:=rows_litL u1 [.slice (some ⟨a.heap.size,0,none⟩) 2 2,.slice (some ⟨a.heap.size+1,0,none⟩) 2 2] [[2,0],[0,2]] rfl (by simp) G;have U:=World.grownBy_alloc u1 (.cells #[.slice (some ⟨a.heap.size,0,none⟩) 2 2,.slice (some ⟨a.heap.size+1,0,none⟩) 2 2] 24) none;have A:Ext a (u1.alloc (.cells #[.slice (some ⟨a.heap.size,0,none⟩) 2 2,.slice (some ⟨a.heap.size+1,0,none⟩) 2 2] 24)):=grown_trans F (grown_trans z U);have ao:u1.heap.size=a.heap.size+2:=by omega
   rw[C,r] at K;refine Calls.mono (l07Affine_ok _ 3 2 _ [[2,0],[0,2]] Any K (by unfold SmR Sm;simp) (by omega) (by omega) (by simp)) ?_;rintro e3 I ⟨v3,rfl,l,hP⟩;have hP:=hP.q.mono (B':=a.heap.size) (Nat.le_refl _) A.size;have H:Ext a I:=grown_trans A l;clear K U A G S R F r T J z C;obtain⟨vo,vp,vc,rfl,E⟩:=hP;have p:u.grownBy I (some sb):=grown_trans b (grown_of_ext (some sb) H);have N:=D.out.ext H
  rotate_left
  focus
   go_wp2_with fail
   have F:Ext a (a.alloc (.cells #[.int .i64 0,.int .i64 1] 2)):=World.grownBy_alloc _ _ _;have R:Ints Any (a.alloc (.cells #[.int .i64 0,.int .i64 1] 2)) (.slice (some ⟨a.heap.size,0,none⟩) 2 2) [0,1]:=Ints.sub (ints_litL a [0,1] (by simp)) (λ_ _ _=>trivial);have r:(a.alloc (.cells #[.int .i64 0,.int .i64 1] 2)).heap.size=a.heap.size+1:=by simp
   generalize a.alloc (.cells #[.int .i64 0,.int .i64 1] 2)=u0 at *;have z:Ext u0 (u0.alloc (.cells #[.int .i64 2,.int .i64 0] 2)):=World.grownBy_alloc _ _ _;have J:Ints Any (u0.alloc (.cells #[.int .i64 2,.int .i64 0] 2)) (.slice (some ⟨u0.heap.size,0,none⟩) 2 2) [2,0]:=Ints.sub (ints_litL u0 [2,0] (by simp)) (λ_ _ _=>trivial);have C:(u0.alloc (.cells #[.int .i64 2,.int .i64 0] 2)).heap.size=u0.heap.size+1:=by simp
   generalize u0.alloc (.cells #[.int .i64 2,.int .i64 0] 2)=u1 at *;rw[r] at J;have S:=Ints.ext (R) z;have T:=J
   have G:∀i,i<([[0,1],[2,0]]:List (List Int)).length->Ints Any u1 (gt ([.slice (some ⟨a.heap.size,0,none⟩) 2 2,.slice (some ⟨a.heap.size+1,0,none⟩) 2 2]:List Value) i) (gt ([[0,1],[2,0]]:List (List Int)) i):=by
    intro i Y;rcases(show i=0\/i=1 by simp at Y;omega) with rfl|rfl
    ·exact S
    ·exact T
   have K:=rows_litL u1 [.slice (some ⟨a.heap.size,0,none⟩) 2 2,.slice (some ⟨a.heap.size+1,0,none⟩) 2 2] [[0,1],[2,0]] rfl (by simp) G;have U:=World.grownBy_alloc u1 (.cells #[.slice (some ⟨a.heap.size,0,none⟩) 2 2,.slice (some ⟨a.heap.size+1,0,none⟩) 2 2] 24) none;have A:Ext a (u1.alloc (.cells #[.slice (some ⟨a.heap.size,0,none⟩) 2 2,.slice (some ⟨a.heap.size+1,0,none⟩) 2 2] 24)):=grown_trans F (grown_trans z U);have ao:u1.heap.size=a.heap.size+2:=by omega
   rw[C,r] at K;refine Calls.mono (l07Affine_ok _ 3 4 _ [[0,1],[2,0]] Any K (by unfold SmR Sm;simp) (by omega) (by omega) (by simp)) ?_;rintro e3 I ⟨v3,rfl,l,hP⟩;have hP:=hP.q.mono (B':=a.heap.size) (Nat.le_refl _) A.size;have H:Ext a I:=grown_trans A l;clear K U A G S R F r T J z C;obtain⟨vo,vp,vc,rfl,E⟩:=hP;have p:u.grownBy I (some sb):=grown_trans b (grown_of_ext (some sb) H);have N:=D.out.ext H
  rotate_left
  focus
   go_wp2_with fail
   have F:Ext a (a.alloc (.cells #[.int .i64 0,.int .i64 1,.int .i64 0] 2)):=World.grownBy_alloc _ _ _;have R:Ints Any (a.alloc (.cells #[.int .i64 0,.int .i64 1,.int .i64 0] 2)) (.slice (some ⟨a.heap.size,0,none⟩) 3 3) [0,1,0]:=Ints.sub (ints_litL a [0,1,0] (by simp)) (λ_ _ _=>trivial);have r:(a.alloc (.cells #[.int .i64 0,.int .i64 1,.int .i64 0] 2)).heap.size=a.heap.size+1:=by simp
   generalize a.alloc (.cells #[.int .i64 0,.int .i64 1,.int .i64 0] 2)=u0 at *;have z:Ext u0 (u0.alloc (.cells #[.int .i64 0,.int .i64 0,.int .i64 1] 2)):=World.grownBy_alloc _ _ _;have J:Ints Any (u0.alloc (.cells #[.int .i64 0,.int .i64 0,.int .i64 1] 2)) (.slice (some ⟨u0.heap.size,0,none⟩) 3 3) [0,0,1]:=Ints.sub (ints_litL u0 [0,0,1] (by simp)) (λ_ _ _=>trivial);have C:(u0.alloc (.cells #[.int .i64 0,.int .i64 0,.int .i64 1] 2)).heap.size=u0.heap.size+1:=by simp
   generalize u0.alloc (.cells #[.int .i64 0,.int .i64 0,.int .i64 1] 2)=u1 at *;have L:Ext u1 (u1.alloc (.cells #[.int .i64 1,.int .i64 1,.int .i64 0] 2)):=World.grownBy_alloc _ _ _;have aa:Ints Any (u1.alloc (.cells #[.int .i64 1,.int .i64 1,.int .i64 0] 2)) (.slice (some ⟨u1.heap.size,0,none⟩) 3 3) [1,1,0]:=Ints.sub (ints_litL u1 [1,1,0] (by simp)) (λ_ _ _=>trivial);have W:(u1.alloc (.cells #[.int .i64 1,.int .i64 1,.int .i64 0] 2)).heap.size=u1.heap.size+1:=by simp
   generalize u1.alloc (.cells #[.int .i64 1,.int .i64 1,.int .i64 0] 2)=u2 at *;rw[r] at J;rw[C,r] at aa;have S:=Ints.ext (Ints.ext (R) z) L;have T:=Ints.ext (J) L;have af:=aa
   have G:∀i,i<([[0,1,0],[0,0,1],[1,1,0]]:List (List Int)).length->Ints Any u2 (gt ([.slice (some ⟨a.heap.size,0,none⟩) 3 3,.slice (some ⟨a.heap.size+1,0,none⟩) 3 3,.slice (some ⟨a.heap.size+1+1,0,none⟩) 3 3]:List Value) i) (gt ([[0,1,0],[0,0,1],[1,1,0]]:List (List Int)) i):=by
    intro i Y;rcases(show i=0\/i=1\/i=2 by simp at Y;omega) with rfl|rfl|rfl
    ·exact S
    ·exact T
    ·exact af
   have K:=rows_litL u2 [.slice (some ⟨a.heap.size,0,none⟩) 3 3,.slice (some ⟨a.heap.size+1,0,none⟩) 3 3,.slice (some ⟨a.heap.size+1+1,0,none⟩) 3 3] [[0,1,0],[0,0,1],[1,1,0]] rfl (by simp) G;have U:=World.grownBy_alloc u2 (.cells #[.slice (some ⟨a.heap.size,0,none⟩) 3 3,.slice (some ⟨a.heap.size+1,0,none⟩) 3 3,.slice (some ⟨a.heap.size+1+1,0,none⟩) 3 3] 24) none;have A:Ext a (u2.alloc (.cells #[.slice (some ⟨a.heap.size,0,none⟩) 3 3,.slice (some ⟨a.heap.size+1,0,none⟩) 3 3,.slice (some ⟨a.heap.size+1+1,0,none⟩) 3 3] 24)):=grown_trans F (grown_trans z (grown_trans L U));have ao:u2.heap.size=a.heap.size+3:=by omega
   rw[W,C,r] at K;refine Calls.mono (l07Affine_ok _ 2 7 _ [[0,1,0],[0,0,1],[1,1,0]] Any K (by unfold SmR Sm;simp) (by omega) (by omega) (by simp)) ?_;rintro e3 I ⟨v3,rfl,l,hP⟩;have hP:=hP.q.mono (B':=a.heap.size) (Nat.le_refl _) A.size;have H:Ext a I:=grown_trans A l;clear K U A G S R F r T J z C af aa L W;obtain⟨vo,vp,vc,rfl,E⟩:=hP;have p:u.grownBy I (some sb):=grown_trans b (grown_of_ext (some sb) H);have N:=D.out.ext H
  rotate_left
  focus
   go_wp2_with fail
   have F:Ext a (a.alloc (.cells #[.int .i64 1,.int .i64 1,.int .i64 0] 2)):=World.grownBy_alloc _ _ _;have R:Ints Any (a.alloc (.cells #[.int .i64 1,.int .i64 1,.int .i64 0] 2)) (.slice (some ⟨a.heap.size,0,none⟩) 3 3) [1,1,0]:=Ints.sub (ints_litL a [1,1,0] (by simp)) (λ_ _ _=>trivial);have r:(a.alloc (.cells #[.int .i64 1,.int .i64 1,.int .i64 0] 2)).heap.size=a.heap.size+1:=by simp
   generalize a.alloc (.cells #[.int .i64 1,.int .i64 1,.int .i64 0] 2)=u0 at *;have z:Ext u0 (u0.alloc (.cells #[.int .i64 0,.int .i64 1,.int .i64 1] 2)):=World.grownBy_alloc _ _ _;have J:Ints Any (u0.alloc (.cells #[.int .i64 0,.int .i64 1,.int .i64 1] 2)) (.slice (some ⟨u0.heap.size,0,none⟩) 3 3) [0,1,1]:=Ints.sub (ints_litL u0 [0,1,1] (by simp)) (λ_ _ _=>trivial);have C:(u0.alloc (.cells #[.int .i64 0,.int .i64 1,.int .i64 1] 2)).heap.size=u0.heap.size+1:=by simp
   generalize u0.alloc (.cells #[.int .i64 0,.int .i64 1,.int .i64 1] 2)=u1 at *;have L:Ext u1 (u1.alloc (.cells #[.int .i64 0,.int .i64 0,.int .i64 1] 2)):=World.grownBy_alloc _ _ _;have aa:Ints Any (u1.alloc (.cells #[.int .i64 0,.int .i64 0,.int .i64 1] 2)) (.slice (some ⟨u1.heap.size,0,none⟩) 3 3) [0,0,1]:=Ints.sub (ints_litL u1 [0,0,1] (by simp)) (λ_ _ _=>trivial);have W:(u1.alloc (.cells #[.int .i64 0,.int .i64 0,.int .i64 1] 2)).heap.size=u1.heap.size+1:=by simp
   generalize u1.alloc (.cells #[.int .i64 0,.int .i64 0,.int .i64 1] 2)=u2 at *;rw[r] at J;rw[C,r] at aa;have S:=Ints.ext (Ints.ext (R) z) L;have T:=Ints.ext (J) L;have af:=aa
   have G:∀i,i<([[1,1,0],[0,1,1],[0,0,1]]:List (List Int)).length->Ints Any u2 (gt ([.slice (some ⟨a.heap.size,0,none⟩) 3 3,.slice (some ⟨a.heap.size+1,0,none⟩) 3 3,.slice (some ⟨a.heap.size+1+1,0,none⟩) 3 3]:List Value) i) (gt ([[1,1,0],[0,1,1],[0,0,1]]:List (List Int)) i):=by
    intro i Y;rcases(show i=0\/i=1\/i=2 by simp at Y;omega) with rfl|rfl|rfl
    ·exact S
    ·exact T
    ·exact af
   have K:=rows_litL u2 [.slice (some ⟨a.heap.size,0,none⟩) 3 3,.slice (some ⟨a.heap.size+1,0,none⟩) 3 3,.slice (some ⟨a.heap.size+1+1,0,none⟩) 3 3] [[1,1,0],[0,1,1],[0,0,1]] rfl (by simp) G;have U:=World.grownBy_alloc u2 (.cells #[.slice (some ⟨a.heap.size,0,none⟩) 3 3,.slice (some ⟨a.heap.size+1,0,none⟩) 3 3,.slice (some ⟨a.heap.size+1+1,0,none⟩) 3 3] 24) none;have A:Ext a (u2.alloc (.cells #[.slice (some ⟨a.heap.size,0,none⟩) 3 3,.slice (some ⟨a.heap.size+1,0,none⟩) 3 3,.slice (some ⟨a.heap.size+1+1,0,none⟩) 3 3] 24)):=grown_trans F (grown_trans z (grown_trans L U));have ao:u2.heap.size=a.heap.size+3:=by omega
   rw[W,C,r] at K;refine Calls.mono (l07Affine_ok _ 2 4 _ [[1,1,0],[0,1,1],[0,0,1]] Any K (by unfold SmR Sm;simp) (by omega) (by omega) (by simp)) ?_;rintro e3 I ⟨v3,rfl,l,hP⟩;have hP:=hP.q.mono (B':=a.heap.size) (Nat.le_refl _) A.size;have H:Ext a I:=grown_trans A l;clear K U A G S R F r T J z C af aa L W;obtain⟨vo,vp,vc,rfl,E⟩:=hP;have p:u.grownBy I (some sb):=grown_trans b (grown_of_ext (some sb) H);have N:=D.out.ext H
  rotate_left
  focus
   go_wp2_with fail
   have F:Ext a (a.alloc (.cells #[.int .i64 0,.int .i64 1,.int .i64 0,.int .i64 0] 2)):=World.grownBy_alloc _ _ _;have R:Ints Any (a.alloc (.cells #[.int .i64 0,.int .i64 1,.int .i64 0,.int .i64 0] 2)) (.slice (some ⟨a.heap.size,0,none⟩) 4 4) [0,1,0,0]:=Ints.sub (ints_litL a [0,1,0,0] (by simp)) (λ_ _ _=>trivial);have r:(a.alloc (.cells #[.int .i64 0,.int .i64 1,.int .i64 0,.int .i64 0] 2)).heap.size=a.heap.size+1:=by simp
   generalize a.alloc (.cells #[.int .i64 0,.int .i64 1,.int .i64 0,.int .i64 0] 2)=u0 at *;have z:Ext u0 (u0.alloc (.cells #[.int .i64 1,.int .i64 0,.int .i64 0,.int .i64 0] 2)):=World.grownBy_alloc _ _ _;have J:Ints Any (u0.alloc (.cells #[.int .i64 1,.int .i64 0,.int .i64 0,.int .i64 0] 2)) (.slice (some ⟨u0.heap.size,0,none⟩) 4 4) [1,0,0,0]:=Ints.sub (ints_litL u0 [1,0,0,0] (by simp)) (λ_ _ _=>trivial);have C:(u0.alloc (.cells #[.int .i64 1,.int .i64 0,.int .i64 0,.int .i64 0] 2)).heap.size=u0.heap.size+1:=by simp
   generalize u0.alloc (.cells #[.int .i64 1,.int .i64 0,.int .i64 0,.int .i64 0] 2)=u1 at *;have L:Ext u1 (u1.alloc (.cells #[.int .i64 0,.int .i64 0,.int .i64 0,.int .i64 1] 2)):=World.grownBy_alloc _ _ _;have aa:Ints Any (u1.alloc (.cells #[.int .i64 0,.int .i64 0,.int .i64 0,.int .i64 1] 2)) (.slice (some ⟨u1.heap.size,0,none⟩) 4 4) [0,0,0,1]:=Ints.sub (ints_litL u1 [0,0,0,1] (by simp)) (λ_ _ _=>trivial);have W:(u1.alloc (.cells #[.int .i64 0,.int .i64 0,.int .i64 0,.int .i64 1] 2)).heap.size=u1.heap.size+1:=by simp
   generalize u1.alloc (.cells #[.int .i64 0,.int .i64 0,.int .i64 0,.int .i64 1] 2)=u2 at *;have ag:Ext u2 (u2.alloc (.cells #[.int .i64 0,.int .i64 0,.int .i64 1,.int .i64 0] 2)):=World.grownBy_alloc _ _ _;have aJ:Ints Any (u2.alloc (.cells #[.int .i64 0,.int .i64 0,.int .i64 1,.int .i64 0] 2)) (.slice (some ⟨u2.heap.size,0,none⟩) 4 4) [0,0,1,0]:=Ints.sub (ints_litL u2 [0,0,1,0] (by simp)) (λ_ _ _=>trivial);have aC:(u2.alloc (.cells #[.int .i64 0,.int .i64 0,.int .i64 1,.int .i64 0] 2)).heap.size=u2.heap.size+1:=by simp
   generalize u2.alloc (.cells #[.int .i64 0,.int .i64 0,.int .i64 1,.int .i64 0] 2)=u3 at *;rw[r] at J;rw[C,r] at aa;rw[W,C,r] at aJ;have S:=Ints.ext (Ints.ext (Ints.ext (R) z) L) ag;have T:=Ints.ext (Ints.ext (J) L) ag;have af:=Ints.ext (aa) ag;have aT:=aJ
   have G:∀i,i<([[0,1,0,0],[1,0,0,0],[0,0,0,1],[0,0,1,0]]:List (List Int)).length->Ints Any u3 (gt ([.slice (some ⟨a.heap.size,0,none⟩) 4 4,.slice (some ⟨a.heap.size+1,0,none⟩) 4 4,.slice (some ⟨a.heap.size+1+1,0,none⟩) 4 4,.slice (some ⟨a.heap.size+1+1+1,0,none⟩) 4 4]:List Value) i) (gt ([[0,1,0,0],[1,0,0,0],[0,0,0,1],[0,0,1,0]]:List (List Int)) i):=by
    intro i Y;rcases(show i=0\/i=1\/i=2\/i=3 by simp at Y;omega) with rfl|rfl|rfl|rfl
    ·exact S
    ·exact T
    ·exact af
    ·exact aT
   have K:=rows_litL u3 [.slice (some ⟨a.heap.size,0,none⟩) 4 4,.slice (some ⟨a.heap.size+1,0,none⟩) 4 4,.slice (some ⟨a.heap.size+1+1,0,none⟩) 4 4,.slice (some ⟨a.heap.size+1+1+1,0,none⟩) 4 4] [[0,1,0,0],[1,0,0,0],[0,0,0,1],[0,0,1,0]] rfl (by simp) G;have U:=World.grownBy_alloc u3 (.cells #[.slice (some ⟨a.heap.size,0,none⟩) 4 4,.slice (some ⟨a.heap.size+1,0,none⟩) 4 4,.slice (some ⟨a.heap.size+1+1,0,none⟩) 4 4,.slice (some ⟨a.heap.size+1+1+1,0,none⟩) 4 4] 24) none;have A:Ext a (u3.alloc (.cells #[.slice (some ⟨a.heap.size,0,none⟩) 4 4,.slice (some ⟨a.heap.size+1,0,none⟩) 4 4,.slice (some ⟨a.heap.size+1+1,0,none⟩) 4 4,.slice (some ⟨a.heap.size+1+1+1,0,none⟩) 4 4] 24)):=grown_trans F (grown_trans z (grown_trans L (grown_trans ag U)));have ao:u3.heap.size=a.heap.size+4:=by omega
   rw[aC,W,C,r] at K;refine Calls.mono (l07Affine_ok _ 2 2 _ [[0,1,0,0],[1,0,0,0],[0,0,0,1],[0,0,1,0]] Any K (by unfold SmR Sm;simp) (by omega) (by omega) (by simp)) ?_;rintro e3 I ⟨v3,rfl,l,hP⟩;have hP:=hP.q.mono (B':=a.heap.size) (Nat.le_refl _) A.size;have H:Ext a I:=grown_trans A l;clear K U A G S R F r T J z C af aa L W aT aJ ag aC;obtain⟨vo,vp,vc,rfl,E⟩:=hP;have p:u.grownBy I (some sb):=grown_trans b (grown_of_ext (some sb) H);have N:=D.out.ext H
  rotate_left
  focus
   go_wp2_with fail
   have F:Ext a (a.alloc (.cells #[.int .i64 0,.int .i64 1] 2)):=World.grownBy_alloc _ _ _;have R:Ints Any (a.alloc (.cells #[.int .i64 0,.int .i64 1] 2)) (.slice (some ⟨a.heap.size,0,none⟩) 2 2) [0,1]:=Ints.sub (ints_litL a [0,1] (by simp)) (λ_ _ _=>trivial);have r:(a.alloc (.cells #[.int .i64 0,.int .i64 1] 2)).heap.size=a.heap.size+1:=by simp
   generalize a.alloc (.cells #[.int .i64 0,.int .i64 1] 2)=u0 at *;have z:Ext u0 (u0.alloc (.cells #[.int .i64 4,.int .i64 4] 2)):=World.grownBy_alloc _ _ _;have J:Ints Any (u0.alloc (.cells #[.int .i64 4,.int .i64 4] 2)) (.slice (some ⟨u0.heap.size,0,none⟩) 2 2) [4,4]:=Ints.sub (ints_litL u0 [4,4] (by simp)) (λ_ _ _=>trivial);have C:(u0.alloc (.cells #[.int .i64 4,.int .i64 4] 2)).heap.size=u0.heap.size+1:=by simp
   generalize u0.alloc (.cells #[.int .i64 4,.int .i64 4] 2)=u1 at *;rw[r] at J;have S:=Ints.ext (R) z;have T:=J
   have G:∀i,i<([[0,1],[4,4]]:List (List Int)).length->Ints Any u1 (gt ([.slice (some ⟨a.heap.size,0,none⟩) 2 2,.slice (some ⟨a.heap.size+1,0,none⟩) 2 2]:List Value) i) (gt ([[0,1],[4,4]]:List (List Int)) i):=by
    intro i Y;rcases(show i=0\/i=1 by simp at Y;omega) with rfl|rfl
    ·exact S
    ·exact T
   have K:=rows_litL u1 [.slice (some ⟨a.heap.size,0,none⟩) 2 2,.slice (some ⟨a.heap.size+1,0,none⟩) 2 2] [[0,1],[4,4]] rfl (by simp) G;have U:=World.grownBy_alloc u1 (.cells #[.slice (some ⟨a.heap.size,0,none⟩) 2 2,.slice (some ⟨a.heap.size+1,0,none⟩) 2 2] 24) none;have A:Ext a (u1.alloc (.cells #[.slice (some ⟨a.heap.size,0,none⟩) 2 2,.slice (some ⟨a.heap.size+1,0,none⟩) 2 2] 24)):=grown_trans F (grown_trans z U);have ao:u1.heap.size=a.heap.size+2:=by omega
   rw[C,r] at K;refine Calls.mono (l07Affine_ok _ 5 3 _ [[0,1],[4,4]] Any K (by unfold SmR Sm;simp) (by omega) (by omega) (by simp)) ?_;rintro e3 I ⟨v3,rfl,l,hP⟩;have hP:=hP.q.mono (B':=a.heap.size) (Nat.le_refl _) A.size;have H:Ext a I:=grown_trans A l;clear K U A G S R F r T J z C;obtain⟨vo,vp,vc,rfl,E⟩:=hP;have p:u.grownBy I (some sb):=grown_trans b (grown_of_ext (some sb) H);have N:=D.out.ext H
  rotate_left
 rotate_left 6
 focus
  go_wp2_with fail
  refine Calls.mono (l01Next_ok B0 u sb 10 ab.out) ?_;rintro e2 a ⟨v2,rfl,b,y,rfl,hy0,hy1,hs2⟩;have hy:=hy1 (by omega);have D:=Lib.hid hs2;have ah:w.heap.size+1<=a.heap.size:=by have:=b.size;omega
  clear hy0 hy1 hs2;go_wp2_with fail
  refine Calls.mono (l07Table_ok a y hy.1 hy.2) ?_;rintro e3 I ⟨v3,rfl,l,hP⟩;obtain⟨vo,vp,vc,rfl,E⟩:=hP;have p:u.grownBy I (some sb):=grown_trans b (grown_of_ext (some sb) l);have N:=D.out.ext l
 rotate_left
 focus
  go_wp2_with fail
  refine Calls.mono (l01Next_ok B0 u sb 10 ab.out) ?_;rintro e2 a ⟨v2,rfl,b,y,rfl,hy0,hy1,hs2⟩;have hy:=hy1 (by omega);have D:=Lib.hid hs2;have ah:w.heap.size+1<=a.heap.size:=by have:=b.size;omega
  clear hy0 hy1 hs2;go_wp2_with fail
  refine Calls.mono (l07Table_ok a y hy.1 hy.2) ?_;rintro e3 I ⟨v3,rfl,l,hP⟩;obtain⟨vo,vp,vc,rfl,E⟩:=hP;have p:u.grownBy I (some sb):=grown_trans b (grown_of_ext (some sb) l);have N:=D.out.ext l
 rotate_left
 all_goals
  obtain⟨a1,n1,c1,a2,n2,c2,a3,n3,c3,rfl,rfl,rfl⟩:=E.shape;have Z:=Box3.keep ak p.size (p.block _ ak.1 (λe=>by have:=Option.some.inj e;omega));have X:=grown_trans am p;obtain⟨b0,b1,b2,b3,b4⟩:=id Z;have hZ:=Z.all (.slice a1 n1 c1) (.slice a2 n2 c2) (.slice a3 n3 c3);obtain⟨-,z0,z1,z2,-⟩:=id hZ;have HF:=Lib.hid (And.intro X (And.intro E N));clear hZ X E Z;go_wp2_with fail
  refine bodyPost_ret (v := .agg #[.slice a1 n1 c1,.slice a2 n2 c2,.slice a3 n3 c3]) (by simp[results,Tryz.results220,go_sem,z0,z1,z2]) rfl ?_;exact fam_ret HF.out.1 (B:=a.heap.size) (by omega) HF.out.2.2 aD HF.out.2.1 (by omega)
end Go.Proofs.YtoakmefajbbggaaGreat
namespace Go.Proofs.YtoakmefajbbggaaGreat
open Go.RowKit
theorem step_app_many (T E:Nat) (z:Value) (bytes:Nat) (I:Tryz.prog.underlying T=some (.slice E)) (Y:(Tryz.prog.info? E).map (λi=>(i.zero,i.size,i.bytes))=some (some z,1,bytes))
  (C:z.cells.size=1) (D:bytes<=64) {F:Array Oper}{o:Oper}{a:Act}{K:Act->World->Prop}{Q:Exit->Act->World->Prop}{Z:Prop}{w:World}(r:o.guard=none) (s x:Operand)
  (J:o.op=Op.call { callee:=Callee.builtin Builtin.append,args := #[s,x],argTypes := #[T,T] }) (base g cap:Nat) (xs:List Value) (L:a.eval s=.slice (some ⟨g,0,none⟩) xs.length cap) (k:OwnV base E w (.slice (some ⟨g,0,none⟩) xs.length cap) xs)
  (H:Option Addr) (m c:Nat) (news:List Value) (hx:a.eval x=.slice H m c) (R:news.length=m) (M:H=none->c=0)
  (l:∀j,j<m->∃b off,H=some ⟨b,off,none⟩/\w.cell? ⟨b,off+j,none⟩=some (gt news j)) (h1:∀u,u∈news->u.oneCell'=true) (S:xs.length+m<=1000000) (y:base<=w.heap.size)
  (h:∀U w',OwnV base E w' U (xs++news)->w.grownBy w' (some g)->K (a.put o.dst U) w') :
  if Region.wanted o (yielded F a.tmps)=true then Oper.wp Tryz.prog o a w K Q else Z:=by
 obtain⟨N,hi,hz0,hz1,hz2⟩:=info_parts Y;have hw:Region.wanted o (yielded F a.tmps)=true:=by simp[Region.wanted,r]
 rcases Nat.eq_zero_or_pos m with rfl|V
 ·have hn:news=[]:=List.eq_nil_of_length_eq_zero R
  subst hn;have p:=k;rw[List.append_nil] at h;cases H with
  | none=>
   have B:=M rfl;subst B;rw[if_pos hw];have G:=run_append_owned_none (P:=Tryz.prog) (w:=w) base T o.type E N 1 I hi _ xs.length xs k;unfold Oper.wp;simp[execOp,J,resolve,invoke,builtin,L,hx,G,Result.andThen]
   exact h _ _ p (grown_refl _ _)
  | some ad=>
   have W:xs.length<=cap:=by
    rcases k.form with⟨h,_⟩|⟨g',cp,hv,B,_⟩
    ·cases h
    ·simp only[Value.slice.injEq] at hv;omega
   refine step_append_at w r s x T J E N z 1 bytes I hi hz0 hz1 hz2 C (by decide) g 0 xs.length cap xs L (by omega) (λj u q => ?_) ad 0 c [] hx rfl (by simp) (by simp) (λ_ j q=>by simp at q) (by unfold maxLen;omega) (by have:=Nat.mul_le_mul (show xs.length+0<=1000000 by omega) D;omega) (λ_ => ?_) (λh=>by omega)
   ·have A:j<xs.length:=by
     rcases Nat.lt_or_ge j xs.length with h|h
     ·exact h
     ·rw[List.getElem?_eq_none h] at q;cases q
    rw[Nat.zero_add,k.cell j A];simp[gt,q]
   ·have e:w.setCells g (0+xs.length*1) []=w:=by simp[World.setCells]
    rw[e];exact h _ _ p (grown_refl _ _)
 ·obtain ⟨b,off,rfl,_⟩:=l 0 V
  refine step_append_lies w r s x T J base E N z 1 bytes I hi hz0 hz1 hz2 C (by decide) _ xs.length xs L k ⟨b,off,none⟩ m c news hx (by omega) (λj u q => ?_) h1 V (by unfold maxLen;omega) (by have:=Nat.mul_le_mul (show xs.length+m<=1000000 by omega) D;omega) y w.heap.size rfl ?_
  ·have A:j<m:=by
    rcases Nat.lt_or_ge j news.length with h|h
    ·omega
    ·rw[List.getElem?_eq_none h] at q;cases q
   obtain⟨b',off',he,B⟩:=l j A;cases he
   have O:gt news j=u:=by simp[gt,q]
   rw[O] at B;unfold Addr.add;split
   ·rename_i h0;subst h0;exact B
   ·exact B
  ·intro g' X w' k1 k2 k3 _
   exact h _ w' (by unfold OwnV;rw[List.length_append,R];exact k1) k2
theorem step_app_list {q:Array Oper}{o:Oper}{a:Act}{K:Act->World->Prop}{Q:Exit->Act->World->Prop}{D:Prop}{w:World}(r:o.guard=none) (s x:Operand)
  (E:o.op=Op.call { callee:=Callee.builtin Builtin.append,args := #[s,x],argTypes := #[24,24] }) (B g cap n:Nat) (l m:List Int) (y:l.length=n) (F:a.eval s=.slice (some ⟨g,0,none⟩) n cap)
  (i:Own B w (.slice (some ⟨g,0,none⟩) n cap) l) (v:Value) (S:Nat->Prop) (G:Ints S w v m) (hx:a.eval x=v) (k:l.length+m.length<=1000000) (e:B<=w.heap.size)
  (h:∀p w',Own B w' p (l++m)->w.grownBy w' (some g)->K (a.put o.dst p) w') :
  if Region.wanted o (yielded q a.tmps)=true then Oper.wp Tryz.prog o a w K Q else D:=by
 subst y;obtain⟨H,c,rfl,⟨_,_,I⟩,hc⟩:=G;have z:(l.map (Value.int .i64)).length=l.length:=List.length_map ..;refine step_app_many 24 2 (.int .i64 0) 8 und_ints Tryz.infoInt rfl (by decide) r s x E B g cap (l.map (Value.int .i64)) (by rw[z];exact F) (by have:=i.v;rw[z];exact this) H m.length c (m.map (Value.int .i64)) hx (by simp) I (λj A => ?_) (λu C => ?_) (by rw[z];exact k) e (λp w' J L => ?_)
 ·obtain ⟨b,off,u,h1,_,_,M,h3⟩:=hc j A
  exact⟨b,off,h1,by rw[M,h3];simp[gt,A]⟩
 ·simp at C
  obtain⟨x,_,rfl⟩:=C;rfl
 ·exact h p w' (Own.of (by rw[List.map_append];exact J)) L
end Go.Proofs.YtoakmefajbbggaaGreat
namespace Go.Proofs.YtoakmefajbbggaaGreat
open Go.RowKit
attribute [local go_sem ↓] Go.wp_at_zero Go.wp_at_succ
theorem l01OwnS_ok (w:World) (v:Value) (l:List Int) (S:Nat->Prop) (m:Ints S w v l) (u:l.length<=1048576) :
  Calls Tryz.prog 120 #[v] w (Ret w λw' r=>Own w.heap.size w' r l/\∃g c,r=.slice (some ⟨g,0,none⟩) l.length c/\w.heap.size<=g):=by
 obtain⟨a,cap,rfl,_,_⟩:=m.shape;go_enter Tryz.func120,Tryz.ntmps120;go_wp2_with (at_builtin;refine wp_app_ints rfl _ _ rfl w.heap.size _ [] rfl (World.ownsRow_lit w #[] 0 (Nat.le_refl _) (by decide) rfl) _ l rfl S (m.ext (World.grownBy_alloc _ _ _)) (by simp;omega) (by simp) ?_;intro y z b i k)
 go_ret;refine⟨_,rfl,grown_own (World.grownBy_alloc _ _ _) i (λj p q=>by have:=own_blk p;omega),b,?_⟩;rcases b.v.form with⟨h1,_⟩|⟨g,c,h1,_,h2,_⟩
 ·exact absurd (k.1 h1).1 (by intro e;cases e)
 ·exact⟨g,c,by rw[h1];simp,h2⟩
def BothCut (w0:World) (o:List Int) (q:Value) (a:World):Prop:=∃pb b co ap e i j,q=.pointer (some ⟨pb,0,none⟩)/\Ext w0 a /\
 BX 40 o w0.heap.size pb a (.slice b o.length co) (.slice ap o.length e) (.slice i o.length j)
theorem bothCut_mk {w0 i b:World}{o:List Int}{pb co j l:Nat}{m ap p:Option Addr}{B:Nat}(r:o.length<=40) (u:PresX (From B) i (.slice m o.length co) (.slice ap o.length j) (.slice p o.length l) (trivP o)) (hB:w0.heap.size<=B) (w:w0.heap.size<=pb)
  (y:pb<B\/i.heap.size<=pb) (z:Ext w0 b) (q:i.grownBy b (some pb)) (A:Box3 b pb (.slice m o.length co) (.slice ap o.length j) (.slice p o.length l)):BothCut w0 o (.pointer (some ⟨pb,0,none⟩)) b:=
 ⟨pb,m,co,ap,j,p,l,rfl,z,w,A,trivP o,trivP_shp o r,rfl,u.mono (λk hk a=>by
  have C:B<=k:=hk;exact⟨⟨by omega,by omega⟩,Nat.lt_of_lt_of_le a q.size,q.block k a (λe=>by cases e;omega)⟩)⟩
theorem l07Both_ok (w:World) (pa pb:Value) (A B:Pr) (Sa Sb:Nat->Prop) (ha:PresV Sa w pa A) (hb:PresV Sb w pb B) (hA:Shp 20 A) (hB:Shp 20 B) :
  Calls Tryz.prog 221 #[pa,pb] w (Ret w (PresN 40 w.heap.size)):=by
 obtain⟨vo,vp,vc,rfl,h3⟩:=ha;obtain⟨uo,up,uc,rfl,k3⟩:=hb;obtain⟨ao,ay,hv1,_,_⟩:=h3.o.shape;obtain⟨ap,cap,hv2,_,_⟩:=Sl.shape h3.p;obtain⟨ac,aA,hv3,_,_⟩:=Sl.shape h3.c;obtain⟨bo,aB,hu1,_,_⟩:=k3.o.shape;obtain⟨bp,aC,hu2,_,_⟩:=Sl.shape k3.p;obtain⟨bc,aD,hu3,_,_⟩:=Sl.shape k3.c;subst hv1 hv2 hv3 hu1 hu2 hu3;obtain⟨w0,af⟩:∃w0,w0=((w.alloc (.cells #[.slice ao A.orders.length ay,.slice ap A.powers.length cap,.slice ac A.conj.length aA] 28)).alloc (.cells #[.slice bo B.orders.length aB,.slice bp B.powers.length aC,.slice bc B.conj.length aD] 28)).alloc (.cells #[.slice none 0 0,.slice none 0 0,.slice none 0 0] 28):=⟨_,rfl⟩;have bL:Ext w w0:=by rw[af];exact grown_trans (World.grownBy_alloc _ _ _) (grown_trans (World.grownBy_alloc _ _ _) (World.grownBy_alloc _ _ _))
 have bl:Box3 w0 w.heap.size (.slice ao A.orders.length ay) (.slice ap A.powers.length cap) (.slice ac A.conj.length aA):=by rw[af];exact((Box3.made w 28 _ _ _).ext (World.grownBy_alloc _ _ _)).ext (World.grownBy_alloc _ _ _)
 have bm:Box3 w0 (w.heap.size+1) (.slice bo B.orders.length aB) (.slice bp B.powers.length aC) (.slice bc B.conj.length aD):=by
  have h:=(Box3.made (w.alloc (.cells #[.slice ao A.orders.length ay,.slice ap A.powers.length cap,.slice ac A.conj.length aA] 28)) 28 (.slice bo B.orders.length aB) (.slice bp B.powers.length aC) (.slice bc B.conj.length aD)).ext (World.grownBy_alloc _ (.cells #[.slice none 0 0,.slice none 0 0,.slice none 0 0] 28) _);rw[af];simpa using h
 have bn:Box3 w0 (w.heap.size+1+1) (.slice none 0 0) (.slice none 0 0) (.slice none 0 0):=by
  have h:=Box3.made ((w.alloc (.cells #[.slice ao A.orders.length ay,.slice ap A.powers.length cap,.slice ac A.conj.length aA] 28)).alloc (.cells #[.slice bo B.orders.length aB,.slice bp B.powers.length aC,.slice bc B.conj.length aD] 28)) 28 (.slice none 0 0) (.slice none 0 0) (.slice none 0 0);rw[af];simpa using h
 have aR:w0.heap.size=w.heap.size+3:=by rw[af];simp
 have L:=Lib.hid (And.intro bl (And.intro bm (And.intro bn (And.intro aR (And.intro hA hB)))));clear bl bm bn aR hA hB;go_enter Tryz.func221,Tryz.ntmps221;go_wp2_with fail
 rw[<-af];clear af;obtain⟨_,f0,f1,f2,_⟩:=id L.out.1;obtain⟨_,g0,g1,g2,_⟩:=id L.out.2.1;go_quiet (fail)
 rename_i nq _;obtain⟨M,a2⟩:∃M,M=w0.drewN nq:=⟨_,rfl⟩;have aF:Ext w0 M:=by rw[a2];exact grown_drewN _ _ _
 rw[<-a2];clear a2 f0 f1 f2 g0 g1 g2;have a3:=grown_trans bL aF;have a4:=h3.ext a3;have a7:=k3.ext a3;have bq:=L.out.1.ext aF;have br:=L.out.2.1.ext aF;have bs:=L.out.2.2.1.ext aF;have a9:=L.out.2.2.2.2.1;have a':=L.out.2.2.2.2.2;have aR:=L.out.2.2.2.1;have b8:=aF.size;clear L h3 k3;have b9:A.orders.length<=20:=a9.n;have b':B.orders.length<=20:=a'.n;obtain⟨o,ho⟩:∃o,o=A.orders++B.orders:=⟨_,rfl⟩;have bt:o.length=A.orders.length+B.orders.length:=by rw[ho];simp
 have aG:o.length<=40:=by omega
 have L:=Lib.hid (And.intro bq (And.intro br (And.intro bs (And.intro a9 (And.intro a' (And.intro ho (And.intro bt aR)))))));clear bq br bs a9 a' ho bt;have e0:∀w',Ext M w'->w'.cell? ⟨w.heap.size,0,none⟩=some (.slice ao A.orders.length ay):=λw' h=>(L.out.1.ext h).2.1;have e1:∀w',Ext M w'->w'.cell? ⟨w.heap.size+1,0,none⟩=some (.slice bo B.orders.length aB):=λw' h=>(L.out.2.1.ext h).2.1;go_wp2_with fail
 go_cut [7] (λqv wx=>BothCut M o qv wx)
 case first=>
  go_region_held3 (λw'=>Ext M w') (first|exact grown_drew _ _|assumption|exact grown_trans (by assumption) (World.grownBy_alloc _ _ _)|exact grown_own (by assumption) (grown_set3 _ _ _ _ _) (λj hj D=>by cases hj;first|(exact absurd D (Nat.lt_irrefl _))|(have:=hgO.size;omega)|(have:=aW.size;omega)|(have:=hgT.size;omega)))
   (first
    | (go_at_call 120;refine Calls.mono (Calls.rel2 (w0:=M) (by assumption) (l01OwnS_ok _ _ A.orders Sa (Ints.ext a4.o (by assumption)) (by omega))) ?_;rintro eO wO ⟨vO,rfl,hgO,aX,bu,ba,gO,cO,rfl,bv⟩;(first|(have hQ:=Box3.ext (Box3.made _ _ _ _ _) aX)|(have hQ:=Box3.ext (Box3.made _ _ _ _ _) (grown_trans (grown_drew _ _) aX))|skip);(try obtain⟨f0,f1,f2,f3,f4⟩:=id hQ))
    | (refine step_app_list rfl _ _ rfl M.heap.size gO cO A.orders.length A.orders B.orders rfl (by rfl) (by first|exact ba.weak bu|exact(ba.weak bu).ext0 (World.grownBy_alloc _ _ _)) _ Sb (Ints.ext a7.o (by assumption)) (by rfl) (by omega) ((show Ext M _ by assumption).size) ?_;intro v8 w8 bb aH;rw[<-L.out.2.2.2.2.2.1] at bb;obtain⟨a8,c8,hv8,_⟩:=(bb.ints (by omega)).shape;subst hv8;have bw:=Ints.sub (bb.ints (by omega)) (S':=Any) (λ_ _ _=>trivial);have aW:Ext M w8:=grown_own (by assumption) aH (λj hj D=>by cases hj;omega);(first|(have hQ:=Box3.keep hQ aH.size (aH.block _ hQ.1 (λe=>by cases e;first|omega|(simp[World.drew] at bv<;>omega))))|(have hQ:=Box3.keep (Box3.made wO 28 (.slice none 0 0) (.slice none 0 0) (.slice none 0 0)) aH.size (aH.block _ (by simp) (λe=>by cases e;exact absurd (show wO.heap.size<wO.heap.size from(ba.lt _ rfl).2) (Nat.lt_irrefl _))))|skip);(try obtain⟨f0,f1,f2,f3,f4⟩:=id hQ))
    | (go_at_call 222;refine Calls.mono (Calls.rel2 (w0:=M) (by assumption) (l07Trivial_ok _ _ o Any (by first|exact bw|exact Ints.ext bw (World.grownBy_alloc _ _ _)) (Nat.le_trans aG (by decide)))) ?_;rintro eT wT ⟨vT,rfl,hgT,aY,bx,vo,vp,vc,rfl,G⟩;obtain⟨xo,co,xp,cp,xc,cc,rfl,rfl,rfl⟩:=trivX_shape G;(try have hQ:=Box3.ext hQ aY);(first|(have hQ:=Box3.ext (Box3.made _ _ _ _ _) aY)|skip);(try obtain⟨f0,f1,f2,f3,f4⟩:=id hQ)))
  all_goals (try go_wp2_with fail)
  all_goals go_meet
  all_goals
   have ch:=hgO.size;have ci:=aW.size;have cj:=hgT.size
   first
    | exact bothCut_mk aG G bx (by omega) (.inr (Nat.le_refl _)) (grown_trans (by assumption) (World.grownBy_alloc _ _ _)) (World.grownBy_alloc _ _ _) (Box3.made _ _ _ _ _)
    | exact bothCut_mk aG G bx (by omega) (.inl (by first|omega|(simp;done)|(simp;omega))) (by assumption) (grown_set3 _ _ _ _ _) (hQ.all _ _ _)
  done
 case rest =>
  obtain⟨rb,xo,co,xp,cp,xc,cc,rfl,aI,H⟩:=hcut;clear e0 e1;go_wp2;go_loopw [8] (λiv wr=>∃i:Nat,iv=.int .i64 i/\i<=A.orders.length/\Ext M wr/\BX 40 o M.heap.size rb wr (.slice xo o.length co) (.slice xp o.length cp) (.slice xc o.length cc)) (λiv _=>A.orders.length-(intOf iv).toNat)
  case atStart=>exact⟨0,rfl,by omega,aI,H⟩
  case round=>
   clear H aI;obtain⟨i,rfl,hi,F,H⟩:=hrel;by_cases D:i<A.orders.length
   ·have aq:(i:Int)<A.orders.length:=by omega
    have m:=L.out.2.2.2.1;have E:=L.out.2.2.2.2.2.2.1;have bz:=L.out.2.2.2.2.2.2.2;have aJ:i<A.powers.length:=by rw[m.p];exact D
    have bA:(i:Int)<A.powers.length:=by omega
    have ck:((i:Nat):Int)<o.length:=by omega
    have hK:i=i:=rfl;obtain⟨g,capg,z,hvg,hgB,hgp,hgl,aK,aL⟩:=H.storeP i (by omega);obtain⟨rfl,rfl⟩:xp=some ⟨g,0,none⟩/\cp=capg:=by cases hvg;exact⟨rfl,rfl⟩
    clear hvg;obtain⟨b2,o2,az,Y,aM,_,hb2l,u,q⟩:=Rows2.at a4.p i aJ;have ah:=F.cell u (by simp);have N:=m.pv _ (gtMem aJ);obtain⟨O,Q⟩:∃O,O=gt A.powers i:=⟨_,rfl⟩;rw[<-Q] at ah q N;clear Q u;have V:=L.out.1.ext F;have e1:∀w',Near wr g w'->w'.cell? ⟨rb,1,none⟩=some (.slice (some ⟨g,0,none⟩) o.length cp):=λw' h=>h.cell H.box.2.2.1 (by simp;omega);have e2:∀w',Near wr g w'->w'.cell? ⟨w.heap.size,1,none⟩=some (.slice (some ⟨b2,o2,none⟩) A.powers.length cap):=λw' h=>h.cell (by rw[<-aM];exact V.2.2.1) (by simp;omega);have e3:∀w',Near wr g w'->w'.cell? ⟨b2,o2+i,none⟩=some (.slice az O.length Y):=λw' h=>h.cell ah (by simp;omega)
    have y:∀w',Ext wr w'->Calls Tryz.prog 265 #[.int .i64 0,.slice az O.length Y,.int .i64 B.orders.length] w' (Ret w' λai r=>∃l,l.length<=40/\Own w'.heap.size ai r l):=λw' he=>
     Calls.mono (l07Shift_ok w' 0 _ O B.orders.length _ (Ints.ext q (grown_trans F he)) (by omega)) (λe w2 ⟨v,h1,h2,h3⟩=>⟨v,h1,h2,_,by rw[shiftL_len];omega,h3⟩)
    have U:=Lib.hid (And.intro H (And.intro aL (And.intro aK (And.intro y (And.intro m (And.intro E hK))))));clear H aL aK y ah q N V m E aM hK;go_wp2
    go_region_held3 (λw'=>Near wr g w') (first|exact Near.of (grown_drew _ _)|exact Near.of (by assumption)|exact Near.store (by assumption)|assumption)
     (first
      | (go_at_call 265;refine Calls.mono (Calls.rel (w0:=wr) (by first|exact grown_drew _ _|assumption) (U.out.2.2.2.1 _ (by first|exact grown_drew _ _|assumption))) ?_;rintro eE T ⟨vE,rfl,a,hsE,lE,C,I⟩;obtain⟨aE,cE,hvE,_⟩:=(I.ints (Nat.le_trans C (by decide))).shape;subst hvE;have W:=(U.out.2.2.1 T a).1;have aj:=(U.out.2.2.1 T a).2))
    have G:=U.out.2.1 T _ lE a (OwnIn.of I (Nat.le_trans C (by decide)) (λk hk _=>Nat.le_trans (by assumption) hk)) C;have X:Ext M (T.setCell ⟨g,i,none⟩ (.slice aE lE.length cE)):=grown_own (grown_trans F a) (grown_set1 _ _ _ _) (λj hj D=>by cases hj;omega);have m:=U.out.2.2.2.2.1;have E:=U.out.2.2.2.2.2.1;have aN:i<A.conj.length:=by rw[m.c];exact D
    have bC:(i:Int)<A.conj.length:=by omega
    have hK:=U.out.2.2.2.2.2.2;obtain⟨b3,o3,a5,cap5,J,_,hb3l,u,q⟩:=Rows3.at a4.c i aN;have S:=m.cl i D;have ak:∀v∈gt A.conj i,v.length<=20:=λv hv=>m.cv _ (gtMem aN) v hv;obtain⟨R,hR⟩:∃R,R=gt A.conj i:=⟨_,rfl⟩;rw[<-hR] at u q S ak;have HC:=Lib.hid (And.intro S (And.intro ak (And.intro E (And.intro hK (And.intro J q)))));clear S ak E hK J q m hR U;clear W aj e1 e2 e3;clear a I C hsE F;go_wp2;generalize T.setCell ⟨g,i,none⟩ (.slice aE lE.length cE)=w7 at *;go_loopw [9] (λjv wr=>∃j:Nat,jv=.int .i64 j/\j<=R.length/\Ext M wr/\BX 40 o M.heap.size rb wr (.slice xo o.length co) (.slice (some ⟨g,0,none⟩) o.length cp) (.slice xc o.length cc)) (λjv _=>R.length-(intOf jv).toNat)
    case atStart=>exact⟨0,rfl,by omega,X,G⟩
    case round=>
     clear G X;obtain⟨j,rfl,hj,F,H⟩:=hrel;have V:=L.out.1.ext F;have q:=HC.out.2.2.2.2.2;have J:=HC.out.2.2.2.2.1;have d2:=V.2.2.2.1;rw[J] at d2;have d3:=F.cell u (by simp);by_cases Z:j<R.length
     ·have al:(j:Int)<R.length:=by omega
      have S:=HC.out.1;have E:=HC.out.2.2.1;have hK:=HC.out.2.2.2.1;have aO:j<o.length-1-i:=by omega
      obtain⟨gc,capc,b,aP,z2,hvc,hcB,hcp,W,hcell,hbB,hbp,hbg,hbl,aa,ab⟩:=H.storeC i j (by omega) aO;obtain⟨rfl,rfl⟩:xc=some ⟨gc,0,none⟩/\cc=capc:=by cases hvc;exact⟨rfl,rfl⟩
      clear hvc;obtain⟨b6,o6,a6,ad,rfl,_,hb6l,hc60,am⟩:=Rows2.at q j Z;have an:=F.cell hc60 (by simp);have N:=HC.out.2.1 _ (gtMem Z);obtain⟨O,Q⟩:∃O,O=gt R j:=⟨_,rfl⟩;rw[<-Q] at an am N;clear Q hc60;have e1:∀w',Near wr b w'->w'.cell? ⟨rb,2,none⟩=some (.slice (some ⟨gc,0,none⟩) o.length cc):=λw' h=>h.cell H.box.2.2.2.1 (by simp;omega);have e2:∀w',Near wr b w'->w'.cell? ⟨gc,i,none⟩=some (.slice (some ⟨b,0,none⟩) (o.length-1-i) aP):=λw' h=>h.cell hcell (by simp;omega);have e3:∀w',Near wr b w'->w'.cell? ⟨w.heap.size,2,none⟩=some (.slice (some ⟨b3,o3,none⟩) A.conj.length aA):=λw' h=>h.cell d2 (by simp;omega);have e4:∀w',Near wr b w'->w'.cell? ⟨b3,o3+i,none⟩=some (.slice (some ⟨b6,o6,none⟩) R.length cap5):=λw' h=>h.cell d3 (by simp;omega);have e5:∀w',Near wr b w'->w'.cell? ⟨b6,o6+j,none⟩=some (.slice a6 O.length ad):=λw' h=>h.cell an (by simp;omega)
      have y:∀w',Ext wr w'->Calls Tryz.prog 265 #[.int .i64 0,.slice a6 O.length ad,.int .i64 B.orders.length] w' (Ret w' λai r=>∃l,l.length<=40/\Own w'.heap.size ai r l):=λw' he=>
       Calls.mono (l07Shift_ok w' 0 _ O B.orders.length _ (Ints.ext am (grown_trans F he)) (by omega)) (λe w2 ⟨v,h1,h2,h3⟩=>⟨v,h1,h2,_,by rw[shiftL_len];omega,h3⟩)
      have bU:(j:Int)<((o.length-1-i:Nat):Int):=by omega
      have bV:(i:Int)<o.length:=by omega
      have HY:=Lib.hid (And.intro ab (And.intro aa y));clear ab aa y hcell an am N H;go_wp2;clear d2 d3;clear S E hK J aO
      go_region_held3 (λw'=>Near wr b w') (first|exact Near.of (grown_drew _ _)|exact Near.of (by assumption)|exact Near.store (by assumption)|assumption)
       (first
        | (go_at_call 265;refine Calls.mono (Calls.rel (w0:=wr) (by first|exact grown_drew _ _|assumption) (HY.out.2.2 _ (by first|exact grown_drew _ _|assumption))) ?_;rintro eE T ⟨vE,rfl,a,hsE,lE,C,I⟩;obtain⟨aE,cE,hvE,_⟩:=(I.ints (Nat.le_trans C (by decide))).shape;subst hvE;have W:=(HY.out.2.1 T a).1;have aj:=(HY.out.2.1 T a).2))
      have G:=HY.out.1 T _ lE a (OwnIn.of I (Nat.le_trans C (by decide)) (λk hk _=>Nat.le_trans (by assumption) hk)) C;have X:Ext M (T.setCell ⟨b,j,none⟩ (.slice aE lE.length cE)):=grown_own (grown_trans F a) (grown_set1 _ _ _ _) (λj hj D=>by cases hj;omega);clear W aj e1 e2 e3 e4 e5;go_wp2;go_roundw
      case rel=>exact⟨j+1,by go_num,by omega,X,G⟩
      case measure=>simp[intOf];omega
     ·have al:¬((j:Int)<R.length):=by omega
      clear J;go_wp2;go_roundw
      case rel=>exact⟨i+1,by go_num,by omega,F,H⟩
      case measure=>simp[intOf];omega
   ·have aq:¬((i:Int)<A.orders.length):=by omega
    go_wp2;have aI:=F;clear F hi D aq;go_loopw [10] (λiv wr=>∃i:Nat,iv=.int .i64 i/\i<=B.orders.length/\Ext M wr/\BX 40 o M.heap.size rb wr (.slice xo o.length co) (.slice xp o.length cp) (.slice xc o.length cc)) (λiv _=>B.orders.length-(intOf iv).toNat)
    case atStart=>exact⟨0,rfl,by omega,aI,H⟩
    case round=>
     clear H aI;obtain⟨i,rfl,hi,F,H⟩:=hrel;by_cases D:i<B.orders.length
     ·have aq:(i:Int)<B.orders.length:=by omega
      have m:=L.out.2.2.2.2.1;have E:=L.out.2.2.2.2.2.2.1;have bz:=L.out.2.2.2.2.2.2.2;have aJ:i<B.powers.length:=by rw[m.p];exact D
      have bA:(i:Int)<B.powers.length:=by omega
      obtain⟨K,hK⟩:∃K,K=(A.orders.length+i):=⟨_,rfl⟩;obtain⟨g,capg,z,hvg,hgB,hgp,hgl,aK,aL⟩:=H.storeP K (by omega);obtain⟨rfl,rfl⟩:xp=some ⟨g,0,none⟩/\cp=capg:=by cases hvg;exact⟨rfl,rfl⟩
      clear hvg;obtain⟨b2,o2,az,Y,aM,_,hb2l,u,q⟩:=Rows2.at a7.p i aJ;have ah:=F.cell u (by simp);have N:=m.pv _ (gtMem aJ);obtain⟨O,Q⟩:∃O,O=gt B.powers i:=⟨_,rfl⟩;rw[<-Q] at ah q N;clear Q u;have V:=L.out.2.1.ext F;have e1:∀w',Near wr g w'->w'.cell? ⟨rb,1,none⟩=some (.slice (some ⟨g,0,none⟩) o.length cp):=λw' h=>h.cell H.box.2.2.1 (by simp;omega);have e2:∀w',Near wr g w'->w'.cell? ⟨w.heap.size+1,1,none⟩=some (.slice (some ⟨b2,o2,none⟩) B.powers.length aC):=λw' h=>h.cell (by rw[<-aM];exact V.2.2.1) (by simp;omega);have e3:∀w',Near wr g w'->w'.cell? ⟨b2,o2+i,none⟩=some (.slice az O.length Y):=λw' h=>h.cell ah (by simp;omega)
      have y:∀w',Ext wr w'->Calls Tryz.prog 265 #[.int .i64 A.orders.length,.slice az O.length Y,.int .i64 0] w' (Ret w' λai r=>∃l,l.length<=40/\Own w'.heap.size ai r l):=λw' he=>
       Calls.mono (l07Shift_ok w' A.orders.length _ O 0 _ (Ints.ext q (grown_trans F he)) (by omega)) (λe w2 ⟨v,h1,h2,h3⟩=>⟨v,h1,h2,_,by rw[shiftL_len];omega,h3⟩)
      have U:=Lib.hid (And.intro H (And.intro aL (And.intro aK (And.intro y (And.intro m (And.intro E hK))))));clear H aL aK y ah q N V m E aM hK;go_wp2;have bi:=w64_sm2 ((A.orders.length:Int)+i) (K:Int) (by rw[U.out.2.2.2.2.2.2];omega) (by omega);obtain⟨q1,q2⟩:=bi;have cn:(K:Int)<o.length:=by clear q1 q2;have:=U.out.2.2.2.2.2.2;have:=U.out.2.2.2.2.2.1;omega
      go_region_held3 (λw'=>Near wr g w') (first|exact Near.of (grown_drew _ _)|exact Near.of (by assumption)|exact Near.store (by assumption)|assumption)
       (first
        | (go_at_call 265;refine Calls.mono (Calls.rel (w0:=wr) (by first|exact grown_drew _ _|assumption) (U.out.2.2.2.1 _ (by first|exact grown_drew _ _|assumption))) ?_;rintro eE T ⟨vE,rfl,a,hsE,lE,C,I⟩;obtain⟨aE,cE,hvE,_⟩:=(I.ints (Nat.le_trans C (by decide))).shape;subst hvE;have W:=(U.out.2.2.1 T a).1;have aj:=(U.out.2.2.1 T a).2))
      clear q1 q2;have G:=U.out.2.1 T _ lE a (OwnIn.of I (Nat.le_trans C (by decide)) (λk hk _=>Nat.le_trans (by assumption) hk)) C;have X:Ext M (T.setCell ⟨g,K,none⟩ (.slice aE lE.length cE)):=grown_own (grown_trans F a) (grown_set1 _ _ _ _) (λj hj D=>by cases hj;omega);have m:=U.out.2.2.2.2.1;have E:=U.out.2.2.2.2.2.1;have aN:i<B.conj.length:=by rw[m.c];exact D
      have bC:(i:Int)<B.conj.length:=by omega
      have hK:=U.out.2.2.2.2.2.2;obtain⟨b3,o3,a5,cap5,J,_,hb3l,u,q⟩:=Rows3.at a7.c i aN;have S:=m.cl i D;have ak:∀v∈gt B.conj i,v.length<=20:=λv hv=>m.cv _ (gtMem aN) v hv;obtain⟨R,hR⟩:∃R,R=gt B.conj i:=⟨_,rfl⟩;rw[<-hR] at u q S ak;have HC:=Lib.hid (And.intro S (And.intro ak (And.intro E (And.intro hK (And.intro J q)))));clear S ak E hK J q m hR U;clear W aj e1 e2 e3;clear a I C hsE F;go_wp2;generalize T.setCell ⟨g,K,none⟩ (.slice aE lE.length cE)=w7 at *;go_loopw [11] (λjv wr=>∃j:Nat,jv=.int .i64 j/\j<=R.length/\Ext M wr/\BX 40 o M.heap.size rb wr (.slice xo o.length co) (.slice (some ⟨g,0,none⟩) o.length cp) (.slice xc o.length cc)) (λjv _=>R.length-(intOf jv).toNat)
      case atStart=>exact⟨0,rfl,by omega,X,G⟩
      case round=>
       clear G X;obtain⟨j,rfl,hj,F,H⟩:=hrel;have V:=L.out.2.1.ext F;have q:=HC.out.2.2.2.2.2;have J:=HC.out.2.2.2.2.1;have d2:=V.2.2.2.1;rw[J] at d2;have d3:=F.cell u (by simp);by_cases Z:j<R.length
       ·have al:(j:Int)<R.length:=by omega
        have S:=HC.out.1;have E:=HC.out.2.2.1;have hK:=HC.out.2.2.2.1;have aO:j<o.length-1-K:=by omega
        obtain⟨gc,capc,b,aP,z2,hvc,hcB,hcp,W,hcell,hbB,hbp,hbg,hbl,aa,ab⟩:=H.storeC K j (by omega) aO;obtain⟨rfl,rfl⟩:xc=some ⟨gc,0,none⟩/\cc=capc:=by cases hvc;exact⟨rfl,rfl⟩
        clear hvc;obtain⟨b6,o6,a6,ad,rfl,_,hb6l,hc60,am⟩:=Rows2.at q j Z;have an:=F.cell hc60 (by simp);have N:=HC.out.2.1 _ (gtMem Z);obtain⟨O,Q⟩:∃O,O=gt R j:=⟨_,rfl⟩;rw[<-Q] at an am N;clear Q hc60;have e1:∀w',Near wr b w'->w'.cell? ⟨rb,2,none⟩=some (.slice (some ⟨gc,0,none⟩) o.length cc):=λw' h=>h.cell H.box.2.2.2.1 (by simp;omega);have e2:∀w',Near wr b w'->w'.cell? ⟨gc,K,none⟩=some (.slice (some ⟨b,0,none⟩) (o.length-1-K) aP):=λw' h=>h.cell hcell (by simp;omega);have e3:∀w',Near wr b w'->w'.cell? ⟨w.heap.size+1,2,none⟩=some (.slice (some ⟨b3,o3,none⟩) B.conj.length aD):=λw' h=>h.cell d2 (by simp;omega);have e4:∀w',Near wr b w'->w'.cell? ⟨b3,o3+i,none⟩=some (.slice (some ⟨b6,o6,none⟩) R.length cap5):=λw' h=>h.cell d3 (by simp;omega);have e5:∀w',Near wr b w'->w'.cell? ⟨b6,o6+j,none⟩=some (.slice a6 O.length ad):=λw' h=>h.cell an (by simp;omega)
        have y:∀w',Ext wr w'->Calls Tryz.prog 265 #[.int .i64 A.orders.length,.slice a6 O.length ad,.int .i64 0] w' (Ret w' λai r=>∃l,l.length<=40/\Own w'.heap.size ai r l):=λw' he=>
         Calls.mono (l07Shift_ok w' A.orders.length _ O 0 _ (Ints.ext am (grown_trans F he)) (by omega)) (λe w2 ⟨v,h1,h2,h3⟩=>⟨v,h1,h2,_,by rw[shiftL_len];omega,h3⟩)
        have bU:(j:Int)<((o.length-1-K:Nat):Int):=by omega
        have bV:(K:Int)<o.length:=by omega
        have HY:=Lib.hid (And.intro ab (And.intro aa y));clear ab aa y hcell an am N H;go_wp2;clear d2 d3;have bi:=w64_sm2 ((A.orders.length:Int)+i) (K:Int) (by rw[hK];omega) (by omega);obtain⟨q1,q2⟩:=bi;clear S E hK J aO
        go_region_held3 (λw'=>Near wr b w') (first|exact Near.of (grown_drew _ _)|exact Near.of (by assumption)|exact Near.store (by assumption)|assumption)
         (first
          | (go_at_call 265;refine Calls.mono (Calls.rel (w0:=wr) (by first|exact grown_drew _ _|assumption) (HY.out.2.2 _ (by first|exact grown_drew _ _|assumption))) ?_;rintro eE T ⟨vE,rfl,a,hsE,lE,C,I⟩;obtain⟨aE,cE,hvE,_⟩:=(I.ints (Nat.le_trans C (by decide))).shape;subst hvE;have W:=(HY.out.2.1 T a).1;have aj:=(HY.out.2.1 T a).2))
        clear q1 q2;have G:=HY.out.1 T _ lE a (OwnIn.of I (Nat.le_trans C (by decide)) (λk hk _=>Nat.le_trans (by assumption) hk)) C;have X:Ext M (T.setCell ⟨b,j,none⟩ (.slice aE lE.length cE)):=grown_own (grown_trans F a) (grown_set1 _ _ _ _) (λj hj D=>by cases hj;omega);clear W aj e1 e2 e3 e4 e5;go_wp2;go_roundw
        case rel=>exact⟨j+1,by go_num,by omega,X,G⟩
        case measure=>simp[intOf];omega
       ·have al:¬((j:Int)<R.length):=by omega
        clear J;go_wp2;go_roundw
        case rel=>exact⟨i+1,by go_num,by omega,F,H⟩
        case measure=>simp[intOf];omega
     ·have aq:¬((i:Int)<B.orders.length):=by omega
      obtain⟨h0,h1,h2,h3',h4⟩:=id H.box;have hz:=L.out.2.2.1.ext F;have bz:=L.out.2.2.2.2.2.2.2;obtain⟨k0,k1,k2,k3,k4⟩:=id hz;have hZ:=hz.all (.slice xo o.length co) (.slice xp o.length cp) (.slice xc o.length cc);have hT:=grown_set3 wr (w.heap.size+1+1) (.slice xo o.length co) (.slice xp o.length cp) (.slice xc o.length cc);obtain⟨_,z0,z1,z2,_⟩:=id hZ;have HQ:=Lib.hid (And.intro hT H);clear hT hZ H;go_wp2;refine bodyPost_ret (v := .agg #[.slice xo o.length co,.slice xp o.length cp,.slice xc o.length cc]) (by simp[results,Tryz.results221,go_sem,z0,z1,z2]) rfl ?_;exact⟨_,rfl,grown_own (grown_trans a3 F) HQ.out.1 (λj hj D=>by cases hj;omega),(HQ.out.2.ret HQ.out.1 (by omega)).weak (by omega)⟩
end Go.Proofs.YtoakmefajbbggaaGreat
