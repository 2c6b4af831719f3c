/- Merged from templates. -/
import Derived.Test.YtldheeicjnncoaaGreatF13
set_option maxRecDepth 100000
set_option maxHeartbeats 8000000
namespace Go.Proofs.YtldheeicjnncoaaGreat
open Go.RowKit
attribute [local go_sem ↓] Go.wp_at_zero Go.wp_at_succ
theorem l01OwnS_ok (w:World) (v:Value) (l:List Int) (S:Nat->Prop) (m:Ints S w v l) (u:l.length<=1048576) :
  Calls Tryz.prog 86 #[v] w (Ret w λw' r=>Own w.heap.size w' r l/\∃g c,r=.slice (some ⟨g,0,none⟩) l.length c/\w.heap.size<=g):=by
 obtain⟨a,cap,rfl,_,_⟩:=m.shape;go_enter Tryz.func86,Tryz.ntmps86;go_wp2_with (at_builtin;refine wp_app_ints rfl _ _ rfl w.heap.size _ [] rfl (World.ownsRow_lit w #[] 0 (Nat.le_refl _) (by decide) rfl) _ l rfl S (m.ext (World.grownBy_alloc _ _ _)) (by simp;omega) (by simp) ?_;intro v' y b i k)
 go_ret;refine⟨_,rfl,grown_own (World.grownBy_alloc _ _ _) i (λj p q=>by have:=own_blk p;omega),b,?_⟩;rcases b.v.form with⟨h1,_⟩|⟨g,c,h1,_,h2,_⟩
 ·exact absurd (k.1 h1).1 (by intro e;cases e)
 ·exact⟨g,c,by rw[h1];simp,h2⟩
def BothCut (w0:World) (o:List Int) (q:Value) (a:World):Prop:=∃pb b co ap e i j,q=.pointer (some ⟨pb,0,none⟩)/\Ext w0 a /\
 BX 40 o w0.heap.size pb a (.slice b o.length co) (.slice ap o.length e) (.slice i o.length j)
theorem bothCut_mk {w0 i b:World}{o:List Int}{pb co j l:Nat}{m ap p:Option Addr}{B:Nat}(r:o.length<=40) (u:PresX (From B) i (.slice m o.length co) (.slice ap o.length j) (.slice p o.length l) (trivP o)) (hB:w0.heap.size<=B) (w:w0.heap.size<=pb)
  (y:pb<B\/i.heap.size<=pb) (hE:Ext w0 b) (q:i.grownBy b (some pb)) (z:Box3 b pb (.slice m o.length co) (.slice ap o.length j) (.slice p o.length l)):BothCut w0 o (.pointer (some ⟨pb,0,none⟩)) b:=
 ⟨pb,m,co,ap,j,p,l,rfl,hE,w,z,trivP o,trivP_shp o r,rfl,u.mono (λk hk a=>by
  have A:B<=k:=hk;exact⟨⟨by omega,by omega⟩,Nat.lt_of_lt_of_le a q.size,q.block k a (λe=>by cases e;omega)⟩)⟩
theorem l07Both_ok (w:World) (pa pb:Value) (A B:Pr) (Sa Sb:Nat->Prop) (ha:PresV Sa w pa A) (hb:PresV Sb w pb B) (hA:Shp 20 A) (hB:Shp 20 B) :
  Calls Tryz.prog 276 #[pa,pb] w (Ret w (PresN 40 w.heap.size)):=by
 obtain⟨vo,vp,vc,rfl,h3⟩:=ha;obtain⟨uo,up,uc,rfl,k3⟩:=hb;obtain⟨ao,aA,jd,_,_⟩:=h3.o.shape;obtain⟨ap,cap,hv2,_,_⟩:=Sl.shape h3.p;obtain⟨ac,aB,hv3,_,_⟩:=Sl.shape h3.c;obtain⟨bo,aC,hu1,_,_⟩:=k3.o.shape;obtain⟨bp,aD,nu,_,_⟩:=Sl.shape k3.p;obtain⟨bc,aF,nC,_,_⟩:=Sl.shape k3.c;subst jd hv2 hv3 hu1 nu nC;obtain⟨w0,ag⟩:∃w0,w0=((w.alloc (.cells #[.slice ao A.orders.length aA,.slice ap A.powers.length cap,.slice ac A.conj.length aB] 28)).alloc (.cells #[.slice bo B.orders.length aC,.slice bp B.powers.length aD,.slice bc B.conj.length aF] 28)).alloc (.cells #[.slice none 0 0,.slice none 0 0,.slice none 0 0] 28):=⟨_,rfl⟩;have bO:Ext w w0:=by rw[ag];exact grown_trans (World.grownBy_alloc _ _ _) (grown_trans (World.grownBy_alloc _ _ _) (World.grownBy_alloc _ _ _))
 have bn:Box3 w0 w.heap.size (.slice ao A.orders.length aA) (.slice ap A.powers.length cap) (.slice ac A.conj.length aB):=by rw[ag];exact((Box3.made w 28 _ _ _).ext (World.grownBy_alloc _ _ _)).ext (World.grownBy_alloc _ _ _)
 have bq:Box3 w0 (w.heap.size+1) (.slice bo B.orders.length aC) (.slice bp B.powers.length aD) (.slice bc B.conj.length aF):=by
  have h:=(Box3.made (w.alloc (.cells #[.slice ao A.orders.length aA,.slice ap A.powers.length cap,.slice ac A.conj.length aB] 28)) 28 (.slice bo B.orders.length aC) (.slice bp B.powers.length aD) (.slice bc B.conj.length aF)).ext (World.grownBy_alloc _ (.cells #[.slice none 0 0,.slice none 0 0,.slice none 0 0] 28) _);rw[ag];simpa using h
 have br:Box3 w0 (w.heap.size+1+1) (.slice none 0 0) (.slice none 0 0) (.slice none 0 0):=by
  have h:=Box3.made ((w.alloc (.cells #[.slice ao A.orders.length aA,.slice ap A.powers.length cap,.slice ac A.conj.length aB] 28)).alloc (.cells #[.slice bo B.orders.length aC,.slice bp B.powers.length aD,.slice bc B.conj.length aF] 28)) 28 (.slice none 0 0) (.slice none 0 0) (.slice none 0 0);rw[ag];simpa using h
 have aT:w0.heap.size=w.heap.size+3:=by rw[ag];simp
 have L:=Lib.hid (And.intro bn (And.intro bq (And.intro br (And.intro aT (And.intro hA hB)))));clear bn bq br aT hA hB;go_enter Tryz.func276,Tryz.ntmps276;go_wp2_with fail
 rw[<-ag];clear ag;obtain⟨_,f0,f1,f2,_⟩:=id L.out.1;obtain⟨_,g0,g1,g2,_⟩:=id L.out.2.1;go_quiet (fail)
 rename_i nq _;obtain⟨M,a4⟩:∃M,M=w0.drewN nq:=⟨_,rfl⟩;have aG:Ext w0 M:=by rw[a4];exact grown_drewN _ _ _
 rw[<-a4];clear a4 f0 f1 f2 g0 g1 g2;have a7:=grown_trans bO aG;have a9:=h3.ext a7;have a':=k3.ext a7;have bt:=L.out.1.ext aG;have bu:=L.out.2.1.ext aG;have bv:=L.out.2.2.1.ext aG;have ba:=L.out.2.2.2.2.1;have bb:=L.out.2.2.2.2.2;have aT:=L.out.2.2.2.1;have cb:=aG.size;clear L h3 k3;have ce:A.orders.length<=20:=ba.n;have cf:B.orders.length<=20:=bb.n;obtain⟨o,ho⟩:∃o,o=A.orders++B.orders:=⟨_,rfl⟩;have bw:o.length=A.orders.length+B.orders.length:=by rw[ho];simp
 have aH:o.length<=40:=by omega
 have L:=Lib.hid (And.intro bt (And.intro bu (And.intro bv (And.intro ba (And.intro bb (And.intro ho (And.intro bw aT)))))));clear bt bu bv ba bb ho bw;have e0:∀w',Ext M w'->w'.cell? ⟨w.heap.size,0,none⟩=some (.slice ao A.orders.length aA):=λw' h=>(L.out.1.ext h).2.1;have e1:∀w',Ext M w'->w'.cell? ⟨w.heap.size+1,0,none⟩=some (.slice bo B.orders.length aC):=λw' h=>(L.out.2.1.ext h).2.1;go_wp2_with fail
 go_cut [7] (λqv wx=>BothCut M o qv wx)
 case first=>
  go_region_held3 (λw'=>Ext M w') (first|exact grown_drew _ _|assumption|exact grown_trans (by assumption) (World.grownBy_alloc _ _ _)|exact grown_own (by assumption) (grown_set3 _ _ _ _ _) (λj hj D=>by cases hj;first|(exact absurd D (Nat.lt_irrefl _))|(have:=lD.size;omega)|(have:=aY.size;omega)|(have:=lF.size;omega)))
   (first
    | (go_at_call 86;refine Calls.mono (Calls.rel2 (w0:=M) (by assumption) (l01OwnS_ok _ _ A.orders Sa (Ints.ext a9.o (by assumption)) (by omega))) ?_;rintro eO wO ⟨vO,rfl,lD,aZ,bx,bd,gO,cO,rfl,bz⟩;(first|(have hQ:=Box3.ext (Box3.made _ _ _ _ _) aZ)|(have hQ:=Box3.ext (Box3.made _ _ _ _ _) (grown_trans (grown_drew _ _) aZ))|skip);(try obtain⟨f0,f1,f2,f3,f4⟩:=id hQ))
    | (refine step_app_list rfl _ _ rfl M.heap.size gO cO A.orders.length A.orders B.orders rfl (by rfl) (by first|exact bd.weak bx|exact(bd.weak bx).ext0 (World.grownBy_alloc _ _ _)) _ Sb (Ints.ext a'.o (by assumption)) (by rfl) (by omega) ((show Ext M _ by assumption).size) ?_;intro v8 w8 be aI;rw[<-L.out.2.2.2.2.2.1] at be;obtain⟨a8,c8,gj,_⟩:=(be.ints (by omega)).shape;subst gj;have bA:=Ints.sub (be.ints (by omega)) (S':=Any) (λ_ _ _=>trivial);have aY:Ext M w8:=grown_own (by assumption) aI (λj hj D=>by cases hj;omega);(first|(have hQ:=Box3.keep hQ aI.size (aI.block _ hQ.1 (λe=>by cases e;first|omega|(simp[World.drew] at bz<;>omega))))|(have hQ:=Box3.keep (Box3.made wO 28 (.slice none 0 0) (.slice none 0 0) (.slice none 0 0)) aI.size (aI.block _ (by simp) (λe=>by cases e;exact absurd (show wO.heap.size<wO.heap.size from(bd.lt _ rfl).2) (Nat.lt_irrefl _))))|skip);(try obtain⟨f0,f1,f2,f3,f4⟩:=id hQ))
    | (go_at_call 277;refine Calls.mono (Calls.rel2 (w0:=M) (by assumption) (l07Trivial_ok _ _ o Any (by first|exact bA|exact Ints.ext bA (World.grownBy_alloc _ _ _)) (Nat.le_trans aH (by decide)))) ?_;rintro eT wT ⟨vT,rfl,lF,a0,bB,vo,vp,vc,rfl,G⟩;obtain⟨xo,co,xp,cp,xc,cc,rfl,rfl,rfl⟩:=trivX_shape G;(try have hQ:=Box3.ext hQ a0);(first|(have hQ:=Box3.ext (Box3.made _ _ _ _ _) a0)|skip);(try obtain⟨f0,f1,f2,f3,f4⟩:=id hQ)))
  all_goals (try go_wp2_with fail)
  all_goals go_meet
  all_goals
   have cq:=lD.size;have cr:=aY.size;have cs:=lF.size
   first
    | exact bothCut_mk aH G bB (by omega) (.inr (Nat.le_refl _)) (grown_trans (by assumption) (World.grownBy_alloc _ _ _)) (World.grownBy_alloc _ _ _) (Box3.made _ _ _ _ _)
    | exact bothCut_mk aH G bB (by omega) (.inl (by first|omega|(simp;done)|(simp;omega))) (by assumption) (grown_set3 _ _ _ _ _) (hQ.all _ _ _)
  done
 case rest =>
  obtain⟨rb,xo,co,xp,cp,xc,cc,rfl,aJ,H⟩:=hcut;clear e0 e1;go_wp2;go_loopw [8] (λiv wr=>∃i:Nat,iv=.int .i64 i/\i<=A.orders.length/\Ext M wr/\BX 40 o M.heap.size rb wr (.slice xo o.length co) (.slice xp o.length cp) (.slice xc o.length cc)) (λiv _=>A.orders.length-(intOf iv).toNat)
  case atStart=>exact⟨0,rfl,by omega,aJ,H⟩
  case round=>
   clear H aJ;obtain⟨i,rfl,hi,F,H⟩:=hrel;by_cases D:i<A.orders.length
   ·have ar:(i:Int)<A.orders.length:=by omega
    have m:=L.out.2.2.2.1;have E:=L.out.2.2.2.2.2.2.1;have bC:=L.out.2.2.2.2.2.2.2;have aK:i<A.powers.length:=by rw[m.p];exact D
    have bD:(i:Int)<A.powers.length:=by omega
    have ct:((i:Nat):Int)<o.length:=by omega
    have hK:i=i:=rfl;obtain⟨g,capg,z,eW,hgB,hgp,hgl,aL,aM⟩:=H.storeP i (by omega);obtain⟨rfl,rfl⟩:xp=some ⟨g,0,none⟩/\cp=capg:=by cases eW;exact⟨rfl,rfl⟩
    clear eW;obtain⟨b2,o2,az,Z,aN,_,hb2l,u,q⟩:=Rows2.at a9.p i aK;have ai:=F.cell u (by simp);have N:=m.pv _ (gtMem aK);obtain⟨O,Q⟩:∃O,O=gt A.powers i:=⟨_,rfl⟩;rw[<-Q] at ai q N;clear Q u;have W:=L.out.1.ext F;have e1:∀w',Near wr g w'->w'.cell? ⟨rb,1,none⟩=some (.slice (some ⟨g,0,none⟩) o.length cp):=λw' h=>h.cell H.box.2.2.1 (by simp;omega);have e2:∀w',Near wr g w'->w'.cell? ⟨w.heap.size,1,none⟩=some (.slice (some ⟨b2,o2,none⟩) A.powers.length cap):=λw' h=>h.cell (by rw[<-aN];exact W.2.2.1) (by simp;omega);have e3:∀w',Near wr g w'->w'.cell? ⟨b2,o2+i,none⟩=some (.slice az O.length Z):=λw' h=>h.cell ai (by simp;omega)
    have y:∀w',Ext wr w'->Calls Tryz.prog 330 #[.int .i64 0,.slice az O.length Z,.int .i64 B.orders.length] w' (Ret w' λaj r=>∃l,l.length<=40/\Own w'.heap.size aj r l):=λw' he=>
     Calls.mono (l07Shift_ok w' 0 _ O B.orders.length _ (Ints.ext q (grown_trans F he)) (by omega)) (λe w2 ⟨v,h1,h2,h3⟩=>⟨v,h1,h2,_,by rw[shiftL_len];omega,h3⟩)
    have V:=Lib.hid (And.intro H (And.intro aM (And.intro aL (And.intro y (And.intro m (And.intro E hK))))));clear H aM aL y ai q N W m E aN hK;go_wp2
    go_region_held3 (λw'=>Near wr g w') (first|exact Near.of (grown_drew _ _)|exact Near.of (by assumption)|exact Near.store (by assumption)|assumption)
     (first
      | (go_at_call 330;refine Calls.mono (Calls.rel (w0:=wr) (by first|exact grown_drew _ _|assumption) (V.out.2.2.2.1 _ (by first|exact grown_drew _ _|assumption))) ?_;rintro eE U ⟨vE,rfl,a,gu,lE,C,I⟩;obtain⟨aE,cE,fJ,_⟩:=(I.ints (Nat.le_trans C (by decide))).shape;subst fJ;have X:=(V.out.2.2.1 U a).1;have ak:=(V.out.2.2.1 U a).2))
    have G:=V.out.2.1 U _ lE a (OwnIn.of I (Nat.le_trans C (by decide)) (λk hk _=>Nat.le_trans (by assumption) hk)) C;have Y:Ext M (U.setCell ⟨g,i,none⟩ (.slice aE lE.length cE)):=grown_own (grown_trans F a) (grown_set1 _ _ _ _) (λj hj D=>by cases hj;omega);have m:=V.out.2.2.2.2.1;have E:=V.out.2.2.2.2.2.1;have aO:i<A.conj.length:=by rw[m.c];exact D
    have bF:(i:Int)<A.conj.length:=by omega
    have hK:=V.out.2.2.2.2.2.2;obtain⟨b3,o3,a5,jr,J,_,hb3l,u,q⟩:=Rows3.at a9.c i aO;have S:=m.cl i D;have al:∀v∈gt A.conj i,v.length<=20:=λv hv=>m.cv _ (gtMem aO) v hv;obtain⟨R,hR⟩:∃R,R=gt A.conj i:=⟨_,rfl⟩;rw[<-hR] at u q S al;have HC:=Lib.hid (And.intro S (And.intro al (And.intro E (And.intro hK (And.intro J q)))));clear S al E hK J q m hR V;clear X ak e1 e2 e3;clear a I C gu F;go_wp2;generalize U.setCell ⟨g,i,none⟩ (.slice aE lE.length cE)=w7 at *;go_loopw [9] (λjv wr=>∃j:Nat,jv=.int .i64 j/\j<=R.length/\Ext M wr/\BX 40 o M.heap.size rb wr (.slice xo o.length co) (.slice (some ⟨g,0,none⟩) o.length cp) (.slice xc o.length cc)) (λjv _=>R.length-(intOf jv).toNat)
    case atStart=>exact⟨0,rfl,by omega,Y,G⟩
    case round=>
     clear G Y;obtain⟨j,rfl,hj,F,H⟩:=hrel;have W:=L.out.1.ext F;have q:=HC.out.2.2.2.2.2;have J:=HC.out.2.2.2.2.1;have d2:=W.2.2.2.1;rw[J] at d2;have d3:=F.cell u (by simp);by_cases aa:j<R.length
     ·have am:(j:Int)<R.length:=by omega
      have S:=HC.out.1;have E:=HC.out.2.2.1;have hK:=HC.out.2.2.2.1;have aQ:j<o.length-1-i:=by omega
      obtain⟨gc,capc,b,aR,z2,ey,hcB,hcp,X,hcell,hbB,hbp,hbg,hbl,ab,ad⟩:=H.storeC i j (by omega) aQ;obtain⟨rfl,rfl⟩:xc=some ⟨gc,0,none⟩/\cc=capc:=by cases ey;exact⟨rfl,rfl⟩
      clear ey;obtain⟨b6,o6,a6,ae,rfl,_,hb6l,jt,an⟩:=Rows2.at q j aa;have aq:=F.cell jt (by simp);have N:=HC.out.2.1 _ (gtMem aa);obtain⟨O,Q⟩:∃O,O=gt R j:=⟨_,rfl⟩;rw[<-Q] at aq an N;clear Q jt;have e1:∀w',Near wr b w'->w'.cell? ⟨rb,2,none⟩=some (.slice (some ⟨gc,0,none⟩) o.length cc):=λw' h=>h.cell H.box.2.2.2.1 (by simp;omega);have e2:∀w',Near wr b w'->w'.cell? ⟨gc,i,none⟩=some (.slice (some ⟨b,0,none⟩) (o.length-1-i) aR):=λw' h=>h.cell hcell (by simp;omega);have e3:∀w',Near wr b w'->w'.cell? ⟨w.heap.size,2,none⟩=some (.slice (some ⟨b3,o3,none⟩) A.conj.length aB):=λw' h=>h.cell d2 (by simp;omega);have e4:∀w',Near wr b w'->w'.cell? ⟨b3,o3+i,none⟩=some (.slice (some ⟨b6,o6,none⟩) R.length jr):=λw' h=>h.cell d3 (by simp;omega);have e5:∀w',Near wr b w'->w'.cell? ⟨b6,o6+j,none⟩=some (.slice a6 O.length ae):=λw' h=>h.cell aq (by simp;omega)
      have y:∀w',Ext wr w'->Calls Tryz.prog 330 #[.int .i64 0,.slice a6 O.length ae,.int .i64 B.orders.length] w' (Ret w' λaj r=>∃l,l.length<=40/\Own w'.heap.size aj r l):=λw' he=>
       Calls.mono (l07Shift_ok w' 0 _ O B.orders.length _ (Ints.ext an (grown_trans F he)) (by omega)) (λe w2 ⟨v,h1,h2,h3⟩=>⟨v,h1,h2,_,by rw[shiftL_len];omega,h3⟩)
      have bY:(j:Int)<((o.length-1-i:Nat):Int):=by omega
      have bZ:(i:Int)<o.length:=by omega
      have HY:=Lib.hid (And.intro ad (And.intro ab y));clear ad ab y hcell aq an N H;go_wp2;clear d2 d3;clear S E hK J aQ
      go_region_held3 (λw'=>Near wr b w') (first|exact Near.of (grown_drew _ _)|exact Near.of (by assumption)|exact Near.store (by assumption)|assumption)
       (first
        | (go_at_call 330;refine Calls.mono (Calls.rel (w0:=wr) (by first|exact grown_drew _ _|assumption) (HY.out.2.2 _ (by first|exact grown_drew _ _|assumption))) ?_;rintro eE U ⟨vE,rfl,a,gu,lE,C,I⟩;obtain⟨aE,cE,fJ,_⟩:=(I.ints (Nat.le_trans C (by decide))).shape;subst fJ;have X:=(HY.out.2.1 U a).1;have ak:=(HY.out.2.1 U a).2))
      have G:=HY.out.1 U _ lE a (OwnIn.of I (Nat.le_trans C (by decide)) (λk hk _=>Nat.le_trans (by assumption) hk)) C;have Y:Ext M (U.setCell ⟨b,j,none⟩ (.slice aE lE.length cE)):=grown_own (grown_trans F a) (grown_set1 _ _ _ _) (λj hj D=>by cases hj;omega);clear X ak e1 e2 e3 e4 e5;go_wp2;go_roundw
      case rel=>exact⟨j+1,by go_num,by omega,Y,G⟩
      case measure=>simp[intOf];omega
     ·have am:¬((j:Int)<R.length):=by omega
      clear J;go_wp2;go_roundw
      case rel=>exact⟨i+1,by go_num,by omega,F,H⟩
      case measure=>simp[intOf];omega
   ·have ar:¬((i:Int)<A.orders.length):=by omega
    go_wp2;have aJ:=F;clear F hi D ar;go_loopw [10] (λiv wr=>∃i:Nat,iv=.int .i64 i/\i<=B.orders.length/\Ext M wr/\BX 40 o M.heap.size rb wr (.slice xo o.length co) (.slice xp o.length cp) (.slice xc o.length cc)) (λiv _=>B.orders.length-(intOf iv).toNat)
    case atStart=>exact⟨0,rfl,by omega,aJ,H⟩
    case round=>
     clear H aJ;obtain⟨i,rfl,hi,F,H⟩:=hrel;by_cases D:i<B.orders.length
     ·have ar:(i:Int)<B.orders.length:=by omega
      have m:=L.out.2.2.2.2.1;have E:=L.out.2.2.2.2.2.2.1;have bC:=L.out.2.2.2.2.2.2.2;have aK:i<B.powers.length:=by rw[m.p];exact D
      have bD:(i:Int)<B.powers.length:=by omega
      obtain⟨K,hK⟩:∃K,K=(A.orders.length+i):=⟨_,rfl⟩;obtain⟨g,capg,z,eW,hgB,hgp,hgl,aL,aM⟩:=H.storeP K (by omega);obtain⟨rfl,rfl⟩:xp=some ⟨g,0,none⟩/\cp=capg:=by cases eW;exact⟨rfl,rfl⟩
      clear eW;obtain⟨b2,o2,az,Z,aN,_,hb2l,u,q⟩:=Rows2.at a'.p i aK;have ai:=F.cell u (by simp);have N:=m.pv _ (gtMem aK);obtain⟨O,Q⟩:∃O,O=gt B.powers i:=⟨_,rfl⟩;rw[<-Q] at ai q N;clear Q u;have W:=L.out.2.1.ext F;have e1:∀w',Near wr g w'->w'.cell? ⟨rb,1,none⟩=some (.slice (some ⟨g,0,none⟩) o.length cp):=λw' h=>h.cell H.box.2.2.1 (by simp;omega);have e2:∀w',Near wr g w'->w'.cell? ⟨w.heap.size+1,1,none⟩=some (.slice (some ⟨b2,o2,none⟩) B.powers.length aD):=λw' h=>h.cell (by rw[<-aN];exact W.2.2.1) (by simp;omega);have e3:∀w',Near wr g w'->w'.cell? ⟨b2,o2+i,none⟩=some (.slice az O.length Z):=λw' h=>h.cell ai (by simp;omega)
      have y:∀w',Ext wr w'->Calls Tryz.prog 330 #[.int .i64 A.orders.length,.slice az O.length Z,.int .i64 0] w' (Ret w' λaj r=>∃l,l.length<=40/\Own w'.heap.size aj r l):=λw' he=>
       Calls.mono (l07Shift_ok w' A.orders.length _ O 0 _ (Ints.ext q (grown_trans F he)) (by omega)) (λe w2 ⟨v,h1,h2,h3⟩=>⟨v,h1,h2,_,by rw[shiftL_len];omega,h3⟩)
      have V:=Lib.hid (And.intro H (And.intro aM (And.intro aL (And.intro y (And.intro m (And.intro E hK))))));clear H aM aL y ai q N W m E aN hK;go_wp2;have bk:=w64_sm2 ((A.orders.length:Int)+i) (K:Int) (by rw[V.out.2.2.2.2.2.2];omega) (by omega);obtain⟨q1,q2⟩:=bk;have cw:(K:Int)<o.length:=by clear q1 q2;have:=V.out.2.2.2.2.2.2;have:=V.out.2.2.2.2.2.1;omega
      go_region_held3 (λw'=>Near wr g w') (first|exact Near.of (grown_drew _ _)|exact Near.of (by assumption)|exact Near.store (by assumption)|assumption)
       (first
        | (go_at_call 330;refine Calls.mono (Calls.rel (w0:=wr) (by first|exact grown_drew _ _|assumption) (V.out.2.2.2.1 _ (by first|exact grown_drew _ _|assumption))) ?_;rintro eE U ⟨vE,rfl,a,gu,lE,C,I⟩;obtain⟨aE,cE,fJ,_⟩:=(I.ints (Nat.le_trans C (by decide))).shape;subst fJ;have X:=(V.out.2.2.1 U a).1;have ak:=(V.out.2.2.1 U a).2))
      clear q1 q2;have G:=V.out.2.1 U _ lE a (OwnIn.of I (Nat.le_trans C (by decide)) (λk hk _=>Nat.le_trans (by assumption) hk)) C;have Y:Ext M (U.setCell ⟨g,K,none⟩ (.slice aE lE.length cE)):=grown_own (grown_trans F a) (grown_set1 _ _ _ _) (λj hj D=>by cases hj;omega);have m:=V.out.2.2.2.2.1;have E:=V.out.2.2.2.2.2.1;have aO:i<B.conj.length:=by rw[m.c];exact D
      have bF:(i:Int)<B.conj.length:=by omega
      have hK:=V.out.2.2.2.2.2.2;obtain⟨b3,o3,a5,jr,J,_,hb3l,u,q⟩:=Rows3.at a'.c i aO;have S:=m.cl i D;have al:∀v∈gt B.conj i,v.length<=20:=λv hv=>m.cv _ (gtMem aO) v hv;obtain⟨R,hR⟩:∃R,R=gt B.conj i:=⟨_,rfl⟩;rw[<-hR] at u q S al;have HC:=Lib.hid (And.intro S (And.intro al (And.intro E (And.intro hK (And.intro J q)))));clear S al E hK J q m hR V;clear X ak e1 e2 e3;clear a I C gu F;go_wp2;generalize U.setCell ⟨g,K,none⟩ (.slice aE lE.length cE)=w7 at *;go_loopw [11] (λjv wr=>∃j:Nat,jv=.int .i64 j/\j<=R.length/\Ext M wr/\BX 40 o M.heap.size rb wr (.slice xo o.length co) (.slice (some ⟨g,0,none⟩) o.length cp) (.slice xc o.length cc)) (λjv _=>R.length-(intOf jv).toNat)
      case atStart=>exact⟨0,rfl,by omega,Y,G⟩
      case round=>
       clear G Y;obtain⟨j,rfl,hj,F,H⟩:=hrel;have W:=L.out.2.1.ext F;have q:=HC.out.2.2.2.2.2;have J:=HC.out.2.2.2.2.1;have d2:=W.2.2.2.1;rw[J] at d2;have d3:=F.cell u (by simp);by_cases aa:j<R.length
       ·have am:(j:Int)<R.length:=by omega
        have S:=HC.out.1;have E:=HC.out.2.2.1;have hK:=HC.out.2.2.2.1;have aQ:j<o.length-1-K:=by omega
        obtain⟨gc,capc,b,aR,z2,ey,hcB,hcp,X,hcell,hbB,hbp,hbg,hbl,ab,ad⟩:=H.storeC K j (by omega) aQ;obtain⟨rfl,rfl⟩:xc=some ⟨gc,0,none⟩/\cc=capc:=by cases ey;exact⟨rfl,rfl⟩
        clear ey;obtain⟨b6,o6,a6,ae,rfl,_,hb6l,jt,an⟩:=Rows2.at q j aa;have aq:=F.cell jt (by simp);have N:=HC.out.2.1 _ (gtMem aa);obtain⟨O,Q⟩:∃O,O=gt R j:=⟨_,rfl⟩;rw[<-Q] at aq an N;clear Q jt;have e1:∀w',Near wr b w'->w'.cell? ⟨rb,2,none⟩=some (.slice (some ⟨gc,0,none⟩) o.length cc):=λw' h=>h.cell H.box.2.2.2.1 (by simp;omega);have e2:∀w',Near wr b w'->w'.cell? ⟨gc,K,none⟩=some (.slice (some ⟨b,0,none⟩) (o.length-1-K) aR):=λw' h=>h.cell hcell (by simp;omega);have e3:∀w',Near wr b w'->w'.cell? ⟨w.heap.size+1,2,none⟩=some (.slice (some ⟨b3,o3,none⟩) B.conj.length aF):=λw' h=>h.cell d2 (by simp;omega);have e4:∀w',Near wr b w'->w'.cell? ⟨b3,o3+i,none⟩=some (.slice (some ⟨b6,o6,none⟩) R.length jr):=λw' h=>h.cell d3 (by simp;omega);have e5:∀w',Near wr b w'->w'.cell? ⟨b6,o6+j,none⟩=some (.slice a6 O.length ae):=λw' h=>h.cell aq (by simp;omega)
        have y:∀w',Ext wr w'->Calls Tryz.prog 330 #[.int .i64 A.orders.length,.slice a6 O.length ae,.int .i64 0] w' (Ret w' λaj r=>∃l,l.length<=40/\Own w'.heap.size aj r l):=λw' he=>
         Calls.mono (l07Shift_ok w' A.orders.length _ O 0 _ (Ints.ext an (grown_trans F he)) (by omega)) (λe w2 ⟨v,h1,h2,h3⟩=>⟨v,h1,h2,_,by rw[shiftL_len];omega,h3⟩)
        have bY:(j:Int)<((o.length-1-K:Nat):Int):=by omega
        have bZ:(K:Int)<o.length:=by omega
        have HY:=Lib.hid (And.intro ad (And.intro ab y));clear ad ab y hcell aq an N H;go_wp2;clear d2 d3;have bk:=w64_sm2 ((A.orders.length:Int)+i) (K:Int) (by rw[hK];omega) (by omega);obtain⟨q1,q2⟩:=bk;clear S E hK J aQ
        go_region_held3 (λw'=>Near wr b w') (first|exact Near.of (grown_drew _ _)|exact Near.of (by assumption)|exact Near.store (by assumption)|assumption)
         (first
          | (go_at_call 330;refine Calls.mono (Calls.rel (w0:=wr) (by first|exact grown_drew _ _|assumption) (HY.out.2.2 _ (by first|exact grown_drew _ _|assumption))) ?_;rintro eE U ⟨vE,rfl,a,gu,lE,C,I⟩;obtain⟨aE,cE,fJ,_⟩:=(I.ints (Nat.le_trans C (by decide))).shape;subst fJ;have X:=(HY.out.2.1 U a).1;have ak:=(HY.out.2.1 U a).2))
        clear q1 q2;have G:=HY.out.1 U _ lE a (OwnIn.of I (Nat.le_trans C (by decide)) (λk hk _=>Nat.le_trans (by assumption) hk)) C;have Y:Ext M (U.setCell ⟨b,j,none⟩ (.slice aE lE.length cE)):=grown_own (grown_trans F a) (grown_set1 _ _ _ _) (λj hj D=>by cases hj;omega);clear X ak e1 e2 e3 e4 e5;go_wp2;go_roundw
        case rel=>exact⟨j+1,by go_num,by omega,Y,G⟩
        case measure=>simp[intOf];omega
       ·have am:¬((j:Int)<R.length):=by omega
        clear J;go_wp2;go_roundw
        case rel=>exact⟨i+1,by go_num,by omega,F,H⟩
        case measure=>simp[intOf];omega
     ·have ar:¬((i:Int)<B.orders.length):=by omega
      obtain⟨h0,h1,h2,h3',h4⟩:=id H.box;have hz:=L.out.2.2.1.ext F;have bC:=L.out.2.2.2.2.2.2.2;obtain⟨k0,k1,k2,k3,k4⟩:=id hz;have hZ:=hz.all (.slice xo o.length co) (.slice xp o.length cp) (.slice xc o.length cc);have hT:=grown_set3 wr (w.heap.size+1+1) (.slice xo o.length co) (.slice xp o.length cp) (.slice xc o.length cc);obtain⟨_,z0,z1,z2,_⟩:=id hZ;have HQ:=Lib.hid (And.intro hT H);clear hT hZ H;go_wp2;refine bodyPost_ret (v := .agg #[.slice xo o.length co,.slice xp o.length cp,.slice xc o.length cc]) (by simp[results,Tryz.results276,go_sem,z0,z1,z2]) rfl ?_;exact⟨_,rfl,grown_own (grown_trans a7 F) HQ.out.1 (λj hj D=>by cases hj;omega),(HQ.out.2.ret HQ.out.1 (by omega)).weak (by omega)⟩
theorem Valid.shp {P:Pr}(h:Valid P):Shp 6 P:=
 ⟨h.n6,h.pl,h.cl,λi hi=>(h.cv i hi).1,λv a=>by
  obtain⟨i,hi,rfl⟩:=List.getElem_of_mem a;have:=(h.pv i (by rw[<-h.pl];exact hi)).1.1;rw[gt_eq _ i hi] at this;have:=h.n6;omega,λr hr v a=>by
  obtain⟨i,hi,rfl⟩:=List.getElem_of_mem hr;obtain⟨k,hk,rfl⟩:=List.getElem_of_mem a;have b:i<P.orders.length:=by rw[<-h.cl];exact hi
  obtain⟨h1,e⟩:=h.cv i b;rw[gt_eq _ i hi] at h1 e;have:=(e k (by rw[<-h1];exact hk)).1.1;rw[gt_eq _ k hk] at this;have:=h.n6;omega⟩
def LimOk (a:Int) (Q:Pr):Prop:=Valid Q->ordP Q<=a\/ordP Q<=2
theorem capTo_ord {Q:Pr}(h:Valid Q):capTo Q.orders Q.orders.length=ordP Q:=
 (capTo_le Q.orders.length (λi hi=>by have:=h.ord7 i hi;omega)).2 ((capTo_le Q.orders.length (λi hi=>by have:=h.ord7 i hi;omega)).1.2 h.le729)
def PresVL (C:Pr->Prop) (B:Nat) (w':World) (v:Value):Prop:=∃(vo vp vc:Value) (Q:Pr),v=.agg #[vo,vp,vc]/\Valid Q/\Pres3 (From B) w' vo vp vc Q/\C Q
theorem vd_ret {w b:World}{sb m B:Nat}{x y z:Value}{Q:Pr}(p:w.grownBy b (some sb)) (A:w.heap.size<B) (i:Src m b sb) (q:m<=w.heap.size) {C:Pr->Prop}(hV:Valid Q) (r:C Q) (hP:Pres3 (From B) b x y z Q) :
  Mut w (some sb) (DrawR m sb (PresVL C w.heap.size)) (.returned (.agg #[x,y,z])) (((b.setCell ⟨w.heap.size,0,none⟩ x).setCell ⟨w.heap.size,1,none⟩ y).setCell ⟨w.heap.size,2,none⟩ z):=by
 have l:=grown_set3 b w.heap.size x y z;exact⟨_,rfl,grown_own p l (λj u a=>by cases u;omega),⟨x,y,z,Q,rfl,hV,hP.mono (λk hk a=>⟨by have hk:B<=k:=hk;show w.heap.size<=k;omega,Nat.lt_of_lt_of_le a l.size,l.block k a (λe=>by have hk:B<=k:=hk;have:=Option.some.inj e;omega)⟩),r⟩,i.own l (λk hk=>by cases hk;exact q)⟩
theorem valid_triv2:Valid (trivP [2]):=by
 have e:trivP [2]=⟨[2],[[0]],[[]]⟩:=by simp[trivP,trivC,zeros]
 rw[e];refine⟨by decide,by decide,by decide,by decide,λi hi => ?_,λi hi => ?_,λi hi => ?_⟩
 ·have:i=0:=by simpa using hi
  subst this;exact .inl rfl
 ·have:i=0:=by simpa using hi
  subst this;refine⟨⟨rfl,λk hk => ?_⟩,λk hk => ?_⟩
  ·have:k=0:=by simpa using hk
   subst this;decide
  ·have:k=0:=by omega
   subst this;rfl
 ·have:i=0:=by simpa using hi
  subst this;exact⟨rfl,λk hk=>by simp at hk⟩
set_option maxHeartbeats 16000000 in
theorem l07GroupL_ok (B0:Nat) (w:World) (sb:Nat) (b:Int) (ay:B0<=w.heap.size) (hs:Src B0 w sb) :
  Calls Tryz.prog 179 #[.pointer (some ⟨sb,0,none⟩),.int .i64 b] w (Mut w (some sb) (DrawR B0 sb (PresVL (LimOk b) w.heap.size))):=by
 have bp:=hs.lt;have aM:=Box3.made w 28 (.slice none 0 0) (.slice none 0 0) (.slice none 0 0);have ae:Ext w (w.alloc (.cells #[.slice none 0 0,.slice none 0 0,.slice none 0 0] 28)):=World.grownBy_alloc _ _ _;have a8:(w.alloc (.cells #[.slice none 0 0,.slice none 0 0,.slice none 0 0] 28)).heap.size=w.heap.size+1:=by simp
 have a9:=Lib.hid (hs.ext ae);clear hs;go_enter Tryz.func179,Tryz.ntmps179;go_wp2_with fail
 generalize w.alloc (.cells #[.slice none 0 0,.slice none 0 0,.slice none 0 0] 28)=w0 at *;have bf:w.heap.size+1<=w0.heap.size:=by omega
 clear a8;go_loopw [5] (λiv wr=>∃i:Nat,iv=.int .i64 i/\i<=12/\w0.grownBy wr (some sb)/\Hid (Src B0 wr sb)) (λiv _=>12-(intOf iv).toNat)
 case atStart=>exact⟨0,rfl,by omega,grown_refl _ _,a9⟩
 case round=>
  obtain⟨i,rfl,hi,hg,az⟩:=hrel;have ba:=hg.size;have O:=Box3.keep aM ba (hg.block _ aM.1 (λe=>by have:=Option.some.inj e;omega));by_cases a:i<12
  ·have aN:(i:Int)<12:=by omega
   go_wp2_with fail
   refine Calls.mono (l07Family_ok B0 wr sb (by omega) az.out) ?_;rintro eF wF ⟨vF,rfl,gQ,hP,gF⟩;obtain⟨vo,vp,vc,rfl,l⟩:=hP;obtain⟨a1,I,c1,a2,J,c2,K,L,c3,rfl,rfl,rfl⟩:=l.shape;have S:Ext wF (wF.alloc (.cells #[.slice a1 I c1,.slice a2 J c2,.slice K L c3] 28)):=World.grownBy_alloc _ _ _;have ag:=Box3.made wF 28 (.slice a1 I c1) (.slice a2 J c2) (.slice K L c3);have aO:(wF.alloc (.cells #[.slice a1 I c1,.slice a2 J c2,.slice K L c3] 28)).heap.size=wF.heap.size+1:=by simp
   obtain⟨pb,aA⟩:∃pb,pb=wF.heap.size:=⟨_,rfl⟩;rw[<-aA] at ag aO
   have aQ:∃Q,Shp 18 Q/\Pres3 (λk=>wr.heap.size<=k/\k≠pb) (wF.alloc (.cells #[.slice a1 I c1,.slice a2 J c2,.slice K L c3] 28)) (.slice a1 I c1) (.slice a2 J c2) (.slice K L c3) Q:=by
    obtain⟨Q,q1,q2⟩:=l;exact⟨Q,q1,q2.mono (λk hk a=>⟨⟨hk,by omega⟩,Nat.lt_of_lt_of_le a S.size,S.block k a (by simp)⟩)⟩
   have bg:=gQ.size;have au:=grown_trans gQ (grown_of_ext (some sb) S);have av:=gF.ext S;have HA:=Lib.hid (And.intro aQ av);clear aQ av l gF gQ az;have HP:=Lib.hid aA;go_wp2_with fail
   rw[<-HP.out];generalize wF.alloc (.cells #[.slice a1 I c1,.slice a2 J c2,.slice K L c3] 28)=wA at *;clear S;refine Calls.mono (l01Next_ok B0 wA sb 3 HA.out.2) ?_;rintro eN wN ⟨vN,rfl,E,x,rfl,hx0,hx1,aR⟩;have M:=grown_trans au E;have R:=Box3.keep ag E.size (E.block _ ag.1 (λe=>by have:=Option.some.inj e;omega));have bi:=E.size;obtain⟨Q,F,lG⟩:=HA.out.1;have U:Pres3 (λk=>wr.heap.size<=k/\k≠pb) wN (.slice a1 I c1) (.slice a2 J c2) (.slice K L c3) Q:=lG.mono (λk hk a=>⟨hk,Nat.lt_of_lt_of_le a E.size,E.block k a (λe=>by have:=Option.some.inj e;omega)⟩);have bj:pb<wN.heap.size:=R.1;have bk:wr.heap.size<=pb:=by omega
   have HN:=Lib.hid (And.intro F (And.intro U aR));clear F lG U aR E ag hx0 hx1 HA au aO aA HP;by_cases hx:x=0
   ·have aS:(x == 0)=true:=by simp[hx]
    clear hx;have aT:=R.ext (grown_drew _ none);obtain⟨d0,d1,d2,d3,d4⟩:=id aT;have HB:=Lib.hid R;clear R aT;go_wp2_with fail
    go_region_law (first
     | (go_simp;go_at_call 276;refine Calls.mono (l07Both_ok _ _ _ Q QG Any Any ⟨_,_,_,rfl,aU⟩ ⟨_,_,_,rfl,V⟩ (HN.out.1.mono (by omega)) (bd.mono (by omega))) ?_;rintro eC wC ⟨vC,rfl,ah,nD⟩;obtain⟨yo,yp,yc,rfl,kr⟩:=nD.q;obtain⟨e1,m1,k1,e2,m2,k2,e3,m3,k3,rfl,rfl,rfl⟩:=kr.shape;have aB:=aC.ext ah;obtain⟨g0,g1,g2,g3,g4⟩:=id aB)
     | (go_simp;go_at_call 275;refine Calls.mono (l07Family_ok B0 _ sb (show B0<=wN.heap.size by omega) (HN.out.2.2.ext (grown_drew _ _))) ?_;rintro eG wG ⟨vG,rfl,aV,nE,aW⟩;obtain⟨uo,up,uc,rfl,QG,bd,lH⟩:=nE;have V:Pres3 Any wG uo up uc QG:=lH.mono (λk _ a=>⟨trivial,a,rfl⟩);obtain⟨x1,z1,rfl,_,_⟩:=V.o.shape;obtain⟨x2,z2,rfl,_,_⟩:=Sl.shape V.p;obtain⟨x3,z3,rfl,_,_⟩:=Sl.shape V.c;have m:=grown_trans (grown_drew wN (some sb)) aV;have aC:=Box3.keep HB.out m.size (m.block _ HB.out.1 (λe=>by have:=Option.some.inj e;omega));obtain⟨f0,f1,f2,f3,f4⟩:=id aC;have aU:Pres3 Any wG _ _ _ Q:=HN.out.2.1.mono (λk hk a=>⟨trivial,Nat.lt_of_lt_of_le a m.size,m.block k a (λe=>by have:=Option.some.inj e;omega)⟩)))
    all_goals
     have aw:=grown_trans M (grown_trans m (grown_of_ext (some sb) ah));have W:=grown_set3 wC pb (.slice e1 m1 k1) (.slice e2 m2 k2) (.slice e3 m3 k3);have z:wr.grownBy (((wC.setCell ⟨pb,0,none⟩ (.slice e1 m1 k1)).setCell ⟨pb,1,none⟩ (.slice e2 m2 k2)).setCell ⟨pb,2,none⟩ (.slice e3 m3 k3)) (some sb):=grown_own aw W (λj hj a=>by have:=Option.some.inj hj;omega);have G:=aB.all (.slice e1 m1 k1) (.slice e2 m2 k2) (.slice e3 m3 k3);have X:=(aW.ext ah).own W (λk hk=>by have:=Option.some.inj hk;omega)
     have aD:∃Q,Shp 40 Q/\Pres3 (λk=>wr.heap.size<=k/\k≠pb) (((wC.setCell ⟨pb,0,none⟩ (.slice e1 m1 k1)).setCell ⟨pb,1,none⟩ (.slice e2 m2 k2)).setCell ⟨pb,2,none⟩ (.slice e3 m3 k3)) (.slice e1 m1 k1) (.slice e2 m2 k2) (.slice e3 m3 k3) Q:=by
      obtain⟨Q2,q1,q2⟩:=kr;have bm:=m.size
      exact ⟨Q2,q1,q2.mono (λk hk a=>by
       have hk:wG.heap.size<=k:=hk;exact⟨⟨by omega,by omega⟩,Nat.lt_of_lt_of_le a W.size,W.block k a (λe=>by have:=Option.some.inj e;omega)⟩)⟩
     clear aB W aW kr g0 g1 g2 g3 g4 f0 f1 f2 f3 f4 d0 d1 d2 d3 d4 aC aw ah m aV V lH aU M HN HB aS;generalize ((wC.setCell ⟨pb,0,none⟩ (.slice e1 m1 k1)).setCell ⟨pb,1,none⟩ (.slice e2 m2 k2)).setCell ⟨pb,2,none⟩ (.slice e3 m3 k3)=w9 at *;obtain⟨H,F,iL⟩:=aD;have A:=Box3.keep O z.size (z.block _ O.1 (λe=>by have:=Option.some.inj e;omega));obtain⟨p0,p1,p2,p3,p4⟩:=id G;go_wp2_with fail
     refine Calls.mono (sIsPresentation_ok w9 _ H _ ⟨_,_,_,rfl,iL⟩) ?_;rintro e5 w5 ⟨v5,rfl,r,rfl⟩;have Y:=G.ext r;have u:=A.ext r;have Z:=iL.ext r;have aa:=X.ext r;have y:=grown_trans z (grown_of_ext (some sb) r);have HQ:=Lib.hid (And.intro Z aa);clear p0 p1 p2 p3 p4 G A iL X z Z aa;obtain⟨p0,p1,p2,p3,p4⟩:=id Y;rcases hv:validB H with _|_
     ·go_wp2_with fail
      go_roundw
      case rel=>exact⟨i+1,by go_num,by omega,grown_trans hg y,Lib.hid HQ.out.2⟩
      case measure=>simp[intOf];omega
     ·have hV:=valid_of hv
      clear hv;have HV:=Lib.hid hV;clear hV;go_wp2_with fail
      refine Calls.mono (l07Product_ok w5 _ H.orders _ HQ.out.1.o (λj hj=>by have:=HV.out.ord7 j hj;omega)) ?_;rintro _ _ ⟨rfl,rfl⟩;rcases aF:decide (capTo H.orders H.orders.length<=b) with _|_
      ·go_wp2_with fail
       go_roundw
       case rel=>exact⟨i+1,by go_num,by omega,grown_trans hg y,Lib.hid HQ.out.2⟩
       case measure=>simp[intOf];omega
      ·have C:LimOk b H:=λaG => .inl (by rw[<-capTo_ord aG];exact of_decide_eq_true aF)
       have aH:=Lib.hid C;clear C;obtain⟨b0,b1,b2,b3,b4⟩:=id u;have hZ:=u.all (.slice e1 m1 k1) (.slice e2 m2 k2) (.slice e3 m3 k3);obtain⟨-,z0,z1,z2,-⟩:=id hZ;have D:w.grownBy w5 (some sb):=grown_trans (grown_of_ext (some sb) ae) (grown_trans hg y);have l:Pres3 (From wr.heap.size) w5 (.slice e1 m1 k1) (.slice e2 m2 k2) (.slice e3 m3 k3) H:=HQ.out.1.mono (λk hk a=>⟨hk.1,a,rfl⟩);have HF:=Lib.hid (And.intro D (And.intro l HQ.out.2));clear hZ D l u Y;go_wp2_with fail
       refine bodyPost_ret (v := .agg #[.slice e1 m1 k1,.slice e2 m2 k2,.slice e3 m3 k3]) (by simp[results,Tryz.results179,go_sem,z0,z1,z2]) rfl ?_;exact vd_ret HF.out.1 (B:=wr.heap.size) (by omega) HF.out.2.2 ay HV.out aH.out HF.out.2.1
   ·have aS:(x == 0)=false:=by simp[hx]
    obtain⟨F,U,X⟩:=HN.out;have aD:∃Q,Shp 40 Q/\Pres3 (λk=>wr.heap.size<=k/\k≠pb) wN (.slice a1 I c1) (.slice a2 J c2) (.slice K L c3) Q:=⟨Q,F.mono (by omega),U⟩;clear F U HN hx;have z:=M;have G:=R;clear M R;obtain⟨H,F,iL⟩:=aD;have A:=Box3.keep O z.size (z.block _ O.1 (λe=>by have:=Option.some.inj e;omega));obtain⟨p0,p1,p2,p3,p4⟩:=id G;go_wp2_with fail
    refine Calls.mono (sIsPresentation_ok wN _ H _ ⟨_,_,_,rfl,iL⟩) ?_;rintro e5 w5 ⟨v5,rfl,r,rfl⟩;have Y:=G.ext r;have u:=A.ext r;have Z:=iL.ext r;have aa:=X.ext r;have y:=grown_trans z (grown_of_ext (some sb) r);have HQ:=Lib.hid (And.intro Z aa);clear p0 p1 p2 p3 p4 G A iL X z Z aa;obtain⟨p0,p1,p2,p3,p4⟩:=id Y;rcases hv:validB H with _|_
    ·go_wp2_with fail
     go_roundw
     case rel=>exact⟨i+1,by go_num,by omega,grown_trans hg y,Lib.hid HQ.out.2⟩
     case measure=>simp[intOf];omega
    ·have hV:=valid_of hv
     clear hv;have HV:=Lib.hid hV;clear hV;go_wp2_with fail
     refine Calls.mono (l07Product_ok w5 _ H.orders _ HQ.out.1.o (λj hj=>by have:=HV.out.ord7 j hj;omega)) ?_;rintro _ _ ⟨rfl,rfl⟩;rcases aF:decide (capTo H.orders H.orders.length<=b) with _|_
     ·go_wp2_with fail
      go_roundw
      case rel=>exact⟨i+1,by go_num,by omega,grown_trans hg y,Lib.hid HQ.out.2⟩
      case measure=>simp[intOf];omega
     ·have C:LimOk b H:=λaG => .inl (by rw[<-capTo_ord aG];exact of_decide_eq_true aF)
      have aH:=Lib.hid C;clear C;obtain⟨b0,b1,b2,b3,b4⟩:=id u;have hZ:=u.all (.slice a1 I c1) (.slice a2 J c2) (.slice K L c3);obtain⟨-,z0,z1,z2,-⟩:=id hZ;have D:w.grownBy w5 (some sb):=grown_trans (grown_of_ext (some sb) ae) (grown_trans hg y);have l:Pres3 (From wr.heap.size) w5 (.slice a1 I c1) (.slice a2 J c2) (.slice K L c3) H:=HQ.out.1.mono (λk hk a=>⟨hk.1,a,rfl⟩);have HF:=Lib.hid (And.intro D (And.intro l HQ.out.2));clear hZ D l u Y;go_wp2_with fail
      refine bodyPost_ret (v := .agg #[.slice a1 I c1,.slice a2 J c2,.slice K L c3]) (by simp[results,Tryz.results179,go_sem,z0,z1,z2]) rfl ?_;exact vd_ret HF.out.1 (B:=wr.heap.size) (by omega) HF.out.2.2 ay HV.out aH.out HF.out.2.1
  ·have aN:¬((i:Int)<12):=by omega
   obtain⟨b0,b1,b2,b3,b4⟩:=id O;go_wp2_with fail
   have aI:Ext wr (wr.alloc (.cells #[.int .i64 2] 2)):=World.grownBy_alloc _ _ _;have hL:Ints Any (wr.alloc (.cells #[.int .i64 2] 2)) (.slice (some ⟨wr.heap.size,0,none⟩) 1 1) [2]:=Ints.sub (ints_litL wr [2] (by simp)) (λ_ _ _=>trivial);refine Calls.mono (l07Trivial_ok _ _ [2] _ hL (by simp)) ?_;rintro e3 w3 ⟨v3,rfl,ac,vo,vp,vc,rfl,fS⟩;have ac:=grown_trans aI ac;have l:Pres3 (From wr.heap.size) w3 vo vp vc (trivP [2]):=fS.p3.mono (λk hk a=>⟨Nat.le_trans aI.size hk,a,rfl⟩);obtain⟨a1,I,c1,a2,J,c2,K,L,c3,rfl,rfl,rfl⟩:=PresN3.shape ⟨trivP [2],trivP_shp (N:=6) _ (by simp),l⟩;have aJ:=O.ext ac;have a4:=az.out.ext ac;have D:w.grownBy w3 (some sb):=grown_trans (grown_of_ext (some sb) ae) (grown_trans hg (grown_of_ext (some sb) ac));clear fS hL aI b0 b1 b2 b3 b4;obtain⟨b0,b1,b2,b3,b4⟩:=id aJ;have hZ:=aJ.all (.slice a1 I c1) (.slice a2 J c2) (.slice K L c3);obtain⟨-,z0,z1,z2,-⟩:=id hZ;have HF:=Lib.hid (And.intro D (And.intro l a4));clear hZ D l aJ a4;go_wp2_with fail
   refine bodyPost_ret (v := .agg #[.slice a1 I c1,.slice a2 J c2,.slice K L c3]) (by simp[results,Tryz.results179,go_sem,z0,z1,z2]) rfl ?_;exact vd_ret HF.out.1 (B:=wr.heap.size) (by omega) HF.out.2.2 ay valid_triv2 (λ_ => .inr (by decide)) HF.out.2.1
set_option linter.unusedSimpArgs false in
theorem iNat_ok (P:Pr) (w:World) (pv uv:Value) (U:List (List Int)) (Sp Su:Nat->Prop) (bg:PresV Sp w pv P) (hu:Rows2 Su w uv U) :
  Calls Tryz.prog 50 #[pv,uv] w (Ret w (NatV P U)):=by
 obtain⟨vo,vp,vc,rfl,h3⟩:=bg;have V:=(PresP.box h3 28).ext (World.grownBy_alloc _ (.cells #[.slice none 0 0,.slice none 0 0,.slice none 0 0,.slice none 0 0,.slice none 0 0,.slice none 0 0,.slice none 0 0] 62) none);have ap:Ext w ((w.alloc (.cells #[vo,vp,vc] 28)).alloc (.cells #[.slice none 0 0,.slice none 0 0,.slice none 0 0,.slice none 0 0,.slice none 0 0,.slice none 0 0,.slice none 0 0] 62)):=grown_trans (World.grownBy_alloc _ _ _) (World.grownBy_alloc _ _ _);have hR:=Box7.made (w.alloc (.cells #[vo,vp,vc] 28)) 62 (.slice none 0 0) (.slice none 0 0) (.slice none 0 0) (.slice none 0 0) (.slice none 0 0) (.slice none 0 0) (.slice none 0 0);have aq:(w.alloc (.cells #[vo,vp,vc] 28)).heap.size=w.heap.size+1:=by simp
 have bF:((w.alloc (.cells #[vo,vp,vc] 28)).alloc (.cells #[.slice none 0 0,.slice none 0 0,.slice none 0 0,.slice none 0 0,.slice none 0 0,.slice none 0 0,.slice none 0 0] 62)).heap.size=w.heap.size+2:=by simp
 rw[aq] at hR;have aI:=Lib.hid hR;clear hR aq;have ar:=Rows2.ext hu ap;obtain⟨au,capu,rfl,_,_⟩:=Sl.shape hu;clear hu h3;go_enter Tryz.func50,Tryz.ntmps50;go_wp2_with fail
 generalize ((w.alloc (.cells #[vo,vp,vc] 28)).alloc (.cells #[.slice none 0 0,.slice none 0 0,.slice none 0 0,.slice none 0 0,.slice none 0 0,.slice none 0 0,.slice none 0 0] 62))=w0 at *;refine Calls.mono (normalCode_ok P w0 _ _ U Any Su V ar) ?_;rintro e1 w1 ⟨v1,rfl,z,rfl⟩;by_cases W:cpnC P U=0
 case neg=>
  have bj:(cpnC P U != 0)=true:=by simpa using W
  obtain⟨A,C,D⟩:=nh_no W;have HN:=Lib.hid (And.intro A (And.intro C D));clear A C D W;have H:=aI.out.ext z;obtain⟨k0,⟨k1,k2,k3,k4,k5,k6,k7⟩,k8⟩:=id H;have hT:=grown_set7 w1 (w.heap.size+1) (.slice none 0 0) (.slice none 0 0) (.slice none 0 0) (.slice none 0 0) (.slice none 0 0) (.slice none 0 0) (.slice none 0 0);have av:=Lib.hid (H.2.1.all (.slice none 0 0) (.slice none 0 0) (.slice none 0 0) (.slice none 0 0) (.slice none 0 0) (.slice none 0 0) (.slice none 0 0))
  have E:∀c:Int,c=cpnC P U->Ret w (NatV P U) (.returned (.tuple #[.agg #[.slice none 0 0,.slice none 0 0,.slice none 0 0,.slice none 0 0,.slice none 0 0,.slice none 0 0,.slice none 0 0],.int .i64 c])) (((((((w1.setCell ⟨(w.heap.size+1),0,none⟩ (.slice none 0 0)).setCell ⟨(w.heap.size+1),1,none⟩ (.slice none 0 0)).setCell ⟨(w.heap.size+1),2,none⟩ (.slice none 0 0)).setCell ⟨(w.heap.size+1),3,none⟩ (.slice none 0 0)).setCell ⟨(w.heap.size+1),4,none⟩ (.slice none 0 0)).setCell ⟨(w.heap.size+1),5,none⟩ (.slice none 0 0)).setCell ⟨(w.heap.size+1),6,none⟩ (.slice none 0 0)):=λc hc=>
   ⟨_,rfl,grown_own (grown_trans ap z) hT (λj q l=>by have:=Option.some.inj q;omega),none,0,0,none,0,0,none,0,0,none,0,0,none,0,0,none,0,0,none,0,0,by rw[hc],by rw[HN.out.1,HN.out.2.1,HN.out.2.2];exact hom_nil _⟩
  have HE:=Lib.hid E;clear E hT H;obtain⟨c,hc⟩:∃c,c=cpnC P U:=⟨_,rfl⟩;rw[<-hc] at bj ⊢;go_wp2;obtain⟨z0,z1,z2,z3,z4,z5,z6⟩:=av.out;refine bodyPost_ret (v := .tuple #[.agg #[.slice none 0 0,.slice none 0 0,.slice none 0 0,.slice none 0 0,.slice none 0 0,.slice none 0 0,.slice none 0 0],.int .i64 c]) (by simp[results,Tryz.results50,go_sem,z0,z1,z2,z3,z4,z5,z6,hc]) rfl ?_;exact HE.out c hc
 obtain⟨hr,hU,hn,hN⟩:=nh_facts W;have G:=grp_of_r hr;have bH:=G.v.n6;have bI:=fr_len P U;have aK:=qIm_len P U;have aL:∀X,(prjV P U X).length<=6:=λX=>by unfold prjV;rw[List.length_map];omega
 have HH:=Lib.hid (And.intro hr (And.intro hU (And.intro W aL)));clear hU hn hN aL;rw[W];clear W;go_wp2_with fail
 refine Calls.mono (copyPres_ok w1 _ P Any 6 (V.ext z) G.v.shp (by decide)) ?_;rintro e2 w2 ⟨v2,rfl,Y,x1,x2,x3,rfl,ax⟩;obtain⟨a1,A,c1,a2,C,c2,L,D,c3,rfl,rfl,rfl⟩:=ax.sl;go_wp2_with fail
 refine Calls.mono (quoPres_ok P hr w2 _ _ U Any Su (V.ext (grown_trans z Y)) (Rows2.ext ar (grown_trans z Y)) HH.out.2.1) ?_;rintro e3 w3 ⟨v3,rfl,Z,y1,y2,y3,rfl,ay⟩;obtain⟨M,n4,c4,N,O,c5,Q,n6,c6,rfl,rfl,rfl⟩:=ay.sl;have S:Ext w3 (w3.alloc (.cells #[.slice a1 A c1,.slice a2 C c2,.slice L D c3,.slice M n4 c4,.slice N O c5,.slice Q n6 c6,.slice none 0 0] 62)):=World.grownBy_alloc _ _ _;have u:=Box7.made w3 62 (.slice a1 A c1) (.slice a2 C c2) (.slice L D c3) (.slice M n4 c4) (.slice N O c5) (.slice Q n6 c6) (.slice none 0 0);have bo:(w3.alloc (.cells #[.slice a1 A c1,.slice a2 C c2,.slice L D c3,.slice M n4 c4,.slice N O c5,.slice Q n6 c6,.slice none 0 0] 62)).heap.size=w3.heap.size+1:=by simp
 obtain⟨r,az⟩:∃r,r=w3.heap.size:=⟨_,rfl⟩;rw[<-az] at u bo;have ae:=Lib.hid az;clear az;go_wp2_with fail
 rw[<-ae.out];generalize (w3.alloc (.cells #[.slice a1 A c1,.slice a2 C c2,.slice L D c3,.slice M n4 c4,.slice N O c5,.slice Q n6 c6,.slice none 0 0] 62))=w4 at *;have aa:=grown_trans (grown_trans (grown_trans z Y) Z) S;refine Calls.mono (generators_ok P G.v w4 _ Any (V.ext aa)) ?_;rintro e5 p ⟨v5,rfl,I,aM⟩;have af:(gensOf P.orders.length).length=P.orders.length:=gensOf_len _;have aA:Rows2 (From w4.heap.size) p v5 (gensOf P.orders.length):=RowsI.rows (SlI.of aM (by omega) (λk h _=>h));obtain⟨ag,cg,hge,_,_⟩:=Sl.shape aA;subst hge;have aN:=u.ext I;have bL:=I.size;have aq:=z.size;have bx:=Y.size;have bM:=Z.size;have am:=grown_trans aa I;have aO:Pres3 (λk=>w1.heap.size<=k/\k<w2.heap.size) p (.slice a1 A c1) (.slice a2 C c2) (.slice L D c3) P:=(ax.p3).mono (λk hk l=>⟨⟨hk,l⟩,Nat.lt_of_lt_of_le l (grown_trans (grown_trans Z S) I).size,(grown_trans (grown_trans Z S) I).block k l (by simp)⟩);have aQ:Pres3 (λk=>w2.heap.size<=k/\k<w3.heap.size) p (.slice M n4 c4) (.slice N O c5) (.slice Q n6 c6) (quoP P U):=(ay.p3).mono (λk hk l=>⟨⟨hk,l⟩,Nat.lt_of_lt_of_le l (grown_trans S I).size,(grown_trans S I).block k l (by simp)⟩);have HG:=Lib.hid (And.intro aA (And.intro aO aQ));clear aA aM aO aQ ax ay u S z Y Z aa;have aS:RowsI (From p.heap.size) p (.slice none 0 0) ((qIm P U).take 0):=SlI.of (B:=p.heap.size) (SlO.nil _ _ _ _) (by simp) (λk h _=>h);rw[af];go_wp2;go_loopw [22] (λkv wr=>∃(k:Nat) (F:Option Addr) (n7 c7:Nat),kv=.int .i64 (k:Int)/\k<=P.orders.length/\p.grownBy wr (some r)/\Box7 wr r (.slice a1 A c1) (.slice a2 C c2) (.slice L D c3) (.slice M n4 c4) (.slice N O c5) (.slice Q n6 c6) (.slice F n7 c7)/\RowsI (From p.heap.size) wr (.slice F n7 c7) ((qIm P U).take k)) (λkv _=>P.orders.length-(intOf kv).toNat)
 case atStart=>exact⟨0,_,_,_,rfl,by omega,grown_refl _ _,aN,aS⟩
 case round=>
  clear aS aN;obtain⟨k,F,n7,c7,rfl,hk,y,u,hO⟩:=hrel;have R:Ext w0 wr:=grown_own am y (λj q l=>by have:=Option.some.inj q;have:=ae.out;omega);by_cases l:k<P.orders.length
  ·have bz:(k:Int)<P.orders.length:=by omega
   have aT:Rows2 (λk=>k≠r) wr (.slice ag (gensOf P.orders.length).length cg) (gensOf P.orders.length):=Rows2.mono HG.out.1 (frame_of y (λj q _=>⟨λe=>by have q:w4.heap.size<=j:=q;omega,λe=>by have:=Option.some.inj e;have q:w4.heap.size<=j:=q;omega⟩));obtain⟨bv,ov,ya,yc,hab,_,_,aB,W⟩:=Rows2.at aT k (by rw[af];exact l);subst hab;have aC:Vec P.orders (gt (gensOf P.orders.length) k):=gens_vec G _ (gtMem (by rw[af];exact l))
   have J:(qIm P U).take (k+1)=(qIm P U).take k++[prjV P U (gt (gensOf P.orders.length) k)]:=by
    rw[take_succ_gt _ k (by rw[aK];exact l)];unfold qIm;rw[gt_map _ _ _ (by rw[af];exact l)]
   have an:((qIm P U).take k).length<=1000000:=by rw[List.length_take];omega
   obtain⟨X,hX⟩:∃X,X=gt (gensOf P.orders.length) k:=⟨_,rfl⟩;rw[<-hX] at aC J aB W;have aD:Ints Any wr.drew (.slice ya X.length yc) X:=Ints.sub (Ints.ext W (grown_drew _ _)) (λ_ _ _=>trivial);obtain⟨nx,aU⟩:∃nx,nx=X.length:=⟨_,rfl⟩;rw[<-aU] at aB aD;have HX:=Lib.hid (And.intro aC (And.intro J (And.intro an aD)));clear aC J an W hX aU aT aD;have aV:∀b,(Value.slice F n7 c7).ownBlock=some b->p.heap.size<=b:=by obtain⟨_,_,_,_,_,hF,_⟩:=id hO;exact hF
   have ab:p.grownBy wr.drew (some r)/\wr.drew.cell? ⟨r,6,none⟩=some (.slice F n7 c7):=⟨grown_trans y (grown_of_ext _ (grown_drew _ _)),(grown_drew wr none).cell u.2.1.2.2.2.2.2.2 (by simp)⟩;go_wp2;clear aB;refine wp_region_X (λw'=>p.grownBy w' (some r)/\w'.cell? ⟨r,6,none⟩=some (.slice F n7 c7)) 8 (by kernel_rfl) ?_;refine wpAnyX_take [1,6,8] (i:=0) (v := ?_) rfl (by kernel_rfl) (by kernel_rfl) (by kernel_rfl) (by kernel_rfl) (λ_ _ _ h=>h) (Or.inl ⟨by rfl,λw' m => ?_⟩) ab ?_;rotate_left
   ·obtain ⟨m,eH⟩:=m
    simp only[List.getElem_toArray,List.getElem_cons_zero,List.getElem_cons_succ];go_simp;try with_reducible rfl
   try simp only[List.getElem_toArray,List.getElem_cons_zero,List.getElem_cons_succ,Act.put,List.setIfInBounds_toArray,List.set_cons_zero,List.set_cons_succ]
   refine wpAnyX_take [6,8] (i:=1) (v := ?_) rfl (by kernel_rfl) (by kernel_rfl) (by kernel_rfl) (by kernel_rfl) (λ_ _ _ h=>h) (Or.inl ⟨by rfl,λw' m => ?_⟩) ab ?_;rotate_left
   ·obtain ⟨m,eH⟩:=m
    simp only[List.getElem_toArray,List.getElem_cons_zero,List.getElem_cons_succ];go_simp;try with_reducible rfl
   try simp only[List.getElem_toArray,List.getElem_cons_zero,List.getElem_cons_succ,Act.put,List.setIfInBounds_toArray,List.set_cons_zero,List.set_cons_succ]
   refine wpAnyX_take [4,5,6,8] (i:=2) (v := ?_) rfl (by kernel_rfl) (by kernel_rfl) (by kernel_rfl) (by kernel_rfl) (λ_ _ _ h=>h) (Or.inl ⟨by rfl,λw' m => ?_⟩) ab ?_;rotate_left
   ·obtain ⟨m,eH⟩:=m
    simp only[List.getElem_toArray,List.getElem_cons_zero,List.getElem_cons_succ];go_simp;try with_reducible rfl
   try simp only[List.getElem_toArray,List.getElem_cons_zero,List.getElem_cons_succ,Act.put,List.setIfInBounds_toArray,List.set_cons_zero,List.set_cons_succ]
   refine wpAnyX_take [4,5,6,8] (i:=3) (v := ?_) rfl (by kernel_rfl) (by kernel_rfl) (by kernel_rfl) (by kernel_rfl) (λ_ _ _ h=>h) (Or.inl ⟨by rfl,λw' m => ?_⟩) ab ?_;rotate_left
   ·obtain ⟨m,eH⟩:=m
    simp only[List.getElem_toArray,List.getElem_cons_zero,List.getElem_cons_succ];go_simp;try with_reducible rfl
   try simp only[List.getElem_toArray,List.getElem_cons_zero,List.getElem_cons_succ,Act.put,List.setIfInBounds_toArray,List.set_cons_zero,List.set_cons_succ]
   refine wpAnyX_step (i:=4) rfl (by kernel_rfl) rfl (λK hK => ?_);simp only[List.getElem_toArray,List.getElem_cons_zero,List.getElem_cons_succ];go_simp;go_at_call 129;refine Calls.mono (project_ok P HH.out.1 wr.drew _ _ _ U X Any Su Any (V.ext (grown_trans R (grown_drew _ _))) (Rows2.ext ar (grown_trans R (grown_drew _ _))) HH.out.2.1 HX.out.2.2.2 HX.out.1) ?_;rintro eR wR ⟨vR,rfl,br,aW⟩;obtain⟨aR,ao,ji,_,_⟩:=(aW.ints (by have:=HH.out.2.2.2 X;omega)).shape;subst ji;have ad:Ext wr wR:=grown_trans (grown_drew _ _) br;have ah:p.grownBy wR (some r)/\wR.cell? ⟨r,6,none⟩=some (.slice F n7 c7):=⟨grown_trans y (grown_of_ext _ ad),ad.cell u.2.1.2.2.2.2.2.2 (by simp)⟩;have aX:p.grownBy (wR.alloc (.cells #[.slice aR (prjV P U X).length ao] 24)) (some r)/\(wR.alloc (.cells #[.slice aR (prjV P U X).length ao] 24)).cell? ⟨r,6,none⟩=some (.slice F n7 c7):=⟨grown_trans ah.1 (grown_of_ext _ (World.grownBy_alloc _ _ _)),(World.grownBy_alloc wR _ none).cell ah.2 (by simp)⟩;try dsimp only
   refine hK.out _ _ ah ?_;clear hK K;try simp only[List.getElem_toArray,List.getElem_cons_zero,List.getElem_cons_succ,Act.put,List.setIfInBounds_toArray,List.set_cons_zero,List.set_cons_succ]
   refine wpAnyX_step (i:=5) rfl (by kernel_rfl) rfl (λK hK => ?_);simp only[List.getElem_toArray,List.getElem_cons_zero,List.getElem_cons_succ];go_simp;refine hK.out _ _ aX ?_;clear hK K;try simp only[List.getElem_toArray,List.getElem_cons_zero,List.getElem_cons_succ,Act.put,List.setIfInBounds_toArray,List.set_cons_zero,List.set_cons_succ]
   refine wpAnyX_step (i:=6) rfl (by kernel_rfl) rfl (λK hK => ?_);simp only[List.getElem_toArray,List.getElem_cons_zero,List.getElem_cons_succ];refine step_app_I (a:=⟨_,[]⟩) rdOwn 25 (.slice none 0 0) 24 und_rows Tryz.infoRow rfl (by decide) (by rfl) _ _ (by rfl) (From p.heap.size) wr wR _ _ ((qIm P U).take k) (prjV P U X) (by rfl) hO ad (OwnIn.of aW (by have:=HH.out.2.2.2 X;omega) (λk h _=>h)) (by rfl) (by rfl) HX.out.2.2.1 ?_;intro v8 w8 aY aF bQ;obtain⟨h8,m9,k9,rfl,fU⟩:=SlI.sl aY;clear fU;have aG:p.grownBy w8 (some r):=grown_own y aF (λj q l=>by have:=aV j q;omega);have ai:=u.keep aF.size (aF.block r u.1 (λe=>by have:=aV r e.symm;omega));refine hK.out _ _ ⟨aG,ai.2.1.2.2.2.2.2.2⟩ ?_;clear hK K;try simp only[List.getElem_toArray,List.getElem_cons_zero,List.getElem_cons_succ,Act.put,List.setIfInBounds_toArray,List.set_cons_zero,List.set_cons_succ]
   refine wpAnyX_take [8] (i:=7) (v := ?_) rfl (by kernel_rfl) (by kernel_rfl) (by kernel_rfl) (by kernel_rfl) (λ_ _ _ h=>h) (Or.inl ⟨by rfl,λw' m => ?_⟩) ⟨aG,ai.2.1.2.2.2.2.2.2⟩ ?_;rotate_left
   ·obtain ⟨m,eH⟩:=m
    simp only[List.getElem_toArray,List.getElem_cons_zero,List.getElem_cons_succ];go_simp;try with_reducible rfl
   try simp only[List.getElem_toArray,List.getElem_cons_zero,List.getElem_cons_succ,Act.put,List.setIfInBounds_toArray,List.set_cons_zero,List.set_cons_succ]
   refine wpAnyX_last (n:=8) rfl (by kernel_rfl) rfl (λK hK => ?_);simp only[List.getElem_toArray,List.getElem_cons_zero,List.getElem_cons_succ];obtain⟨f80,⟨f81,f82,f83,f84,f85,f86,f87⟩,f88⟩:=id ai;go_simp;refine hK.out _ _ ?_;clear hK K;refine wpAnyX_done (by kernel_rfl) ?_ _;try simp only[List.getElem_toArray,List.getElem_cons_zero,List.getElem_cons_succ,Act.put,List.setIfInBounds_toArray,List.set_cons_zero,List.set_cons_succ]
   clear ab ah aX;have bt:=ai.put6 (.slice h8 m9 k9);have a9:p.grownBy (w8.setCell ⟨r,6,none⟩ (.slice h8 m9 k9)) (some r):=grown_trans aG (grown_set1 _ _ _ _)
   have bu:RowsI (From p.heap.size) (w8.setCell ⟨r,6,none⟩ (.slice h8 m9 k9)) (.slice h8 m9 k9) ((qIm P U).take (k+1)):=by
    rw[HX.out.2.1]
    exact rdRowsI.mono (SlI.wide aY (λb aj=>by
     rcases aj with aj|aj
     ·exact aj
     ·have:=y.size;show p.heap.size<=b;omega)) (frame_of (grown_set1 w8 r 6 (.slice h8 m9 k9)) (λj q _=>⟨q,λe=>by have:=Option.some.inj e;have q:p.heap.size<=j:=q;omega⟩))
   clear f80 f81 f82 f83 f84 f85 f86 f87 f88;go_wp2;go_roundw
   case rel=>exact⟨k+1,_,_,_,by go_num,by omega,a9,bt,bu⟩
   case measure=>simp[intOf];omega
  ·have bR:k=P.orders.length:=by omega
   have a':(qIm P U).take k=qIm P U:=List.take_of_length_le (by rw[aK];omega);rw[a'] at hO;have H:=aI.out.ext R;obtain⟨k0,⟨k1,k2,k3,k4,k5,k6,k7⟩,k8⟩:=id H;obtain⟨q0,⟨q1,q2,q3,q4,q5,q6,q7⟩,q8⟩:=id u;have hT:=grown_set7 wr (w.heap.size+1) (.slice a1 A c1) (.slice a2 C c2) (.slice L D c3) (.slice M n4 c4) (.slice N O c5) (.slice Q n6 c6) (.slice F n7 c7);have av:=Lib.hid (H.2.1.all (.slice a1 A c1) (.slice a2 C c2) (.slice L D c3) (.slice M n4 c4) (.slice N O c5) (.slice Q n6 c6) (.slice F n7 c7));obtain⟨m1,m2,m3⟩:=nh_ok HH.out.2.2.1;have aH:∀j,j<p.heap.size->j≠r->j≠w.heap.size+1->j<(((((((wr.setCell ⟨(w.heap.size+1),0,none⟩ (.slice a1 A c1)).setCell ⟨(w.heap.size+1),1,none⟩ (.slice a2 C c2)).setCell ⟨(w.heap.size+1),2,none⟩ (.slice L D c3)).setCell ⟨(w.heap.size+1),3,none⟩ (.slice M n4 c4)).setCell ⟨(w.heap.size+1),4,none⟩ (.slice N O c5)).setCell ⟨(w.heap.size+1),5,none⟩ (.slice Q n6 c6)).setCell ⟨(w.heap.size+1),6,none⟩ (.slice F n7 c7)).heap.size/\(((((((wr.setCell ⟨(w.heap.size+1),0,none⟩ (.slice a1 A c1)).setCell ⟨(w.heap.size+1),1,none⟩ (.slice a2 C c2)).setCell ⟨(w.heap.size+1),2,none⟩ (.slice L D c3)).setCell ⟨(w.heap.size+1),3,none⟩ (.slice M n4 c4)).setCell ⟨(w.heap.size+1),4,none⟩ (.slice N O c5)).setCell ⟨(w.heap.size+1),5,none⟩ (.slice Q n6 c6)).setCell ⟨(w.heap.size+1),6,none⟩ (.slice F n7 c7)).heap[j]? = p.heap[j]? :=λj h1 h2 h3=>⟨Nat.lt_of_lt_of_le h1 (Nat.le_trans y.size hT.size),(hT.block j (Nat.lt_of_lt_of_le h1 y.size) (λe=>h3 (Option.some.inj e))).trans (y.block j h1 (λe=>h2 (Option.some.inj e)))⟩
   have E:Ret w (NatV P U) (.returned (.tuple #[.agg #[.slice a1 A c1,.slice a2 C c2,.slice L D c3,.slice M n4 c4,.slice N O c5,.slice Q n6 c6,.slice F n7 c7],.int .i64 0])) (((((((wr.setCell ⟨(w.heap.size+1),0,none⟩ (.slice a1 A c1)).setCell ⟨(w.heap.size+1),1,none⟩ (.slice a2 C c2)).setCell ⟨(w.heap.size+1),2,none⟩ (.slice L D c3)).setCell ⟨(w.heap.size+1),3,none⟩ (.slice M n4 c4)).setCell ⟨(w.heap.size+1),4,none⟩ (.slice N O c5)).setCell ⟨(w.heap.size+1),5,none⟩ (.slice Q n6 c6)).setCell ⟨(w.heap.size+1),6,none⟩ (.slice F n7 c7)):=
    ⟨_, rfl,grown_own (grown_trans ap R) hT (λj q l=>by have:=Option.some.inj q;omega),a1,A,c1,a2,C,c2,L,D,c3,M,n4,c4,N,O,c5,Q,n6,c6,F,n7,c7,by rw[HH.out.2.2.1],by
     rw[m1,m2,m3];exact⟨_,_,_,_,_,_,_,rfl,HG.out.2.1.mono (λj q l=>by have:=ae.out;exact⟨trivial,aH j (by omega) (by omega) (by omega)⟩),HG.out.2.2.mono (λj q l=>by have:=ae.out;exact⟨trivial,aH j (by omega) (by omega) (by omega)⟩),Rows2.mono (RowsI.rows hO) (frame_of hT (λj q _=>⟨trivial,λe=>by have:=Option.some.inj e;have:=am.size;have q:p.heap.size<=j:=q;omega⟩))⟩⟩
   have HE:=Lib.hid E;clear E hT H aH m1 m2 m3 a';go_wp2;obtain⟨z0,z1,z2,z3,z4,z5,z6⟩:=av.out;refine bodyPost_ret (v := .tuple #[.agg #[.slice a1 A c1,.slice a2 C c2,.slice L D c3,.slice M n4 c4,.slice N O c5,.slice Q n6 c6,.slice F n7 c7],.int .i64 0]) (by simp[results,Tryz.results50,go_sem,z0,z1,z2,z3,z4,z5,z6]) rfl ?_;exact HE.out
def HomR (B:Nat) (P Q:Pr) (Is:List (List Int)) (w':World) (v:Value):Prop:=∃(a1:Option Addr) (a c1:Nat) (a2:Option Addr) (b c2:Nat) (e:Option Addr) (i c3:Nat) (j:Option Addr) (n4 c4:Nat) (k:Option Addr) (l c5:Nat) (m:Option Addr) (n6 c6:Nat) (p:Option Addr) (n7 c7:Nat),
 v=.agg #[.slice a1 a c1,.slice a2 b c2,.slice e i c3,.slice j n4 c4,.slice k l c5,.slice m n6 c6,.slice p n7 c7]/\HomV (From B) w' v P Q Is
theorem l16Make_ok (w:World) (pv qv iv:Value) (P Q:Pr) (Is:List (List Int)) (Sp Sq Si:Nat->Prop) (hp:PresV Sp w pv P) (hq:PresV Sq w qv Q) (hi:Rows2 Si w iv Is) (hP:Shp 6 P) (hQ:Shp 6 Q) (hI:∀x∈Is,x.length<=1000000) (af:Is.length<=1000000) :
  Calls Tryz.prog 150 #[pv,qv,iv] w (Ret w (HomR w.heap.size P Q Is)):=by
 obtain⟨vo,vp,vc,rfl,h3⟩:=hp;obtain⟨uo,up,uc,rfl,k3⟩:=hq;obtain⟨q,no,co,ez⟩:∃a n c,vo=.slice a n c:=by obtain⟨a,c,e,_⟩:=h3.o.shape;exact⟨_,_,_,e⟩
 obtain⟨ap,r,u,hvp⟩:∃a n c,vp=.slice a n c:=by obtain⟨a,c,e,_⟩:=Sl.shape h3.p;exact⟨_,_,_,e⟩
 obtain⟨y,z,A,ey⟩:∃a n c,vc=.slice a n c:=by obtain⟨a,c,e,_⟩:=Sl.shape h3.c;exact⟨_,_,_,e⟩
 obtain⟨do_,C,D,nG⟩:∃a n c,uo=.slice a n c:=by obtain⟨a,c,e,_⟩:=k3.o.shape;exact⟨_,_,_,e⟩
 obtain⟨dp,mp,ep,nH⟩:∃a n c,up=.slice a n c:=by obtain⟨a,c,e,_⟩:=Sl.shape k3.p;exact⟨_,_,_,e⟩
 obtain⟨dc,E,F,nI⟩:∃a n c,uc=.slice a n c:=by obtain⟨a,c,e,_⟩:=Sl.shape k3.c;exact⟨_,_,_,e⟩
 subst ez hvp ey nG nH nI;have I:Ext w (((w.alloc (.cells #[.slice q no co,.slice ap r u,.slice y z A] 28)).alloc (.cells #[.slice do_ C D,.slice dp mp ep,.slice dc E F] 28)).alloc (.cells #[.slice none 0 0,.slice none 0 0,.slice none 0 0,.slice none 0 0,.slice none 0 0,.slice none 0 0,.slice none 0 0] 62)):=grown_trans (World.grownBy_alloc _ _ _) (grown_trans (World.grownBy_alloc _ _ _) (World.grownBy_alloc _ _ _));have hA:=((Box3.made w 28 (.slice q no co) (.slice ap r u) (.slice y z A)).ext (World.grownBy_alloc _ (.cells #[.slice do_ C D,.slice dp mp ep,.slice dc E F] 28) _)).ext (World.grownBy_alloc _ (.cells #[.slice none 0 0,.slice none 0 0,.slice none 0 0,.slice none 0 0,.slice none 0 0,.slice none 0 0,.slice none 0 0] 62) none);have hB:=(Box3.made (w.alloc (.cells #[.slice q no co,.slice ap r u,.slice y z A] 28)) 28 (.slice do_ C D) (.slice dp mp ep) (.slice dc E F)).ext (World.grownBy_alloc _ (.cells #[.slice none 0 0,.slice none 0 0,.slice none 0 0,.slice none 0 0,.slice none 0 0,.slice none 0 0,.slice none 0 0] 62) none);have hR:=Box7.made ((w.alloc (.cells #[.slice q no co,.slice ap r u,.slice y z A] 28)).alloc (.cells #[.slice do_ C D,.slice dp mp ep,.slice dc E F] 28)) 62 (.slice none 0 0) (.slice none 0 0) (.slice none 0 0) (.slice none 0 0) (.slice none 0 0) (.slice none 0 0) (.slice none 0 0);have ag:(w.alloc (.cells #[.slice q no co,.slice ap r u,.slice y z A] 28)).heap.size=w.heap.size+1:=by simp
 have ah:((w.alloc (.cells #[.slice q no co,.slice ap r u,.slice y z A] 28)).alloc (.cells #[.slice do_ C D,.slice dp mp ep,.slice dc E F] 28)).heap.size=w.heap.size+1+1:=by simp
 have aO:(((w.alloc (.cells #[.slice q no co,.slice ap r u,.slice y z A] 28)).alloc (.cells #[.slice do_ C D,.slice dp mp ep,.slice dc E F] 28)).alloc (.cells #[.slice none 0 0,.slice none 0 0,.slice none 0 0,.slice none 0 0,.slice none 0 0,.slice none 0 0,.slice none 0 0] 62)).heap.size=w.heap.size+3:=by simp
 rw[ag] at hB;rw[ah] at hR;have aj:∀w',Ext (((w.alloc (.cells #[.slice q no co,.slice ap r u,.slice y z A] 28)).alloc (.cells #[.slice do_ C D,.slice dp mp ep,.slice dc E F] 28)).alloc (.cells #[.slice none 0 0,.slice none 0 0,.slice none 0 0,.slice none 0 0,.slice none 0 0,.slice none 0 0,.slice none 0 0] 62)) w'->PresV Sp w' (.agg #[.slice q no co,.slice ap r u,.slice y z A]) P/\PresV Sq w' (.agg #[.slice do_ C D,.slice dp mp ep,.slice dc E F]) Q/\Rows2 Si w' iv Is:=λw' h=>⟨⟨_,_,_,rfl,h3.ext (grown_trans I h)⟩,⟨_,_,_,rfl,k3.ext (grown_trans I h)⟩,Rows2.ext hi (grown_trans I h)⟩;have l:=Lib.hid (And.intro hA (And.intro hB (And.intro hR (And.intro aj (And.intro hP (And.intro hQ (And.intro hI af)))))));clear hA hB hR ag ah aj hP hQ hI af h3 k3;obtain⟨ai,ak,rfl,_,_⟩:=Sl.shape hi;go_enter Tryz.func150,Tryz.ntmps150;go_wp2_with fail
 generalize ((w.alloc (.cells #[.slice q no co,.slice ap r u,.slice y z A] 28)).alloc (.cells #[.slice do_ C D,.slice dp mp ep,.slice dc E F] 28)).alloc (.cells #[.slice none 0 0,.slice none 0 0,.slice none 0 0,.slice none 0 0,.slice none 0 0,.slice none 0 0,.slice none 0 0] 62)=w0 at *;obtain⟨i,J⟩:∃b,b=w.heap.size+1+1:=⟨_,rfl⟩;obtain⟨qb,K⟩:∃b,b=w.heap.size+1:=⟨_,rfl⟩;rw[<-J,<-K] at l;rw[<-J,<-K];have G:=Lib.hid (And.intro J K);clear J K;have n0:some i≠some w.heap.size:=λe=>by have:=Option.some.inj e;have:=G.out.1;omega
 have al:some i≠some qb:=λe=>by have:=Option.some.inj e;have:=G.out.1;have:=G.out.2;omega
 have x0:∀w',w0.grownBy w' (some i)->Box3 w' w.heap.size (.slice q no co) (.slice ap r u) (.slice y z A)/\Box3 w' qb (.slice do_ C D) (.slice dp mp ep) (.slice dc E F):=λw' h=>⟨l.out.1.keep h.size (h.block _ l.out.1.1 n0.symm),l.out.2.1.keep h.size (h.block _ l.out.2.1.1 al.symm)⟩;have e0:∀w',w0.grownBy w' (some i)->w'.cell? ⟨w.heap.size,0,none⟩=some (.slice q no co):=λw' h=>(x0 w' h).1.2.1;have e1:∀w',w0.grownBy w' (some i)->w'.cell? ⟨w.heap.size,1,none⟩=some (.slice ap r u):=λw' h=>(x0 w' h).1.2.2.1;have e2:∀w',w0.grownBy w' (some i)->w'.cell? ⟨w.heap.size,2,none⟩=some (.slice y z A):=λw' h=>(x0 w' h).1.2.2.2.1;have d0:∀w',w0.grownBy w' (some i)->w'.cell? ⟨qb,0,none⟩=some (.slice do_ C D):=λw' h=>(x0 w' h).2.2.1;have d1:∀w',w0.grownBy w' (some i)->w'.cell? ⟨qb,1,none⟩=some (.slice dp mp ep):=λw' h=>(x0 w' h).2.2.2.1;have d2:∀w',w0.grownBy w' (some i)->w'.cell? ⟨qb,2,none⟩=some (.slice dc E F):=λw' h=>(x0 w' h).2.2.2.2.1;clear x0 n0 al;have O:Ext w0 w0.drew:=grown_drew _ _;have aC:w0.grownBy w0.drew (some i):=grown_of_ext _ O;go_wp2
 go_region_held3 (λw'=>w0.grownBy w' (some i)) (with_reducible assumption)
  (first
   | ((fail_if_success (have _h:=R));go_at_call 240;refine Calls.mono (l07Own_ok w0.drew (.agg #[.slice q no co,.slice ap r u,.slice y z A]) P Sp 6 (l.out.2.2.2.1 _ O).1 l.out.2.2.2.2.1 (by decide)) ?_;rintro eA wA ⟨vA,rfl,ku,x1,x2,x3,rfl,R⟩;have L:=grown_trans O ku;have aD:w0.grownBy wA (some i):=grown_of_ext _ L;obtain⟨a1,V,c1,a2,W,c2,X,Y,c3,rfl,rfl,rfl⟩:=R.sl)
   | (go_at_call 240;refine Calls.mono (l07Own_ok wA (.agg #[.slice do_ C D,.slice dp mp ep,.slice dc E F]) Q Sq 6 (l.out.2.2.2.1 _ L).2.1 l.out.2.2.2.2.2.1 (by decide)) ?_;rintro eB wB ⟨vB,rfl,M,y1,y2,y3,rfl,am⟩;have m:=grown_trans L M;have aE:w0.grownBy wB (some i):=grown_of_ext _ m;obtain⟨Z,n4,c4,a5,n5,c5,a6,n6,c6,rfl,rfl,rfl⟩:=am.sl)
   | (go_at_call 216;refine Calls.mono (l01Own2_ok wB (.slice ai Is.length ak) Is Si (l.out.2.2.2.1 _ m).2.2 l.out.2.2.2.2.2.2.1 l.out.2.2.2.2.2.2.2) ?_;rintro eC wC ⟨vC,rfl,H,an⟩;have S:=grown_trans m H;have aq:w0.grownBy wC (some i):=grown_of_ext _ S;obtain⟨a7,c7,iu,_,_⟩:=SlD.shape (an.toD (by have:=l.out.2.2.2.2.2.2.2;omega));subst iu;have U:=l.out.2.2.1.ext S;obtain⟨k0,⟨k1,k2,k3,k4,k5,k6,k7⟩,k8⟩:=id U;have aF:=grown_trans aq (grown_set7 wC i (.slice a1 V c1) (.slice a2 W c2) (.slice X Y c3) (.slice Z n4 c4) (.slice a5 n5 c5) (.slice a6 n6 c6) (.slice a7 Is.length c7))))
 clear aC aD aE aq aF e0 e1 e2 d0 d1 d2 k1 k2 k3 k4 k5 k6 k7 k8;have hT:=grown_set7 wC (i) (.slice a1 V c1) (.slice a2 W c2) (.slice X Y c3) (.slice Z n4 c4) (.slice a5 n5 c5) (.slice a6 n6 c6) (.slice a7 Is.length c7);have aG:=Lib.hid (U.2.1.all (.slice a1 V c1) (.slice a2 W c2) (.slice X Y c3) (.slice Z n4 c4) (.slice a5 n5 c5) (.slice a6 n6 c6) (.slice a7 Is.length c7));have hk:∀k,w0.heap.size<=k->some i≠some k:=λk h e=>by have:=Option.some.inj e;have:=G.out.1;omega
 have aU:=L.size;have aV:=m.size
 have N:Ret w (HomR w.heap.size P Q Is) (.returned (.agg #[.slice a1 V c1,.slice a2 W c2,.slice X Y c3,.slice Z n4 c4,.slice a5 n5 c5,.slice a6 n6 c6,.slice a7 Is.length c7])) (((((((wC.setCell ⟨i,0,none⟩ (.slice a1 V c1)).setCell ⟨i,1,none⟩ (.slice a2 W c2)).setCell ⟨i,2,none⟩ (.slice X Y c3)).setCell ⟨i,3,none⟩ (.slice Z n4 c4)).setCell ⟨i,4,none⟩ (.slice a5 n5 c5)).setCell ⟨i,5,none⟩ (.slice a6 n6 c6)).setCell ⟨i,6,none⟩ (.slice a7 Is.length c7)):=
  ⟨_, rfl,grown_own (grown_trans I S) hT (λj hj aX=>by have:=Option.some.inj hj;have:=G.out.1;omega),_,_,_,_,_,_,_,_,_,_,_,_,_,_,_,_,_,_,_,_,_,rfl,_,_,_,_,_,_,_,rfl,
   (R.p3.ext (grown_trans M H)).mono (frame_of hT (λk h _=>⟨by have h:w0.heap.size<=k:=h;show w.heap.size<=k;omega,hk k h⟩)),
   (am.p3.ext H).mono (frame_of hT (λk h _=>⟨by have h:wA.heap.size<=k:=h;show w.heap.size<=k;omega,hk k (by have h:wA.heap.size<=k:=h;omega)⟩)),
   Rows2.mono (RowsI.rows (SlI.of an (by have:=l.out.2.2.2.2.2.2.2;omega) (λk h _=>h))) (frame_of hT (λk h _=>⟨by have h:wB.heap.size<=k:=h;show w.heap.size<=k;omega,hk k (by have h:wB.heap.size<=k:=h;omega)⟩))⟩
 have HE:=Lib.hid N;clear N hT hk U;go_wp2;obtain⟨z0,z1,z2,z3,z4,z5,z6⟩:=aG.out;refine bodyPost_ret (v := .agg #[.slice a1 V c1,.slice a2 W c2,.slice X Y c3,.slice Z n4 c4,.slice a5 n5 c5,.slice a6 n6 c6,.slice a7 Is.length c7]) (by simp[results,Tryz.results150,go_sem,z0,z1,z2,z3,z4,z5,z6]) rfl ?_;exact HE.out
end Go.Proofs.YtldheeicjnncoaaGreat
namespace Go.Proofs.YtldheeicjnncoaaGreat
open Go.RowKit
theorem tab_free {P:Pr}{U:List (List Int)}(hU:SeqOk P U) {d:Nat}(b:d<P.orders.length):(gt (tabTo U P.orders.length U.length) d).length=0↔¬d∈U.map dep:=by
 rcases tabTo_at P U U.length (Nat.le_refl _) d b with⟨h,h2⟩|⟨j,a,hjd,i⟩
 ·rw [h]
  refine⟨λ_ k => ?_,λ_=>rfl⟩;obtain⟨z,hz,e⟩:=List.mem_map.1 k;obtain⟨j,a,rfl⟩:=mem_gt hz;exact h2 j a e
 ·rw [i]
  refine⟨λl => ?_,λhn=>absurd (List.mem_map.2 ⟨_,gtMem a,hjd⟩) hn⟩;have m:=(hU.1 _ (gtMem a)).1.1;omega
section
variable {P:Pr}(G:Grp P)
include G
end
theorem l14Free_ok (P:Pr) (G:Grp P) (w:World) (pv uv:Value) (U:List (List Int)) (Sp Su:Nat->Prop) (M:PresV Sp w pv P) (O:Rows2 Su w uv U) (hU:SubB P U) :
  Calls Tryz.prog 239 #[pv,uv] w (Ret w λw' v=>Own w.heap.size w' v (natI (frI P U))):=by
 have hP:=G.v;have Q:=hP.n6;obtain⟨h1,_,_⟩:=G.seq_facts (G.subB hU);rw[<-hU.2] at h1;have R:=G.sub_len hU;have k:=λd (hd:d<P.orders.length)=>tab_free h1 hd;have l:=tabTo_len U P.orders.length U.length;obtain⟨vo,vp,vc,rfl,h3⟩:=M;have y:=PresP.box h3 28;have q:Ext w (w.alloc (.cells #[vo,vp,vc] 28)):=World.grownBy_alloc _ _ _;have S:=Rows2.ext O q;obtain⟨au,capu,rfl,_,_⟩:=Sl.shape O;obtain⟨V,eo,dQ,_,_,hc0,z,A,ew⟩:=y.at;simp only[Nat.zero_add] at z A;have a:=l12Table_ok P hP (w.alloc (.cells #[vo,vp,vc] 28)) (.agg #[V,eo,dQ]) _ U Any Su ⟨_,_,_,rfl,ew⟩ S h1 (by omega);obtain⟨T,hT⟩:∃T,T=tabTo U P.orders.length U.length:=⟨_,rfl⟩;obtain⟨N,W⟩:∃N,N=P.orders.length:=⟨_,rfl⟩;rw[<-hT] at a k l;rw[<-W] at k l Q;have HF:=Lib.hid (And.intro k (And.intro l W));clear k l hT W y O h1 R;go_enter Tryz.func239,Tryz.ntmps239;go_wp2_with fail
 clear hc0 z A;generalize X:w.alloc (.cells #[vo,vp,vc] 28)=w0 at *;clear X;refine Calls.mono a ?_;rintro e1 B ⟨tv,rfl,C,kA⟩;clear a;obtain⟨ta,tc,D,_,_⟩:=Sl.shape kA;rw[HF.out.2.1] at D;subst D;have HT:=Lib.hid kA;clear kA;go_wp2;go_loopw [6,7] (λov Y wr=>∃(d:Nat) (J:Value),J=ov/\Y=.int .i64 (d:Int)/\d<=N/\Ext B wr/\Own B.heap.size wr J (natI (frT U d))) (λ_ Y _=>N-(intOf Y).toNat)
 case atStart=>exact⟨0,_,rfl,rfl,by omega,World.grownBy_alloc _ _ _,own_lit0 (Nat.le_refl _) rfl⟩
 case round=>
  obtain⟨d,J,rfl,rfl,hd,E,hO⟩:=hrel;by_cases r:d<N
  ·have ai:(d:Int)<N:=by omega
   obtain⟨bb,off,a2,cap2,hab,_,_,hc,_⟩:=Rows2.at (Rows2.ext HT.out E) d (by rw[HF.out.2.1];exact r);subst hab;have b:=HF.out.1 d r;have m:=frT_len U d;obtain⟨L,hL⟩:∃L,L=(gt T d).length:=⟨_,rfl⟩;rw[<-hL] at hc b;clear hL;by_cases u:d∈U.map dep
   ·have F:(L:Int)≠0:=by
     have:L≠0:=λe=>(b.1 e) u;omega
    have i:=frT_no u;have K:=Lib.hid i;clear i b u m;have hb:((L:Int) == 0)=false:=by simpa using F
    clear F;go_wp2;go_roundw
    case rel=>exact⟨d+1,_,rfl,by go_num,by omega,E,by rw[K.out];exact hO⟩
    case measure=>simp[intOf];omega
   ·obtain rfl:L=0:=b.2 u
    have i:natI (frT U (d+1))=natI (frT U d)++[(d:Int)]:=by rw[frT_yes u];unfold natI;rw[List.map_append];rfl
    have H:(natI (frT U d)).length<=1000000:=by rw[natI_len];omega
    have K:=Lib.hid (And.intro i H);clear i H b u m;go_wp2_with (at_builtin;go_must (refine wp_app_int rfl _ _ rfl B.heap.size _ (natI (frT U d)) (d:Int) rfl wr hO rfl rfl K.out.2 E.size ?_);intro v5 w5 I Z)
    have aa:Ext B w5:=grown_own E Z (λj hj r=>by have:=(hO.lt j hj).1;omega);rw[<-K.out.1] at I;go_roundw
    case rel=>exact⟨d+1,_,rfl,by go_num,by omega,aa,I⟩
    case measure=>simp[intOf];omega
  ·have ab:d=N:=by omega
   have p:Own B.heap.size wr J (natI (frI P U)):=by
    have e:frI P U=frT U d:=by rw[ab,HF.out.2.2];rfl
    rw[e];exact hO
   have ac:=grown_trans q (grown_trans C E);have ad:=(grown_trans q C).size;have HX:=Lib.hid (p.weak ad);clear p hO;go_wp2;go_ret;exact⟨_,rfl,ac,HX.out⟩
theorem frI_le6 {P:Pr}(a:P.orders.length<=6) (U:List (List Int)):(frI P U).length<=6:=by
 have h:=frT_len U P.orders.length;have e:frT U P.orders.length=frI P U:=rfl;rw[e] at h;omega
theorem l15Project_ok (P:Pr) (hr:rconsB P=true) (w:World) (pv uv xv:Value) (U:List (List Int)) (X:List Int) (Sp Su Sx:Nat->Prop) (ai:PresV Sp w pv P) (hu:Rows2 Su w uv U) (hx:Ints Sx w xv X) (hU:SubB P U) (hX:Vec P.orders X) :
  Calls Tryz.prog 148 #[pv,uv,xv] w (Ret w λw' v=>Own w.heap.size w' v (prjV P U X)):=by
 have G:=grp_of_r hr;have hP:=G.v;have ak:=hP.n6;have S:=G.subB hU;have al:=frI_le6 ak U;have K:crOk P U X:=⟨⟨hr,hU⟩,hX⟩;have u:(prjV P U X).length=(frI P U).length:=by unfold prjV;rw[List.length_map]
 obtain⟨vo,vp,vc,rfl,h3⟩:=ai;have L:=PresP.box h3 28;have b:Ext w (w.alloc (.cells #[vo,vp,vc] 28)):=World.grownBy_alloc _ _ _;have y:=Rows2.ext hu b;have M:=Ints.ext hx b;obtain⟨au,capu,rfl,_,_⟩:=Sl.shape hu;obtain⟨ax,capx,rfl,_,_⟩:=hx.shape;obtain⟨e,eo,dQ,_,_,hc0,z,A,ew⟩:=L.at;simp only[Nat.zero_add] at z A;have N:∀w',Ext (w.alloc (.cells #[vo,vp,vc] 28)) w'->w'.cell? ⟨w.heap.size,0,none⟩=some e/\w'.cell? ⟨w.heap.size,1,none⟩=some eo/\w'.cell? ⟨w.heap.size,2,none⟩=some dQ:=λw' h=>⟨h.cell hc0 (by simp),h.cell z (by simp),h.cell A (by simp)⟩;have B:∀w',Ext (w.alloc (.cells #[vo,vp,vc] 28)) w'->PresV Any w' (.agg #[e,eo,dQ]) P:=λw' h=>⟨_,_,_,rfl,Pres3.ext ew h⟩
 have O:Calls Tryz.prog 238 #[.agg #[e,eo,dQ],.slice au U.length capu,.slice ax X.length capx] (w.alloc (.cells #[vo,vp,vc] 28)) (Ret (w.alloc (.cells #[vo,vp,vc] 28)) λw' v=>∃Y,Own (w.alloc (.cells #[vo,vp,vc] 28)).heap.size w' v Y/\IsRep P U X Y):=
  l12Sift_ok P G _ _ _ _ (gU P U) X Any Su Sx S (B _ (Ext.refl _)) (by rw[<-hU.2];exact y) M hX
 have Q:∀w',Ext (w.alloc (.cells #[vo,vp,vc] 28)) w'->Calls Tryz.prog 239 #[.agg #[e,eo,dQ],.slice au U.length capu] w' (Ret w' λam v=>Own w'.heap.size am v (natI (frI P U))):=λw' h=>l14Free_ok P G w' _ _ U Any Su (B w' h) (Rows2.ext y h) hU;obtain⟨m,hm⟩:∃m,m=(frI P U).length:=⟨_,rfl⟩;rw[<-hm] at al u;have aL:w.heap.size<=(w.alloc (.cells #[vo,vp,vc] 28)).heap.size:=b.size;have p:=Lib.hid (And.intro N (And.intro Q (And.intro u (And.intro K hm))));clear N Q K hm B L hu hx y M ew S u;go_enter Tryz.func148,Tryz.ntmps148;go_wp2_with fail
 clear hc0 z A;generalize ao:w.alloc (.cells #[vo,vp,vc] 28)=w0 at *;clear ao;refine Calls.mono O ?_;rintro e1 w1 ⟨v1,rfl,C,Y,hO,hR⟩;clear O;have D:=hR.1;have R:crV P U X=Y:=cr_ok p.out.2.2.2.1 hR;have E:=hO.ints (by rw[D.1];omega);obtain⟨ay,cy,rfl,_,_⟩:=E.shape;have HY:=Lib.hid (And.intro D (And.intro R E));clear D R E hO hR;obtain⟨ap,jw,jx⟩:=p.out.1 w1 C;go_wp2_with fail
 clear ap jw jx;refine Calls.mono (p.out.2.1 w1 C) ?_;rintro e2 V ⟨fv,rfl,W,hF2⟩;have F:Ints Any V fv (natI (frI P U)):=ints_of_own hF2 (by rw[natI_len,<-p.out.2.2.2.2];omega) (λ_ _=>trivial);obtain⟨fa,fc,jy,_,_⟩:=F.shape;rw[natI_len,<-p.out.2.2.2.2] at jy;subst jy;have q:=grown_trans C W;have HF:=Lib.hid F;clear F hF2;go_wp2;go_loopw [9,10] (λov iv wr=>∃(k:Nat) (v9:Value),v9=ov/\iv=.int .i64 (k:Int)/\k<=m/\Ext V wr/\Own V.heap.size wr v9 ((prjV P U X).take k)) (λ_ iv _=>m-(intOf iv).toNat)
 case atStart=>exact⟨0,_,rfl,rfl,by omega,World.grownBy_alloc _ _ _,own_lit0 (Nat.le_refl _) rfl⟩
 case round=>
  obtain⟨k,v9,rfl,rfl,hk,J,hO⟩:=hrel;have Z:=grown_trans q J;by_cases H:k<m
  ·have aF:(k:Int)<m:=by omega
   have a:k<(frI P U).length:=by rw[<-p.out.2.2.2.2];exact H
   obtain⟨bi,oi,hai,_,_,aa⟩:=Ints.at (Ints.ext HF.out J) k (by rw[natI_len];exact a);subst hai;have ab:gt (natI (frI P U)) k=((gt (frI P U) k:Nat):Int):=gt_map _ _ _ a;rw[ab] at aa
   have l:(prjV P U X).take (k+1)=(prjV P U X).take k++[gt Y (gt (frI P U) k)]:=by
    rw[take_succ_gt _ k (by rw[p.out.2.2.1];exact H),gt_prj a,HY.out.2.1]
   have I:gt (frI P U) k<P.orders.length:=(frI_mem.1 (gtMem a)).1;obtain⟨i,hi⟩:∃i,i=gt (frI P U) k:=⟨_,rfl⟩;rw[<-hi] at aa l I;obtain⟨aO,oy,jf,_,_,ar⟩:=Ints.at (Ints.ext HY.out.2.2 (grown_trans W J)) i (by rw[HY.out.1.1];exact I);subst jf;have aQ:(i:Int)<Y.length:=by rw[HY.out.1.1];omega
   have ac:((prjV P U X).take k).length<=1000000:=by rw[List.length_take];omega
   obtain⟨c,hc⟩:∃c,c=gt Y i:=⟨_,rfl⟩;rw[<-hc] at l ar;have HS:=Lib.hid (And.intro l ac);clear l ac hi a hc I ab;go_wp2_with (first|(at_builtin;refine wp_app_int rfl _ _ rfl V.heap.size _ ((prjV P U X).take k) c rfl wr hO rfl rfl HS.out.2 J.size ?_;intro v5 w5 ad av)|fail)
   have aw:Ext V w5:=grown_own J av (λj hj H=>by have:=(hO.lt j hj).1;omega);rw[<-HS.out.1] at ad;go_roundw
   case rel=>exact⟨k+1,_,rfl,by go_num,by omega,aw,ad⟩
   case measure=>simp[intOf];omega
  ·have aT:k=m:=by omega
   rw[List.take_of_length_le (by rw[p.out.2.2.1];omega)] at hO;have r:Own w.heap.size wr v9 (prjV P U X):=hO.weak (by have:=q.size;omega);have ae:Ext w wr:=grown_trans b Z;have HE:=Lib.hid (And.intro ae r);clear r hO ae J Z;go_wp2;go_ret;exact⟨_,rfl,HE.out.1,HE.out.2⟩
end Go.Proofs.YtldheeicjnncoaaGreat
