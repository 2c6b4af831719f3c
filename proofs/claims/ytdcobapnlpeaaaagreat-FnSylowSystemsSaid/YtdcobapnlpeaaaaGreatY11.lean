/- Merged from templates. -/
import Derived.Test.YtdcobapnlpeaaaaGreatY10
set_option maxRecDepth 100000
set_option maxHeartbeats 8000000
namespace Go.Proofs.YtdcobapnlpeaaaaGreat
open Go.RowKit
attribute [local go_sem ↓] Go.wp_at_zero Go.wp_at_succ
theorem yx (w:World) (v:Value) (l:List Int) (S:Nat->Prop) (m:Ints S w v l) (q:l.length<=1048576) :
  Calls Tryz.prog 199 #[v] w (Ret w λw' r=>Own w.heap.size w' r l/\∃g c,r=.slice (some ⟨g,0,none⟩) l.length c/\w.heap.size<=g):=by
 obtain⟨a,cap,rfl,_,_⟩:=m.shape;go_enter Tryz.func199,Tryz.ntmps199;go_wp2_with (at_builtin;refine wp_app_ints rfl _ _ rfl w.heap.size _ [] rfl (World.ownsRow_lit w #[] 0 (Nat.le_refl _) (by decide) rfl) _ l rfl S (m.ext (World.grownBy_alloc _ _ _)) (by simp;omega) (by simp) ?_;intro u y b i k)
 go_ret;refine⟨_,rfl,grown_own (World.grownBy_alloc _ _ _) i (λj n p=>by have:=own_blk n;omega),b,?_⟩;rcases b.v.form with⟨h1,_⟩|⟨g,c,h1,_,h2,_⟩
 ·exact absurd (k.1 h1).1 (by intro e;cases e)
 ·exact⟨g,c,by rw[h1];simp,h2⟩
def sJ (w0:World) (o:List Int) (q:Value) (a:World):Prop:=∃pb b co ap e g i,q=.pointer (some ⟨pb,0,none⟩)/\Ext w0 a /\
 BX 40 o w0.heap.size pb a (.slice b o.length co) (.slice ap o.length e) (.slice g o.length i)
theorem sK {w0 g b:World}{o:List Int}{pb co i j:Nat}{l ap m:Option Addr}{B:Nat}(p:o.length<=40) (q:PresX (From B) g (.slice l o.length co) (.slice ap o.length i) (.slice m o.length j) (trivP o)) (hB:w0.heap.size<=B) (r:w0.heap.size<=pb)
  (u:pb<B\/g.heap.size<=pb) (v:Ext w0 b) (n:g.grownBy b (some pb)) (w:Box3 b pb (.slice l o.length co) (.slice ap o.length i) (.slice m o.length j)):sJ w0 o (.pointer (some ⟨pb,0,none⟩)) b:=
 ⟨pb,l,co,ap,i,m,j,rfl,v,r,w,trivP o,trivP_shp o p,rfl,q.mono (λk hk a=>by
  have y:B<=k:=hk;exact⟨⟨by omega,by omega⟩,Nat.lt_of_lt_of_le a n.size,n.block k a (λe=>by cases e;omega)⟩)⟩
theorem yy (w:World) (pa pb:Value) (A B:Pr) (Sa Sb:Nat->Prop) (ha:PresV Sa w pa A) (hb:PresV Sb w pb B) (hA:Shp 20 A) (hB:Shp 20 B) :
  Calls Tryz.prog 291 #[pa,pb] w (Ret w (PresN 40 w.heap.size)):=by
 obtain⟨vo,vp,vc,rfl,h3⟩:=ha;obtain⟨uo,up,uc,rfl,k3⟩:=hb;obtain⟨ao,ax,lU,_,_⟩:=h3.o.shape;obtain⟨ap,cap,hv2,_,_⟩:=Sl.shape h3.p;obtain⟨ac,ay,hv3,_,_⟩:=Sl.shape h3.c;obtain⟨bo,aA,lV,_,_⟩:=k3.o.shape;obtain⟨bp,aB,yz,_,_⟩:=Sl.shape k3.p;obtain⟨bc,aC,yA,_,_⟩:=Sl.shape k3.c;subst lU hv2 hv3 lV yz yA;obtain⟨w0,ae⟩:∃w0,w0=((w.alloc (.cells #[.slice ao A.orders.length ax,.slice ap A.powers.length cap,.slice ac A.conj.length ay] 28)).alloc (.cells #[.slice bo B.orders.length aA,.slice bp B.powers.length aB,.slice bc B.conj.length aC] 28)).alloc (.cells #[.slice none 0 0,.slice none 0 0,.slice none 0 0] 28):=⟨_,rfl⟩;have bK:Ext w w0:=by rw[ae];exact grown_trans (World.grownBy_alloc _ _ _) (grown_trans (World.grownBy_alloc _ _ _) (World.grownBy_alloc _ _ _))
 have bk:Box3 w0 w.heap.size (.slice ao A.orders.length ax) (.slice ap A.powers.length cap) (.slice ac A.conj.length ay):=by rw[ae];exact((Box3.made w 28 _ _ _).ext (World.grownBy_alloc _ _ _)).ext (World.grownBy_alloc _ _ _)
 have bl:Box3 w0 (w.heap.size+1) (.slice bo B.orders.length aA) (.slice bp B.powers.length aB) (.slice bc B.conj.length aC):=by
  have h:=(Box3.made (w.alloc (.cells #[.slice ao A.orders.length ax,.slice ap A.powers.length cap,.slice ac A.conj.length ay] 28)) 28 (.slice bo B.orders.length aA) (.slice bp B.powers.length aB) (.slice bc B.conj.length aC)).ext (World.grownBy_alloc _ (.cells #[.slice none 0 0,.slice none 0 0,.slice none 0 0] 28) _);rw[ae];simpa using h
 have bm:Box3 w0 (w.heap.size+1+1) (.slice none 0 0) (.slice none 0 0) (.slice none 0 0):=by
  have h:=Box3.made ((w.alloc (.cells #[.slice ao A.orders.length ax,.slice ap A.powers.length cap,.slice ac A.conj.length ay] 28)).alloc (.cells #[.slice bo B.orders.length aA,.slice bp B.powers.length aB,.slice bc B.conj.length aC] 28)) 28 (.slice none 0 0) (.slice none 0 0) (.slice none 0 0);rw[ae];simpa using h
 have aQ:w0.heap.size=w.heap.size+3:=by rw[ae];simp
 have L:=Lib.hid (And.intro bk (And.intro bl (And.intro bm (And.intro aQ (And.intro hA hB)))));clear bk bl bm aQ hA hB;go_enter Tryz.func291,Tryz.ntmps291;go_wp2_with fail
 rw[<-ae];clear ae;obtain⟨_,f0,f1,f2,_⟩:=id L.out.1;obtain⟨_,g0,g1,g2,_⟩:=id L.out.2.1;go_quiet (fail)
 rename_i nq _;obtain⟨M,a1⟩:∃M,M=w0.drewN nq:=⟨_,rfl⟩;have aD:Ext w0 M:=by rw[a1];exact grown_drewN _ _ _
 rw[<-a1];clear a1 f0 f1 f2 g0 g1 g2;have a2:=grown_trans bK aD;have a3:=h3.ext a2;have a4:=k3.ext a2;have bn:=L.out.1.ext aD;have bq:=L.out.2.1.ext aD;have br:=L.out.2.2.1.ext aD;have a7:=L.out.2.2.2.2.1;have a9:=L.out.2.2.2.2.2;have aQ:=L.out.2.2.2.1;have b7:=aD.size;clear L h3 k3;have b8:A.orders.length<=20:=a7.n;have b9:B.orders.length<=20:=a9.n;obtain⟨o,ho⟩:∃o,o=A.orders++B.orders:=⟨_,rfl⟩;have bs:o.length=A.orders.length+B.orders.length:=by rw[ho];simp
 have aF:o.length<=40:=by omega
 have L:=Lib.hid (And.intro bn (And.intro bq (And.intro br (And.intro a7 (And.intro a9 (And.intro ho (And.intro bs aQ)))))));clear bn bq br a7 a9 ho bs;have e0:∀w',Ext M w'->w'.cell? ⟨w.heap.size,0,none⟩=some (.slice ao A.orders.length ax):=λw' h=>(L.out.1.ext h).2.1;have e1:∀w',Ext M w'->w'.cell? ⟨w.heap.size+1,0,none⟩=some (.slice bo B.orders.length aA):=λw' h=>(L.out.2.1.ext h).2.1;go_wp2_with fail
 go_cut [7] (λqv wx=>sJ M o qv wx)
 case first=>
  go_region_held3 (λw'=>Ext M w') (first|exact grown_drew _ _|assumption|exact grown_trans (by assumption) (World.grownBy_alloc _ _ _)|exact grown_own (by assumption) (grown_set3 _ _ _ _ _) (λj hj D=>by cases hj;first|(exact absurd D (Nat.lt_irrefl _))|(have:=sL.size;omega)|(have:=aV.size;omega)|(have:=sM.size;omega)))
   (first
    | (go_at_call 199;refine Calls.mono (Calls.rel2 (w0:=M) (by assumption) (yx _ _ A.orders Sa (Ints.ext a3.o (by assumption)) (by omega))) ?_;rintro eO wO ⟨vO,rfl,sL,aW,bt,a',gO,cO,rfl,bu⟩;(first|(have hQ:=Box3.ext (Box3.made _ _ _ _ _) aW)|(have hQ:=Box3.ext (Box3.made _ _ _ _ _) (grown_trans (grown_drew _ _) aW))|skip);(try obtain⟨f0,f1,f2,f3,f4⟩:=id hQ))
    | (refine sI rfl _ _ rfl M.heap.size gO cO A.orders.length A.orders B.orders rfl (by rfl) (by first|exact a'.weak bt|exact(a'.weak bt).ext0 (World.grownBy_alloc _ _ _)) _ Sb (Ints.ext a4.o (by assumption)) (by rfl) (by omega) ((show Ext M _ by assumption).size) ?_;intro v8 w8 ba aG;rw[<-L.out.2.2.2.2.2.1] at ba;obtain⟨a8,c8,j7,_⟩:=(ba.ints (by omega)).shape;subst j7;have bv:=Ints.sub (ba.ints (by omega)) (S':=Any) (λ_ _ _=>trivial);have aV:Ext M w8:=grown_own (by assumption) aG (λj hj D=>by cases hj;omega);(first|(have hQ:=Box3.keep hQ aG.size (aG.block _ hQ.1 (λe=>by cases e;first|omega|(simp[World.drew] at bu<;>omega))))|(have hQ:=Box3.keep (Box3.made wO 28 (.slice none 0 0) (.slice none 0 0) (.slice none 0 0)) aG.size (aG.block _ (by simp) (λe=>by cases e;exact absurd (show wO.heap.size<wO.heap.size from(a'.lt _ rfl).2) (Nat.lt_irrefl _))))|skip);(try obtain⟨f0,f1,f2,f3,f4⟩:=id hQ))
    | (go_at_call 292;refine Calls.mono (Calls.rel2 (w0:=M) (by assumption) (l07Trivial_ok _ _ o Any (by first|exact bv|exact Ints.ext bv (World.grownBy_alloc _ _ _)) (Nat.le_trans aF (by decide)))) ?_;rintro eT wT ⟨vT,rfl,sM,aX,bw,vo,vp,vc,rfl,G⟩;obtain⟨xo,co,xp,cp,xc,cc,rfl,rfl,rfl⟩:=trivX_shape G;(try have hQ:=Box3.ext hQ aX);(first|(have hQ:=Box3.ext (Box3.made _ _ _ _ _) aX)|skip);(try obtain⟨f0,f1,f2,f3,f4⟩:=id hQ)))
  all_goals (try go_wp2_with fail)
  all_goals go_meet
  all_goals
   have cg:=sL.size;have ch:=aV.size;have ci:=sM.size
   first
    | exact sK aF G bw (by omega) (.inr (Nat.le_refl _)) (grown_trans (by assumption) (World.grownBy_alloc _ _ _)) (World.grownBy_alloc _ _ _) (Box3.made _ _ _ _ _)
    | exact sK aF G bw (by omega) (.inl (by first|omega|(simp;done)|(simp;omega))) (by assumption) (grown_set3 _ _ _ _ _) (hQ.all _ _ _)
  done
 case rest =>
  obtain⟨rb,xo,co,xp,cp,xc,cc,rfl,aH,H⟩:=hcut;clear e0 e1;go_wp2;go_loopw [8] (λiv wr=>∃i:Nat,iv=.int .i64 i/\i<=A.orders.length/\Ext M wr/\BX 40 o M.heap.size rb wr (.slice xo o.length co) (.slice xp o.length cp) (.slice xc o.length cc)) (λiv _=>A.orders.length-(intOf iv).toNat)
  case atStart=>exact⟨0,rfl,by omega,aH,H⟩
  case round=>
   clear H aH;obtain⟨i,rfl,hi,F,H⟩:=hrel;by_cases D:i<A.orders.length
   ·have an:(i:Int)<A.orders.length:=by omega
    have m:=L.out.2.2.2.1;have E:=L.out.2.2.2.2.2.2.1;have bx:=L.out.2.2.2.2.2.2.2;have aI:i<A.powers.length:=by rw[m.p];exact D
    have bz:(i:Int)<A.powers.length:=by omega
    have cj:((i:Nat):Int)<o.length:=by omega
    have hK:i=i:=rfl;obtain⟨g,capg,z,fF,hgB,jO,hgl,aJ,aK⟩:=H.storeP i (by omega);obtain⟨rfl,rfl⟩:xp=some ⟨g,0,none⟩/\cp=capg:=by cases fF;exact⟨rfl,rfl⟩
    clear fF;obtain⟨b2,o2,az,X,aL,_,yB,u,q⟩:=Rows2.at a3.p i aI;have ag:=F.cell u (by simp);have N:=m.pv _ (gtMem aI);obtain⟨O,P⟩:∃O,O=gt A.powers i:=⟨_,rfl⟩;rw[<-P] at ag q N;clear P u;have U:=L.out.1.ext F;have e1:∀w',Near wr g w'->w'.cell? ⟨rb,1,none⟩=some (.slice (some ⟨g,0,none⟩) o.length cp):=λw' h=>h.cell H.box.2.2.1 (by simp;omega);have e2:∀w',Near wr g w'->w'.cell? ⟨w.heap.size,1,none⟩=some (.slice (some ⟨b2,o2,none⟩) A.powers.length cap):=λw' h=>h.cell (by rw[<-aL];exact U.2.2.1) (by simp;omega);have e3:∀w',Near wr g w'->w'.cell? ⟨b2,o2+i,none⟩=some (.slice az O.length X):=λw' h=>h.cell ag (by simp;omega)
    have y:∀w',Ext wr w'->Calls Tryz.prog 321 #[.int .i64 0,.slice az O.length X,.int .i64 B.orders.length] w' (Ret w' λah r=>∃l,l.length<=40/\Own w'.heap.size ah r l):=λw' he=>
     Calls.mono (l07Shift_ok w' 0 _ O B.orders.length _ (Ints.ext q (grown_trans F he)) (by omega)) (λe w2 ⟨v,h1,h2,h3⟩=>⟨v,h1,h2,_,by rw[shiftL_len];omega,h3⟩)
    have T:=Lib.hid (And.intro H (And.intro aK (And.intro aJ (And.intro y (And.intro m (And.intro E hK))))));clear H aK aJ y ag q N U m E aL hK;go_wp2
    go_region_held3 (λw'=>Near wr g w') (first|exact Near.of (grown_drew _ _)|exact Near.of (by assumption)|exact Near.store (by assumption)|assumption)
     (first
      | (go_at_call 321;refine Calls.mono (Calls.rel (w0:=wr) (by first|exact grown_drew _ _|assumption) (T.out.2.2.2.1 _ (by first|exact grown_drew _ _|assumption))) ?_;rintro eE S ⟨vE,rfl,a,gF,lE,C,I⟩;obtain⟨aE,cE,fQ,_⟩:=(I.ints (Nat.le_trans C (by decide))).shape;subst fQ;have V:=(T.out.2.2.1 S a).1;have ai:=(T.out.2.2.1 S a).2))
    have G:=T.out.2.1 S _ lE a (OwnIn.of I (Nat.le_trans C (by decide)) (λk hk _=>Nat.le_trans (by assumption) hk)) C;have W:Ext M (S.setCell ⟨g,i,none⟩ (.slice aE lE.length cE)):=grown_own (grown_trans F a) (grown_set1 _ _ _ _) (λj hj D=>by cases hj;omega);have m:=T.out.2.2.2.2.1;have E:=T.out.2.2.2.2.2.1;have aM:i<A.conj.length:=by rw[m.c];exact D
    have bB:(i:Int)<A.conj.length:=by omega
    have hK:=T.out.2.2.2.2.2.2;obtain⟨b3,o3,a5,lW,J,_,yC,u,q⟩:=Rows3.at a3.c i aM;have Q:=m.cl i D;have aj:∀v∈gt A.conj i,v.length<=20:=λv hv=>m.cv _ (gtMem aM) v hv;obtain⟨R,hR⟩:∃R,R=gt A.conj i:=⟨_,rfl⟩;rw[<-hR] at u q Q aj;have HC:=Lib.hid (And.intro Q (And.intro aj (And.intro E (And.intro hK (And.intro J q)))));clear Q aj E hK J q m hR T;clear V ai e1 e2 e3;clear a I C gF F;go_wp2;generalize S.setCell ⟨g,i,none⟩ (.slice aE lE.length cE)=w7 at *;go_loopw [9] (λjv wr=>∃j:Nat,jv=.int .i64 j/\j<=R.length/\Ext M wr/\BX 40 o M.heap.size rb wr (.slice xo o.length co) (.slice (some ⟨g,0,none⟩) o.length cp) (.slice xc o.length cc)) (λjv _=>R.length-(intOf jv).toNat)
    case atStart=>exact⟨0,rfl,by omega,W,G⟩
    case round=>
     clear G W;obtain⟨j,rfl,hj,F,H⟩:=hrel;have U:=L.out.1.ext F;have q:=HC.out.2.2.2.2.2;have J:=HC.out.2.2.2.2.1;have d2:=U.2.2.2.1;rw[J] at d2;have d3:=F.cell u (by simp);by_cases Y:j<R.length
     ·have ak:(j:Int)<R.length:=by omega
      have Q:=HC.out.1;have E:=HC.out.2.2.1;have hK:=HC.out.2.2.2.1;have aN:j<o.length-1-i:=by omega
      obtain⟨gc,capc,b,aO,z2,fM,hcB,gC,V,hcell,jP,nD,hbg,hbl,Z,aa⟩:=H.storeC i j (by omega) aN;obtain⟨rfl,rfl⟩:xc=some ⟨gc,0,none⟩/\cc=capc:=by cases fM;exact⟨rfl,rfl⟩
      clear fM;obtain⟨b6,o6,a6,ab,rfl,_,yD,lX,al⟩:=Rows2.at q j Y;have am:=F.cell lX (by simp);have N:=HC.out.2.1 _ (gtMem Y);obtain⟨O,P⟩:∃O,O=gt R j:=⟨_,rfl⟩;rw[<-P] at am al N;clear P lX;have e1:∀w',Near wr b w'->w'.cell? ⟨rb,2,none⟩=some (.slice (some ⟨gc,0,none⟩) o.length cc):=λw' h=>h.cell H.box.2.2.2.1 (by simp;omega);have e2:∀w',Near wr b w'->w'.cell? ⟨gc,i,none⟩=some (.slice (some ⟨b,0,none⟩) (o.length-1-i) aO):=λw' h=>h.cell hcell (by simp;omega);have e3:∀w',Near wr b w'->w'.cell? ⟨w.heap.size,2,none⟩=some (.slice (some ⟨b3,o3,none⟩) A.conj.length ay):=λw' h=>h.cell d2 (by simp;omega);have e4:∀w',Near wr b w'->w'.cell? ⟨b3,o3+i,none⟩=some (.slice (some ⟨b6,o6,none⟩) R.length lW):=λw' h=>h.cell d3 (by simp;omega);have e5:∀w',Near wr b w'->w'.cell? ⟨b6,o6+j,none⟩=some (.slice a6 O.length ab):=λw' h=>h.cell am (by simp;omega)
      have y:∀w',Ext wr w'->Calls Tryz.prog 321 #[.int .i64 0,.slice a6 O.length ab,.int .i64 B.orders.length] w' (Ret w' λah r=>∃l,l.length<=40/\Own w'.heap.size ah r l):=λw' he=>
       Calls.mono (l07Shift_ok w' 0 _ O B.orders.length _ (Ints.ext al (grown_trans F he)) (by omega)) (λe w2 ⟨v,h1,h2,h3⟩=>⟨v,h1,h2,_,by rw[shiftL_len];omega,h3⟩)
      have bT:(j:Int)<((o.length-1-i:Nat):Int):=by omega
      have bU:(i:Int)<o.length:=by omega
      have HY:=Lib.hid (And.intro aa (And.intro Z y));clear aa Z y hcell am al N H;go_wp2;clear d2 d3;clear Q E hK J aN
      go_region_held3 (λw'=>Near wr b w') (first|exact Near.of (grown_drew _ _)|exact Near.of (by assumption)|exact Near.store (by assumption)|assumption)
       (first
        | (go_at_call 321;refine Calls.mono (Calls.rel (w0:=wr) (by first|exact grown_drew _ _|assumption) (HY.out.2.2 _ (by first|exact grown_drew _ _|assumption))) ?_;rintro eE S ⟨vE,rfl,a,gF,lE,C,I⟩;obtain⟨aE,cE,fQ,_⟩:=(I.ints (Nat.le_trans C (by decide))).shape;subst fQ;have V:=(HY.out.2.1 S a).1;have ai:=(HY.out.2.1 S a).2))
      have G:=HY.out.1 S _ lE a (OwnIn.of I (Nat.le_trans C (by decide)) (λk hk _=>Nat.le_trans (by assumption) hk)) C;have W:Ext M (S.setCell ⟨b,j,none⟩ (.slice aE lE.length cE)):=grown_own (grown_trans F a) (grown_set1 _ _ _ _) (λj hj D=>by cases hj;omega);clear V ai e1 e2 e3 e4 e5;go_wp2;go_roundw
      case rel=>exact⟨j+1,by go_num,by omega,W,G⟩
      case measure=>simp[intOf];omega
     ·have ak:¬((j:Int)<R.length):=by omega
      clear J;go_wp2;go_roundw
      case rel=>exact⟨i+1,by go_num,by omega,F,H⟩
      case measure=>simp[intOf];omega
   ·have an:¬((i:Int)<A.orders.length):=by omega
    go_wp2;have aH:=F;clear F hi D an;go_loopw [10] (λiv wr=>∃i:Nat,iv=.int .i64 i/\i<=B.orders.length/\Ext M wr/\BX 40 o M.heap.size rb wr (.slice xo o.length co) (.slice xp o.length cp) (.slice xc o.length cc)) (λiv _=>B.orders.length-(intOf iv).toNat)
    case atStart=>exact⟨0,rfl,by omega,aH,H⟩
    case round=>
     clear H aH;obtain⟨i,rfl,hi,F,H⟩:=hrel;by_cases D:i<B.orders.length
     ·have an:(i:Int)<B.orders.length:=by omega
      have m:=L.out.2.2.2.2.1;have E:=L.out.2.2.2.2.2.2.1;have bx:=L.out.2.2.2.2.2.2.2;have aI:i<B.powers.length:=by rw[m.p];exact D
      have bz:(i:Int)<B.powers.length:=by omega
      obtain⟨K,hK⟩:∃K,K=(A.orders.length+i):=⟨_,rfl⟩;obtain⟨g,capg,z,fF,hgB,jO,hgl,aJ,aK⟩:=H.storeP K (by omega);obtain⟨rfl,rfl⟩:xp=some ⟨g,0,none⟩/\cp=capg:=by cases fF;exact⟨rfl,rfl⟩
      clear fF;obtain⟨b2,o2,az,X,aL,_,yB,u,q⟩:=Rows2.at a4.p i aI;have ag:=F.cell u (by simp);have N:=m.pv _ (gtMem aI);obtain⟨O,P⟩:∃O,O=gt B.powers i:=⟨_,rfl⟩;rw[<-P] at ag q N;clear P u;have U:=L.out.2.1.ext F;have e1:∀w',Near wr g w'->w'.cell? ⟨rb,1,none⟩=some (.slice (some ⟨g,0,none⟩) o.length cp):=λw' h=>h.cell H.box.2.2.1 (by simp;omega);have e2:∀w',Near wr g w'->w'.cell? ⟨w.heap.size+1,1,none⟩=some (.slice (some ⟨b2,o2,none⟩) B.powers.length aB):=λw' h=>h.cell (by rw[<-aL];exact U.2.2.1) (by simp;omega);have e3:∀w',Near wr g w'->w'.cell? ⟨b2,o2+i,none⟩=some (.slice az O.length X):=λw' h=>h.cell ag (by simp;omega)
      have y:∀w',Ext wr w'->Calls Tryz.prog 321 #[.int .i64 A.orders.length,.slice az O.length X,.int .i64 0] w' (Ret w' λah r=>∃l,l.length<=40/\Own w'.heap.size ah r l):=λw' he=>
       Calls.mono (l07Shift_ok w' A.orders.length _ O 0 _ (Ints.ext q (grown_trans F he)) (by omega)) (λe w2 ⟨v,h1,h2,h3⟩=>⟨v,h1,h2,_,by rw[shiftL_len];omega,h3⟩)
      have T:=Lib.hid (And.intro H (And.intro aK (And.intro aJ (And.intro y (And.intro m (And.intro E hK))))));clear H aK aJ y ag q N U m E aL hK;go_wp2;have bh:=lT ((A.orders.length:Int)+i) (K:Int) (by rw[T.out.2.2.2.2.2.2];omega) (by omega);obtain⟨q1,q2⟩:=bh;have cm:(K:Int)<o.length:=by clear q1 q2;have:=T.out.2.2.2.2.2.2;have:=T.out.2.2.2.2.2.1;omega
      go_region_held3 (λw'=>Near wr g w') (first|exact Near.of (grown_drew _ _)|exact Near.of (by assumption)|exact Near.store (by assumption)|assumption)
       (first
        | (go_at_call 321;refine Calls.mono (Calls.rel (w0:=wr) (by first|exact grown_drew _ _|assumption) (T.out.2.2.2.1 _ (by first|exact grown_drew _ _|assumption))) ?_;rintro eE S ⟨vE,rfl,a,gF,lE,C,I⟩;obtain⟨aE,cE,fQ,_⟩:=(I.ints (Nat.le_trans C (by decide))).shape;subst fQ;have V:=(T.out.2.2.1 S a).1;have ai:=(T.out.2.2.1 S a).2))
      clear q1 q2;have G:=T.out.2.1 S _ lE a (OwnIn.of I (Nat.le_trans C (by decide)) (λk hk _=>Nat.le_trans (by assumption) hk)) C;have W:Ext M (S.setCell ⟨g,K,none⟩ (.slice aE lE.length cE)):=grown_own (grown_trans F a) (grown_set1 _ _ _ _) (λj hj D=>by cases hj;omega);have m:=T.out.2.2.2.2.1;have E:=T.out.2.2.2.2.2.1;have aM:i<B.conj.length:=by rw[m.c];exact D
      have bB:(i:Int)<B.conj.length:=by omega
      have hK:=T.out.2.2.2.2.2.2;obtain⟨b3,o3,a5,lW,J,_,yC,u,q⟩:=Rows3.at a4.c i aM;have Q:=m.cl i D;have aj:∀v∈gt B.conj i,v.length<=20:=λv hv=>m.cv _ (gtMem aM) v hv;obtain⟨R,hR⟩:∃R,R=gt B.conj i:=⟨_,rfl⟩;rw[<-hR] at u q Q aj;have HC:=Lib.hid (And.intro Q (And.intro aj (And.intro E (And.intro hK (And.intro J q)))));clear Q aj E hK J q m hR T;clear V ai e1 e2 e3;clear a I C gF F;go_wp2;generalize S.setCell ⟨g,K,none⟩ (.slice aE lE.length cE)=w7 at *;go_loopw [11] (λjv wr=>∃j:Nat,jv=.int .i64 j/\j<=R.length/\Ext M wr/\BX 40 o M.heap.size rb wr (.slice xo o.length co) (.slice (some ⟨g,0,none⟩) o.length cp) (.slice xc o.length cc)) (λjv _=>R.length-(intOf jv).toNat)
      case atStart=>exact⟨0,rfl,by omega,W,G⟩
      case round=>
       clear G W;obtain⟨j,rfl,hj,F,H⟩:=hrel;have U:=L.out.2.1.ext F;have q:=HC.out.2.2.2.2.2;have J:=HC.out.2.2.2.2.1;have d2:=U.2.2.2.1;rw[J] at d2;have d3:=F.cell u (by simp);by_cases Y:j<R.length
       ·have ak:(j:Int)<R.length:=by omega
        have Q:=HC.out.1;have E:=HC.out.2.2.1;have hK:=HC.out.2.2.2.1;have aN:j<o.length-1-K:=by omega
        obtain⟨gc,capc,b,aO,z2,fM,hcB,gC,V,hcell,jP,nD,hbg,hbl,Z,aa⟩:=H.storeC K j (by omega) aN;obtain⟨rfl,rfl⟩:xc=some ⟨gc,0,none⟩/\cc=capc:=by cases fM;exact⟨rfl,rfl⟩
        clear fM;obtain⟨b6,o6,a6,ab,rfl,_,yD,lX,al⟩:=Rows2.at q j Y;have am:=F.cell lX (by simp);have N:=HC.out.2.1 _ (gtMem Y);obtain⟨O,P⟩:∃O,O=gt R j:=⟨_,rfl⟩;rw[<-P] at am al N;clear P lX;have e1:∀w',Near wr b w'->w'.cell? ⟨rb,2,none⟩=some (.slice (some ⟨gc,0,none⟩) o.length cc):=λw' h=>h.cell H.box.2.2.2.1 (by simp;omega);have e2:∀w',Near wr b w'->w'.cell? ⟨gc,K,none⟩=some (.slice (some ⟨b,0,none⟩) (o.length-1-K) aO):=λw' h=>h.cell hcell (by simp;omega);have e3:∀w',Near wr b w'->w'.cell? ⟨w.heap.size+1,2,none⟩=some (.slice (some ⟨b3,o3,none⟩) B.conj.length aC):=λw' h=>h.cell d2 (by simp;omega);have e4:∀w',Near wr b w'->w'.cell? ⟨b3,o3+i,none⟩=some (.slice (some ⟨b6,o6,none⟩) R.length lW):=λw' h=>h.cell d3 (by simp;omega);have e5:∀w',Near wr b w'->w'.cell? ⟨b6,o6+j,none⟩=some (.slice a6 O.length ab):=λw' h=>h.cell am (by simp;omega)
        have y:∀w',Ext wr w'->Calls Tryz.prog 321 #[.int .i64 A.orders.length,.slice a6 O.length ab,.int .i64 0] w' (Ret w' λah r=>∃l,l.length<=40/\Own w'.heap.size ah r l):=λw' he=>
         Calls.mono (l07Shift_ok w' A.orders.length _ O 0 _ (Ints.ext al (grown_trans F he)) (by omega)) (λe w2 ⟨v,h1,h2,h3⟩=>⟨v,h1,h2,_,by rw[shiftL_len];omega,h3⟩)
        have bT:(j:Int)<((o.length-1-K:Nat):Int):=by omega
        have bU:(K:Int)<o.length:=by omega
        have HY:=Lib.hid (And.intro aa (And.intro Z y));clear aa Z y hcell am al N H;go_wp2;clear d2 d3;have bh:=lT ((A.orders.length:Int)+i) (K:Int) (by rw[hK];omega) (by omega);obtain⟨q1,q2⟩:=bh;clear Q E hK J aN
        go_region_held3 (λw'=>Near wr b w') (first|exact Near.of (grown_drew _ _)|exact Near.of (by assumption)|exact Near.store (by assumption)|assumption)
         (first
          | (go_at_call 321;refine Calls.mono (Calls.rel (w0:=wr) (by first|exact grown_drew _ _|assumption) (HY.out.2.2 _ (by first|exact grown_drew _ _|assumption))) ?_;rintro eE S ⟨vE,rfl,a,gF,lE,C,I⟩;obtain⟨aE,cE,fQ,_⟩:=(I.ints (Nat.le_trans C (by decide))).shape;subst fQ;have V:=(HY.out.2.1 S a).1;have ai:=(HY.out.2.1 S a).2))
        clear q1 q2;have G:=HY.out.1 S _ lE a (OwnIn.of I (Nat.le_trans C (by decide)) (λk hk _=>Nat.le_trans (by assumption) hk)) C;have W:Ext M (S.setCell ⟨b,j,none⟩ (.slice aE lE.length cE)):=grown_own (grown_trans F a) (grown_set1 _ _ _ _) (λj hj D=>by cases hj;omega);clear V ai e1 e2 e3 e4 e5;go_wp2;go_roundw
        case rel=>exact⟨j+1,by go_num,by omega,W,G⟩
        case measure=>simp[intOf];omega
       ·have ak:¬((j:Int)<R.length):=by omega
        clear J;go_wp2;go_roundw
        case rel=>exact⟨i+1,by go_num,by omega,F,H⟩
        case measure=>simp[intOf];omega
     ·have an:¬((i:Int)<B.orders.length):=by omega
      obtain⟨h0,h1,h2,h3',h4⟩:=id H.box;have hz:=L.out.2.2.1.ext F;have bx:=L.out.2.2.2.2.2.2.2;obtain⟨k0,k1,k2,k3,k4⟩:=id hz;have hZ:=hz.all (.slice xo o.length co) (.slice xp o.length cp) (.slice xc o.length cc);have hT:=grown_set3 wr (w.heap.size+1+1) (.slice xo o.length co) (.slice xp o.length cp) (.slice xc o.length cc);obtain⟨_,z0,z1,z2,_⟩:=id hZ;have HQ:=Lib.hid (And.intro hT H);clear hT hZ H;go_wp2;refine bodyPost_ret (v := .agg #[.slice xo o.length co,.slice xp o.length cp,.slice xc o.length cc]) (by simp[results,Tryz.results291,go_sem,z0,z1,z2]) rfl ?_;exact⟨_,rfl,grown_own (grown_trans a2 F) HQ.out.1 (λj hj D=>by cases hj;omega),(HQ.out.2.ret HQ.out.1 (by omega)).weak (by omega)⟩
theorem Valid.pW {P:Pr}(h:Valid P):Shp 6 P:=
 ⟨h.n6,h.pl,h.cl,λi a=>(h.cv i a).1,λv b=>by
  obtain⟨i,a,rfl⟩:=List.getElem_of_mem b;have:=(h.pv i (by rw[<-h.pl];exact a)).1.1;rw[gt_eq _ i a] at this;have:=h.n6;omega,λr j v b=>by
  obtain⟨i,a,rfl⟩:=List.getElem_of_mem j;obtain⟨k,hk,rfl⟩:=List.getElem_of_mem b;have e:i<P.orders.length:=by rw[<-h.cl];exact a
  obtain⟨h1,g⟩:=h.cv i e;rw[gt_eq _ i a] at h1 g;have:=(g k (by rw[<-h1];exact hk)).1.1;rw[gt_eq _ k hk] at this;have:=h.n6;omega⟩
def j9 (a:Int) (Q:Pr):Prop:=Valid Q->ordP Q<=a\/ordP Q<=2
theorem sN {Q:Pr}(h:Valid Q):capTo Q.orders Q.orders.length=ordP Q:=
 (capTo_le Q.orders.length (λi a=>by have:=h.ord7 i a;omega)).2 ((capTo_le Q.orders.length (λi a=>by have:=h.ord7 i a;omega)).1.2 h.le729)
def sO (C:Pr->Prop) (B:Nat) (w':World) (v:Value):Prop:=∃(vo vp vc:Value) (Q:Pr),v=.agg #[vo,vp,vc]/\Valid Q/\Pres3 (From B) w' vo vp vc Q/\C Q
theorem pX {w b:World}{sb l B:Nat}{x y z:Value}{Q:Pr}(m:w.grownBy b (some sb)) (u:w.heap.size<B) (g:Src l b sb) (n:l<=w.heap.size) {C:Pr->Prop}(p:Valid Q) (q:C Q) (hP:Pres3 (From B) b x y z Q) :
  Mut w (some sb) (iV l sb (sO C w.heap.size)) (.returned (.agg #[x,y,z])) (((b.setCell ⟨w.heap.size,0,none⟩ x).setCell ⟨w.heap.size,1,none⟩ y).setCell ⟨w.heap.size,2,none⟩ z):=by
 have i:=grown_set3 b w.heap.size x y z;exact⟨_,rfl,grown_own m i (λj r a=>by cases r;omega),⟨x,y,z,Q,rfl,p,hP.mono (λk hk a=>⟨by have hk:B<=k:=hk;show w.heap.size<=k;omega,Nat.lt_of_lt_of_le a i.size,i.block k a (λe=>by have hk:B<=k:=hk;have:=Option.some.inj e;omega)⟩),q⟩,g.own i (λk hk=>by cases hk;exact n)⟩
theorem yE:Valid (trivP [2]):=by
 have e:trivP [2]=⟨[2],[[0]],[[]]⟩:=by simp[trivP,trivC,zeros]
 rw[e];refine⟨by decide,by decide,by decide,by decide,λi a => ?_,λi a => ?_,λi a => ?_⟩
 ·have:i=0:=by simpa using a
  subst this;exact .inl rfl
 ·have:i=0:=by simpa using a
  subst this;refine⟨⟨rfl,λk hk => ?_⟩,λk hk => ?_⟩
  ·have:k=0:=by simpa using hk
   subst this;decide
  ·have:k=0:=by omega
   subst this;rfl
 ·have:i=0:=by simpa using a
  subst this;exact⟨rfl,λk hk=>by simp at hk⟩
set_option maxHeartbeats 16000000 in
theorem yF (B0:Nat) (w:World) (sb:Nat) (b:Int) (av:B0<=w.heap.size) (hs:Src B0 w sb) :
  Calls Tryz.prog 237 #[.pointer (some ⟨sb,0,none⟩),.int .i64 b] w (Mut w (some sb) (iV B0 sb (sO (j9 b) w.heap.size))):=by
 have bm:=hs.lt;have aJ:=Box3.made w 28 (.slice none 0 0) (.slice none 0 0) (.slice none 0 0);have ab:Ext w (w.alloc (.cells #[.slice none 0 0,.slice none 0 0,.slice none 0 0] 28)):=World.grownBy_alloc _ _ _;have a5:(w.alloc (.cells #[.slice none 0 0,.slice none 0 0,.slice none 0 0] 28)).heap.size=w.heap.size+1:=by simp
 have a6:=Lib.hid (hs.ext ab);clear hs;go_enter Tryz.func237,Tryz.ntmps237;go_wp2_with fail
 generalize w.alloc (.cells #[.slice none 0 0,.slice none 0 0,.slice none 0 0] 28)=w0 at *;have bc:w.heap.size+1<=w0.heap.size:=by omega
 clear a5;go_loopw [5] (λiv wr=>∃i:Nat,iv=.int .i64 i/\i<=12/\w0.grownBy wr (some sb)/\Hid (Src B0 wr sb)) (λiv _=>12-(intOf iv).toNat)
 case atStart=>exact⟨0,rfl,by omega,grown_refl _ _,a6⟩
 case round=>
  obtain⟨i,rfl,hi,hg,aw⟩:=hrel;have a8:=hg.size;have L:=Box3.keep aJ a8 (hg.block _ aJ.1 (λe=>by have:=Option.some.inj e;omega));by_cases a:i<12
  ·have aK:(i:Int)<12:=by omega
   go_wp2_with fail
   refine Calls.mono (sH B0 wr sb (by omega) aw.out) ?_;rintro eF wF ⟨vF,rfl,iX,hP,iL⟩;obtain⟨vo,vp,vc,rfl,g⟩:=hP;obtain⟨a1,G,c1,a2,H,c2,I,J,c3,rfl,rfl,rfl⟩:=g.shape;have O:Ext wF (wF.alloc (.cells #[.slice a1 G c1,.slice a2 H c2,.slice I J c3] 28)):=World.grownBy_alloc _ _ _;have ad:=Box3.made wF 28 (.slice a1 G c1) (.slice a2 H c2) (.slice I J c3);have aL:(wF.alloc (.cells #[.slice a1 G c1,.slice a2 H c2,.slice I J c3] 28)).heap.size=wF.heap.size+1:=by simp
   obtain⟨pb,ax⟩:∃pb,pb=wF.heap.size:=⟨_,rfl⟩;rw[<-ax] at ad aL
   have aM:∃Q,Shp 18 Q/\Pres3 (λk=>wr.heap.size<=k/\k≠pb) (wF.alloc (.cells #[.slice a1 G c1,.slice a2 H c2,.slice I J c3] 28)) (.slice a1 G c1) (.slice a2 H c2) (.slice I J c3) Q:=by
    obtain⟨Q,q1,q2⟩:=g;exact⟨Q,q1,q2.mono (λk hk a=>⟨⟨hk,by omega⟩,Nat.lt_of_lt_of_le a O.size,O.block k a (by simp)⟩)⟩
   have bd:=iX.size;have ap:=grown_trans iX (grown_of_ext (some sb) O);have aq:=iL.ext O;have HA:=Lib.hid (And.intro aM aq);clear aM aq g iL iX aw;have HP:=Lib.hid ax;go_wp2_with fail
   rw[<-HP.out];generalize wF.alloc (.cells #[.slice a1 G c1,.slice a2 H c2,.slice I J c3] 28)=wA at *;clear O;refine Calls.mono (l01Next_ok B0 wA sb 3 HA.out.2) ?_;rintro eN wN ⟨vN,rfl,C,x,rfl,hx0,hx1,aN⟩;have K:=grown_trans ap C;have M:=Box3.keep ad C.size (C.block _ ad.1 (λe=>by have:=Option.some.inj e;omega));have bf:=C.size;obtain⟨Q,D,sP⟩:=HA.out.1;have P:Pres3 (λk=>wr.heap.size<=k/\k≠pb) wN (.slice a1 G c1) (.slice a2 H c2) (.slice I J c3) Q:=sP.mono (λk hk a=>⟨hk,Nat.lt_of_lt_of_le a C.size,C.block k a (λe=>by have:=Option.some.inj e;omega)⟩);have bg:pb<wN.heap.size:=M.1;have bh:wr.heap.size<=pb:=by omega
   have HN:=Lib.hid (And.intro D (And.intro P aN));clear D sP P aN C ad hx0 hx1 HA ap aL ax HP;by_cases hx:x=0
   ·have aO:(x == 0)=true:=by simp[hx]
    clear hx;have aP:=M.ext (grown_drew _ none);obtain⟨d0,d1,d2,d3,d4⟩:=id aP;have HB:=Lib.hid M;clear M aP;go_wp2_with fail
    go_region_law (first
     | (go_simp;go_at_call 291;refine Calls.mono (yy _ _ _ Q QG Any Any ⟨_,_,_,rfl,aQ⟩ ⟨_,_,_,rfl,R⟩ (HN.out.1.mono (by omega)) (ba.mono (by omega))) ?_;rintro eC wC ⟨vC,rfl,ae,yG⟩;obtain⟨yo,yp,yc,rfl,pY⟩:=yG.q;obtain⟨e1,m1,k1,e2,m2,k2,e3,m3,k3,rfl,rfl,rfl⟩:=pY.shape;have ay:=az.ext ae;obtain⟨g0,g1,g2,g3,g4⟩:=id ay)
     | (go_simp;go_at_call 290;refine Calls.mono (sH B0 _ sb (show B0<=wN.heap.size by omega) (HN.out.2.2.ext (grown_drew _ _))) ?_;rintro eG wG ⟨vG,rfl,aR,yH,aS⟩;obtain⟨uo,up,uc,rfl,QG,ba,sQ⟩:=yH;have R:Pres3 Any wG uo up uc QG:=sQ.mono (λk _ a=>⟨trivial,a,rfl⟩);obtain⟨x1,z1,rfl,_,_⟩:=R.o.shape;obtain⟨x2,z2,rfl,_,_⟩:=Sl.shape R.p;obtain⟨x3,z3,rfl,_,_⟩:=Sl.shape R.c;have l:=grown_trans (grown_drew wN (some sb)) aR;have az:=Box3.keep HB.out l.size (l.block _ HB.out.1 (λe=>by have:=Option.some.inj e;omega));obtain⟨f0,f1,f2,f3,f4⟩:=id az;have aQ:Pres3 Any wG _ _ _ Q:=HN.out.2.1.mono (λk hk a=>⟨trivial,Nat.lt_of_lt_of_le a l.size,l.block k a (λe=>by have:=Option.some.inj e;omega)⟩)))
    all_goals
     have ar:=grown_trans K (grown_trans l (grown_of_ext (some sb) ae));have S:=grown_set3 wC pb (.slice e1 m1 k1) (.slice e2 m2 k2) (.slice e3 m3 k3);have u:wr.grownBy (((wC.setCell ⟨pb,0,none⟩ (.slice e1 m1 k1)).setCell ⟨pb,1,none⟩ (.slice e2 m2 k2)).setCell ⟨pb,2,none⟩ (.slice e3 m3 k3)) (some sb):=grown_own ar S (λj hj a=>by have:=Option.some.inj hj;omega);have E:=ay.all (.slice e1 m1 k1) (.slice e2 m2 k2) (.slice e3 m3 k3);have T:=(aS.ext ae).own S (λk hk=>by have:=Option.some.inj hk;omega)
     have aA:∃Q,Shp 40 Q/\Pres3 (λk=>wr.heap.size<=k/\k≠pb) (((wC.setCell ⟨pb,0,none⟩ (.slice e1 m1 k1)).setCell ⟨pb,1,none⟩ (.slice e2 m2 k2)).setCell ⟨pb,2,none⟩ (.slice e3 m3 k3)) (.slice e1 m1 k1) (.slice e2 m2 k2) (.slice e3 m3 k3) Q:=by
      obtain⟨Q2,q1,q2⟩:=pY;have bj:=l.size
      exact ⟨Q2,q1,q2.mono (λk hk a=>by
       have hk:wG.heap.size<=k:=hk;exact⟨⟨by omega,by omega⟩,Nat.lt_of_lt_of_le a S.size,S.block k a (λe=>by have:=Option.some.inj e;omega)⟩)⟩
     clear ay S aS pY g0 g1 g2 g3 g4 f0 f1 f2 f3 f4 d0 d1 d2 d3 d4 az ar ae l aR R sQ aQ K HN HB aO;generalize ((wC.setCell ⟨pb,0,none⟩ (.slice e1 m1 k1)).setCell ⟨pb,1,none⟩ (.slice e2 m2 k2)).setCell ⟨pb,2,none⟩ (.slice e3 m3 k3)=w9 at *;obtain⟨F,D,kf⟩:=aA;have y:=Box3.keep L u.size (u.block _ L.1 (λe=>by have:=Option.some.inj e;omega));obtain⟨p0,p1,p2,p3,p4⟩:=id E;go_wp2_with fail
     refine Calls.mono (sIsPresentation_ok w9 _ F _ ⟨_,_,_,rfl,kf⟩) ?_;rintro e5 w5 ⟨v5,rfl,m,rfl⟩;have U:=E.ext m;have n:=y.ext m;have V:=kf.ext m;have W:=T.ext m;have r:=grown_trans u (grown_of_ext (some sb) m);have X:=Lib.hid (And.intro V W);clear p0 p1 p2 p3 p4 E y kf T u V W;obtain⟨p0,p1,p2,p3,p4⟩:=id U;rcases hv:validB F with _|_
     ·go_wp2_with fail
      go_roundw
      case rel=>exact⟨i+1,by go_num,by omega,grown_trans hg r,Lib.hid X.out.2⟩
      case measure=>simp[intOf];omega
     ·have hV:=valid_of hv
      clear hv;have HV:=Lib.hid hV;clear hV;go_wp2_with fail
      refine Calls.mono (l07Product_ok w5 _ F.orders _ X.out.1.o (λj hj=>by have:=HV.out.ord7 j hj;omega)) ?_;rintro _ _ ⟨rfl,rfl⟩;rcases aC:decide (capTo F.orders F.orders.length<=b) with _|_
      ·go_wp2_with fail
       go_roundw
       case rel=>exact⟨i+1,by go_num,by omega,grown_trans hg r,Lib.hid X.out.2⟩
       case measure=>simp[intOf];omega
      ·have z:j9 b F:=λaD => .inl (by rw[<-sN aD];exact of_decide_eq_true aC)
       have aE:=Lib.hid z;clear z;obtain⟨b0,b1,b2,b3,b4⟩:=id n;have hZ:=n.all (.slice e1 m1 k1) (.slice e2 m2 k2) (.slice e3 m3 k3);obtain⟨-,z0,z1,z2,-⟩:=id hZ;have A:w.grownBy w5 (some sb):=grown_trans (grown_of_ext (some sb) ab) (grown_trans hg r);have g:Pres3 (From wr.heap.size) w5 (.slice e1 m1 k1) (.slice e2 m2 k2) (.slice e3 m3 k3) F:=X.out.1.mono (λk hk a=>⟨hk.1,a,rfl⟩);have Y:=Lib.hid (And.intro A (And.intro g X.out.2));clear hZ A g n U;go_wp2_with fail
       refine bodyPost_ret (v := .agg #[.slice e1 m1 k1,.slice e2 m2 k2,.slice e3 m3 k3]) (by simp[results,Tryz.results237,go_sem,z0,z1,z2]) rfl ?_;exact pX Y.out.1 (B:=wr.heap.size) (by omega) Y.out.2.2 av HV.out aE.out Y.out.2.1
   ·have aO:(x == 0)=false:=by simp[hx]
    obtain⟨D,P,T⟩:=HN.out;have aA:∃Q,Shp 40 Q/\Pres3 (λk=>wr.heap.size<=k/\k≠pb) wN (.slice a1 G c1) (.slice a2 H c2) (.slice I J c3) Q:=⟨Q,D.mono (by omega),P⟩;clear D P HN hx;have u:=K;have E:=M;clear K M;obtain⟨F,D,kf⟩:=aA;have y:=Box3.keep L u.size (u.block _ L.1 (λe=>by have:=Option.some.inj e;omega));obtain⟨p0,p1,p2,p3,p4⟩:=id E;go_wp2_with fail
    refine Calls.mono (sIsPresentation_ok wN _ F _ ⟨_,_,_,rfl,kf⟩) ?_;rintro e5 w5 ⟨v5,rfl,m,rfl⟩;have U:=E.ext m;have n:=y.ext m;have V:=kf.ext m;have W:=T.ext m;have r:=grown_trans u (grown_of_ext (some sb) m);have X:=Lib.hid (And.intro V W);clear p0 p1 p2 p3 p4 E y kf T u V W;obtain⟨p0,p1,p2,p3,p4⟩:=id U;rcases hv:validB F with _|_
    ·go_wp2_with fail
     go_roundw
     case rel=>exact⟨i+1,by go_num,by omega,grown_trans hg r,Lib.hid X.out.2⟩
     case measure=>simp[intOf];omega
    ·have hV:=valid_of hv
     clear hv;have HV:=Lib.hid hV;clear hV;go_wp2_with fail
     refine Calls.mono (l07Product_ok w5 _ F.orders _ X.out.1.o (λj hj=>by have:=HV.out.ord7 j hj;omega)) ?_;rintro _ _ ⟨rfl,rfl⟩;rcases aC:decide (capTo F.orders F.orders.length<=b) with _|_
     ·go_wp2_with fail
      go_roundw
      case rel=>exact⟨i+1,by go_num,by omega,grown_trans hg r,Lib.hid X.out.2⟩
      case measure=>simp[intOf];omega
     ·have z:j9 b F:=λaD => .inl (by rw[<-sN aD];exact of_decide_eq_true aC)
      have aE:=Lib.hid z;clear z;obtain⟨b0,b1,b2,b3,b4⟩:=id n;have hZ:=n.all (.slice a1 G c1) (.slice a2 H c2) (.slice I J c3);obtain⟨-,z0,z1,z2,-⟩:=id hZ;have A:w.grownBy w5 (some sb):=grown_trans (grown_of_ext (some sb) ab) (grown_trans hg r);have g:Pres3 (From wr.heap.size) w5 (.slice a1 G c1) (.slice a2 H c2) (.slice I J c3) F:=X.out.1.mono (λk hk a=>⟨hk.1,a,rfl⟩);have Y:=Lib.hid (And.intro A (And.intro g X.out.2));clear hZ A g n U;go_wp2_with fail
      refine bodyPost_ret (v := .agg #[.slice a1 G c1,.slice a2 H c2,.slice I J c3]) (by simp[results,Tryz.results237,go_sem,z0,z1,z2]) rfl ?_;exact pX Y.out.1 (B:=wr.heap.size) (by omega) Y.out.2.2 av HV.out aE.out Y.out.2.1
  ·have aK:¬((i:Int)<12):=by omega
   obtain⟨b0,b1,b2,b3,b4⟩:=id L;go_wp2_with fail
   have aF:Ext wr (wr.alloc (.cells #[.int .i64 2] 2)):=World.grownBy_alloc _ _ _;have hL:Ints Any (wr.alloc (.cells #[.int .i64 2] 2)) (.slice (some ⟨wr.heap.size,0,none⟩) 1 1) [2]:=Ints.sub (fq wr [2] (by simp)) (λ_ _ _=>trivial);refine Calls.mono (l07Trivial_ok _ _ [2] _ hL (by simp)) ?_;rintro e3 w3 ⟨v3,rfl,Z,vo,vp,vc,rfl,ia⟩;have Z:=grown_trans aF Z;have g:Pres3 (From wr.heap.size) w3 vo vp vc (trivP [2]):=ia.p3.mono (λk hk a=>⟨Nat.le_trans aF.size hk,a,rfl⟩);obtain⟨a1,G,c1,a2,H,c2,I,J,c3,rfl,rfl,rfl⟩:=jR.shape ⟨trivP [2],trivP_shp (N:=6) _ (by simp),g⟩;have aG:=L.ext Z;have aY:=aw.out.ext Z;have A:w.grownBy w3 (some sb):=grown_trans (grown_of_ext (some sb) ab) (grown_trans hg (grown_of_ext (some sb) Z));clear ia hL aF b0 b1 b2 b3 b4;obtain⟨b0,b1,b2,b3,b4⟩:=id aG;have hZ:=aG.all (.slice a1 G c1) (.slice a2 H c2) (.slice I J c3);obtain⟨-,z0,z1,z2,-⟩:=id hZ;have Y:=Lib.hid (And.intro A (And.intro g aY));clear hZ A g aG aY;go_wp2_with fail
   refine bodyPost_ret (v := .agg #[.slice a1 G c1,.slice a2 H c2,.slice I J c3]) (by simp[results,Tryz.results237,go_sem,z0,z1,z2]) rfl ?_;exact pX Y.out.1 (B:=wr.heap.size) (by omega) Y.out.2.2 av yE (λ_ => .inr (by decide)) Y.out.2.1
def sR (M B:Nat) (w':World) (v:Value):Prop:=∃(vo vp vc:Value) (Q:Pr),v=.agg #[vo,vp,vc]/\Q.orders.length<=M/\Pres3 (From B) w' vo vp vc Q
theorem PresX.moved {F:Nat->Prop}{w w':World}{vo vp vc:Value}{P:Pr}(h:PresX F w vo vp vc P) {r:Nat}(b:w.grownBy w' (some r)) (g:¬F r):PresX F w' vo vp vc P:=
 h.mono (λk hk a=>⟨hk,Nat.lt_of_lt_of_le a b.size,b.block k a (λe=>g (by have:=Option.some.inj e;subst this;exact hk))⟩)
theorem Box3.moved {w w':World}{b r:Nat}{x y z:Value}(h:Box3 w b x y z) (a:w.grownBy w' (some r)) (g:b≠r):Box3 w' b x y z:=h.keep a.size (a.block _ h.1 (λe=>g (Option.some.inj e)))
def kV (M:Nat) (C:Pr->Prop) (B:Nat) (w':World) (v:Value):Prop:=∃(vo vp vc:Value) (Q:Pr),v=.agg #[vo,vp,vc]/\Q.orders.length<=M/\Pres3 (From B) w' vo vp vc Q/\C Q
def gm (P Q:Pr):Prop:=Valid Q->ordP Q<=ordP P
theorem gm.same {P Q:Pr}(h:Q.orders=P.orders):gm P Q:=λ_=>by unfold ordP;rw[h];exact Int.le_refl _
theorem j9.le {a:Int}{P Q:Pr}(h:j9 a P) (e:Valid P) (g:gm P Q):j9 a Q:=λi=>by
 have b:=g i;rcases h e with h|h
 ·exact .inl (Int.le_trans b h)
 ·exact .inr (Int.le_trans b h)
theorem iE {w b:World}{sb l M br:Nat}{x y z:Value}{Q:Pr}{F:Nat->Prop}(m:w.grownBy b (some sb)) (n:w.heap.size<=br) (hF:∀k,F k->k<b.heap.size->w.heap.size<=k/\k≠br) (g:Src l b sb) (p:l<=w.heap.size) {C:Pr->Prop}(q:Q.orders.length<=M) (hP:Pres3 F b x y z Q) (r:C Q) :
  Mut w (some sb) (iV l sb (kV M C w.heap.size)) (.returned (.agg #[x,y,z])) (((b.setCell ⟨br,0,none⟩ x).setCell ⟨br,1,none⟩ y).setCell ⟨br,2,none⟩ z):=by
 have i:=grown_set3 b br x y z;exact⟨_,rfl,grown_own m i (λj u a=>by cases u;omega),⟨x,y,z,Q,rfl,q,hP.mono (λk hk a=>⟨(hF k hk a).1,Nat.lt_of_lt_of_le a i.size,i.block k a (λe=>(hF k hk a).2 (Option.some.inj e))⟩),r⟩,g.own i (λk hk=>by cases hk;omega)⟩
theorem PresX.sS {F:Nat->Prop}{m:World}{vo vp vc:Value}{P:Pr}{r:Nat}(h:PresX F m vo vp vc P) (i j:Nat) (p:i<P.powers.length) (q:j<(gt P.powers i).length) (u:¬F r) :
  ∃ g cap b a,vp=.slice (some ⟨g,0,none⟩) P.powers.length cap/\F g/\g<m.heap.size/\m.cell? ⟨g,i,none⟩=some (.slice (some ⟨b,0,none⟩) (gt P.powers i).length a)/\F b/\b≠g/\b<m.heap.size /\
   m.cell? ⟨b,j,none⟩=some (.int .i64 (gt (gt P.powers i) j)) /\
   ∀l,m.grownBy l (some r)->l.frozen? ⟨b,j,none⟩=false/\∀x,PresX (λk=>F k\/l.heap.size<=k) (l.setCell ⟨b,j,none⟩ (.int .i64 x)) vo vp vc { P with powers:=P.powers.set i ((gt P.powers i).set j x) } :=by
 obtain⟨g,cap,b,a,rfl,h1,h2,h3,h4,h5,h6,h7,_,_⟩:=h.openPI i j p q;refine⟨g,cap,b,a,rfl,h1,h2,h3,h4,h5,h6,h7,λl v => ?_⟩;have y:=h.moved v u;obtain⟨z,cap',b',yI,e1,k1,k2,w,k4,k5,k6,k7,k8,k9⟩:=y.openPI i j p q;cases e1
 have n:=v.cell h3 (by simp;intro e;subst e;exact u h1);rw[n] at w;cases w
 exact⟨k8 l (Ext.refl _),λx=>k9 l x (Ext.refl _)⟩
theorem PresX.yJ {F:Nat->Prop}{w:World}{vo vp vc:Value}{P:Pr}(h:PresX F w vo vp vc P) (i:Nat) (l:i<P.powers.length) {g n cap b m c:Nat}(p:vp=.slice (some ⟨g,0,none⟩) n cap) (q:w.cell? ⟨g,i,none⟩=some (.slice (some ⟨b,0,none⟩) m c)):vo.ownBlock≠some b:=by
 obtain⟨Fo,Fp,Fc,h1,h2,h3,r,h5,h6⟩:=h;subst p;obtain⟨v,Gj,a,j,k,_⟩:=SlI.turn rdOwn h2 i l;rw[q] at a;cases a
 exact λe=>(r b (h1.2.1 b e)).2.1 (k b (j.2.1 b rfl)).1
theorem PresX.yK {F:Nat->Prop}{w:World}{vo vp vc:Value}{P:Pr}(h:PresX F w vo vp vc P) (i k:Nat) (u:i<P.conj.length) (hk:k<(gt P.conj i).length) {g n cap e m c b y c2:Nat}(z:vc=.slice (some ⟨g,0,none⟩) n cap) (A:w.cell? ⟨g,i,none⟩=some (.slice (some ⟨e,0,none⟩) m c)) (j:w.cell? ⟨e,k,none⟩=some (.slice (some ⟨b,0,none⟩) y c2)):vo.ownBlock≠some b:=by
 obtain⟨Fo,Fp,Fc,h1,h2,B,C,h5,h6⟩:=h;subst z;obtain⟨v,Gj,q,hEl,l,_⟩:=SlI.turn (rdI rdOwn) B i u;rw[A] at q;cases q
 obtain⟨v,Hj,r,a,p,_⟩:=SlI.turn rdOwn hEl k hk;rw[j] at r;cases r
 exact λe=>(C b (h1.2.1 b e)).2.2 (l b (p b (a.2.1 b rfl)).1).1
theorem PresX.yL {F:Nat->Prop}{m:World}{vo vp vc:Value}{P:Pr}{r:Nat}(h:PresX F m vo vp vc P) (i k j:Nat) (w:i<P.conj.length) (hk:k<(gt P.conj i).length) (y:j<(gt (gt P.conj i) k).length) (p:¬F r) :
  ∃ g cap e a b l,vc=.slice (some ⟨g,0,none⟩) P.conj.length cap/\F g/\g<m.heap.size/\m.cell? ⟨g,i,none⟩=some (.slice (some ⟨e,0,none⟩) (gt P.conj i).length a)/\F e/\e<m.heap.size /\
   m.cell? ⟨e,k,none⟩=some (.slice (some ⟨b,0,none⟩) (gt (gt P.conj i) k).length l)/\F b/\b≠g/\b≠e/\b<m.heap.size/\m.cell? ⟨b,j,none⟩=some (.int .i64 (gt (gt (gt P.conj i) k) j)) /\
   ∀n,m.grownBy n (some r)->n.frozen? ⟨b,j,none⟩=false/\∀x,PresX (λk=>F k\/n.heap.size<=k) (n.setCell ⟨b,j,none⟩ (.int .i64 x)) vo vp vc { P with conj:=P.conj.set i ((gt P.conj i).set k ((gt (gt P.conj i) k).set j x)) } :=by
 obtain⟨g,cap,e,a,b,l,rfl,h1,h2,h3,h4,h5,h6,h7,h8,h9,h10,h11,_,_⟩:=h.openCI i k j w hk y;refine⟨g,cap,e,a,b,l,rfl,h1,h2,h3,h4,h5,h6,h7,h8,h9,h10,h11,λn q => ?_⟩;have B:=h.moved q p;obtain⟨C,cap',e',DV,b',yI,e1,k1,k2,z,k4,k5,A,k7,k8,k9,DW,DX,yM,yN⟩:=B.openCI i k j w hk y;cases e1
 have u:=q.cell h3 (by simp;intro e;subst e;exact p h1);rw[u] at z;cases z
 have v:=q.cell h6 (by simp;intro e;subst e;exact p h4);rw[v] at A;cases A
 exact⟨yM n (Ext.refl _),λx=>yN n x (Ext.refl _)⟩
set_option maxHeartbeats 16000000 in
theorem yO (B0:Nat) (w:World) (sb:Nat) (pv:Value) (P:Pr) (F:Nat->Prop) (aR:B0<=w.heap.size) (hs:Src B0 w sb) (hp:PresV F w pv P) (hV:Valid P) :
  Calls Tryz.prog 239 #[.pointer (some ⟨sb,0,none⟩),pv] w (Mut w (some sb) (iV B0 sb (kV 7 (gm P) w.heap.size))):=by
 have bV:=hs.lt;have hS:=hV.pW;obtain⟨vo,vp,vc,rfl,h3⟩:=hp;obtain⟨ao,co,ig,_,_⟩:=h3.o.shape;obtain⟨ap,cp,ab,_,_⟩:=Sl.shape h3.p;obtain⟨ac,cc,ad,_,_⟩:=Sl.shape h3.c;rw[hS.p] at ab;rw[hS.c] at ad;subst ig ab ad;obtain⟨n,hn⟩:∃n,n=P.orders.length:=⟨_,rfl⟩;rw[<-hn] at h3;rw[<-hn];have bW:n<=6:=by rw[hn];exact hS.n
 have a6:Ext w (w.alloc (.cells #[.slice ao n co,.slice ap n cp,.slice ac n cc] 28)):=World.grownBy_alloc _ _ _;have aS:(w.alloc (.cells #[.slice ao n co,.slice ap n cp,.slice ac n cc] 28)).heap.size=w.heap.size+1:=by simp
 have bx:=Box3.made w 28 (.slice ao n co) (.slice ap n cp) (.slice ac n cc);have Z:=Lib.hid (And.intro hS (And.intro hV (And.intro hn hs)));clear hS hV hn hs;go_enter Tryz.func239,Tryz.ntmps239;go_wp2_with fail
 generalize w.alloc (.cells #[.slice ao n co,.slice ap n cp,.slice ac n cc] 28)=wA at *;have ay:Ext wA (wA.alloc (.cells #[.slice none 0 0,.slice none 0 0,.slice none 0 0] 28)):=World.grownBy_alloc _ _ _;have ae:=Box3.made wA 28 (.slice none 0 0) (.slice none 0 0) (.slice none 0 0);have aT:=grown_trans a6 ay;have bz:(wA.alloc (.cells #[.slice none 0 0,.slice none 0 0,.slice none 0 0] 28)).heap.size=w.heap.size+2:=by simp[aS]
 rw[aS] at ae;generalize wA.alloc (.cells #[.slice none 0 0,.slice none 0 0,.slice none 0 0] 28)=w0 at *;have bJ:w.heap.size+2<=w0.heap.size:=by omega
 clear ay a6 bx aS bz;refine Calls.mono (pZ w0 _ P F 6 ⟨_,_,_,rfl,h3.mono (frame_of aT (λk hk _=>⟨hk,by simp⟩))⟩ Z.out.1 (by omega)) ?_;rintro e1 w1 ⟨v1,rfl,hg1,qo,qp,qc,rfl,hX1⟩;obtain⟨R,i,B,l,C,q,e1,e2,e3⟩:=hX1.shape;rw[Z.out.1.p] at e2;rw[Z.out.1.c] at e3;rw[<-Z.out.2.2.1] at e1 e2 e3;subst e1 e2 e3;obtain⟨qb,aW⟩:∃qb,qb=w1.heap.size:=⟨_,rfl⟩;have aa:Ext w1 (w1.alloc (.cells #[.slice R n i,.slice B n l,.slice C n q] 28)):=World.grownBy_alloc _ _ _;have aX:=Box3.made w1 28 (.slice R n i) (.slice B n l) (.slice C n q);rw[<-aW] at aX;have bA:=hg1.size;have a8:PresX (λk=>w0.heap.size<=k/\k≠qb) (w1.alloc (.cells #[.slice R n i,.slice B n l,.slice C n q] 28)) (.slice R n i) (.slice B n l) (.slice C n q) P:=hX1.mono (λk hk az=>⟨⟨hk,by omega⟩,Nat.lt_of_lt_of_le az aa.size,aa.block k az (by simp)⟩);have af:=grown_trans hg1 aa;have a9:=Lib.hid aW;go_wp2_with fail
 rw[<-a9.out];generalize w1.alloc (.cells #[.slice R n i,.slice B n l,.slice C n q] 28)=w2 at *;have bY:w0.heap.size<=qb:=by omega
 clear hX1 hg1 aa aW a9 bA;have a':=ae.ext af;have ag:=grown_trans aT af;have ba:=Z.out.2.2.2.ext ag;clear ae af aT h3;-- i
 refine Calls.mono (l01Next_ok B0 w2 sb n ba) ?_;rintro e3 w3 ⟨v3,rfl,ah,x,rfl,hx0,hx1,bb⟩;have bc:=a8.moved ah (λh=>by omega);have aG:=aX.moved ah (by omega);have aH:=a'.moved ah (by omega);have aI:=grown_trans (grown_of_ext (some sb) ag) ah
 have bB:0<=x/\x<=6:=by
  by_cases h:(1:Int)<n
  ·have:=hx1 h;omega
  ·have:=hx0 (by omega);omega
 have aY:=Lib.hid (And.intro bc bb);clear a8 aX a' ag ba ah bc bb;obtain⟨I,rfl⟩:=Int.eq_ofNat_of_zero_le bB.1;-- j
 go_wp2_with fail
 refine Calls.mono (l01Next_ok B0 w3 sb _ aY.out.2) ?_;rintro e4 w4 ⟨v4,rfl,hg4,y,rfl,hy0,hy1,bd⟩;have be:=aY.out.1.moved hg4 (λh=>by omega);have U:=aG.moved hg4 (by omega);have H:=aH.moved hg4 (by omega);have V:=grown_trans aI hg4
 have b6:0<=y/\y<=6:=by
  by_cases h:1<(n:Int)-1-(I:Int)
  ·have:=hy1 h;omega
  ·have:=hy0 (by omega);omega
 have ai:=Lib.hid (And.intro be bd);clear hg4 be bd aY aG aH aI hy0 hy1 hx0 hx1;obtain⟨q0,q1,q2,q3,q4⟩:=id U;by_cases b7:(n:Int)<=(I:Int)+1+y
 ·obtain ⟨b0,b1,b2,b3,b4⟩:=id H
  have hZ:=H.all (.slice R n i) (.slice B n l) (.slice C n q);obtain⟨-,z0,z1,z2,-⟩:=id hZ;have HF:=Lib.hid V;clear hZ V H U;go_wp2_with fail
  refine bodyPost_ret (v := .agg #[.slice R n i,.slice B n l,.slice C n q]) (by simp[results,Tryz.results239,go_sem,z0,z1,z2]) rfl ?_;exact iE HF.out (by omega) (λk hk _=>⟨by omega,by omega⟩) ai.out.2 aR (by rw[<-Z.out.2.2.1];omega) ai.out.1.p3 (gm.same rfl)
 obtain⟨J,hJ⟩:∃J:Nat,(I:Int)+1+y=J:=⟨((I:Int)+1+y).toNat,by omega⟩;have b9:I<n:=by omega
 have b':J<n:=by omega
 have bM:(I:Int)<n:=by omega
 have bN:(J:Int)<n:=by omega
 have HJ:=Lib.hid hJ;go_wp2_with fail
 refine Calls.mono (l01Next_ok B0 w4 sb 3 ai.out.2) ?_;rintro e5 w5 ⟨v5,rfl,fR,z,rfl,_,_,bf⟩;have bg:=ai.out.1.moved fR (λh=>by omega);have E:=U.moved fR (by omega);have W:=H.moved fR (by omega);have X:=grown_trans V fR;have S:=Lib.hid (And.intro bg bf);clear fR bg bf ai U H V q0 q1 q2 q3 q4;have L:=Z.out.2.2.1;have aA:(gt P.powers I).length=n:=by rw[L];exact(Z.out.2.1.pv I (by omega)).1.1
 have aj:=Z.out.2.1.pl;have ak:=Z.out.2.1.cl;by_cases hz:z=0
 ·have bD:(z == 0)=true:=by simp[hz]
  clear hz;obtain⟨g,capg,b,capb,ab,⟨ay,aa⟩,hgl,D,⟨ae,sU⟩,hbg,hbl,al,am⟩:=S.out.1.sS (r:=sb) I J (by omega) (by omega) (λh=>by omega);obtain⟨rfl,rfl⟩:B=some ⟨g,0,none⟩/\l=capg:=by cases ab;exact⟨rfl,rfl⟩
  clear ab;obtain⟨bo,oo,rfl,⟨yP,yQ⟩,yR,T⟩:=Ints.at S.out.1.p3.o J (by omega);rw[aA] at D;have bE:bo≠b:=λe=>S.out.1.yJ I (by omega) rfl D (by rw[<-e];rfl);generalize gt P.orders J=oj at T;generalize gt (gt P.powers I) J=bF at al;have e0:∀w',dX w5 sb b w'->w'.cell? ⟨qb,0,none⟩=some (.slice (some ⟨bo,oo,none⟩) n i):=λw' h=>h.cell E.2.1 (by simp;omega) (by simp;omega);have e1:∀w',dX w5 sb b w'->w'.cell? ⟨qb,1,none⟩=some (.slice (some ⟨g,0,none⟩) n l):=λw' h=>h.cell E.2.2.1 (by simp;omega) (by simp;omega);have e2:∀w',dX w5 sb b w'->w'.cell? ⟨g,I,none⟩=some (.slice (some ⟨b,0,none⟩) n capb):=λw' h=>h.cell D (by simp;omega) (by simp;omega);have e3:∀w',dX w5 sb b w'->w'.cell? ⟨bo,oo+J,none⟩=some (.int .i64 oj):=λw' h=>h.cell T (by simp;omega) (by simp;omega);have aq:=Lib.hid (And.intro am aA);clear am aA aj ak L HJ hJ;clear D T;go_wp2_with fail
  go_region_held3 (λw'=>dX w5 sb b w') (first|exact dX.ext (grown_drew _ _)|exact dX.of (by assumption)|exact dX.two a (grown_set1 _ _ _ _)|assumption)
   (first
    | (go_at_call 135;refine Calls.mono (l01Next_ok B0 w5.drew sb oj (S.out.2.ext (grown_drew _ _))) ?_;rintro e6 Y ⟨v6,rfl,aL,u,rfl,lY,lV,ar⟩;have a:w5.grownBy Y (some sb):=grown_trans (grown_of_ext (some sb) (grown_drew _ _)) aL;have bi:=a.cell al (by simp;omega);have bj:=(aq.out.1 Y a).1))
  have au:=(aq.out.1 Y a).2 u;have hT:=grown_set1 Y b J (.int .i64 u);have bP:=a.size;have A:=(E.moved a (by omega)).moved hT (by omega);have G:=(W.moved a (by omega)).moved hT (by omega);have N:=grown_own (grown_trans X a) hT (λj hj az=>by have:=Option.some.inj hj;omega);have aM:=ar.own hT (λk hk=>by have:=Option.some.inj hk;omega);clear bi bj e0 e1 e2 e3 hT E W X lY lV ar aL;have O:=Lib.hid (And.intro au (And.intro aM N));clear au aM N;generalize Y.setCell ⟨b,J,none⟩ (.int .i64 u)=w7 at *;obtain⟨q0,q1,q2,q3,q4⟩:=id A;obtain⟨b0,b1,b2,b3,b4⟩:=id G;have hZ:=G.all (.slice (some ⟨bo,oo,none⟩) n i) (.slice (some ⟨g,0,none⟩) n l) (.slice C n q);obtain⟨-,z0,z1,z2,-⟩:=id hZ;clear hZ G A;go_wp2_with fail
  refine bodyPost_ret (v := .agg #[.slice (some ⟨bo,oo,none⟩) n i,.slice (some ⟨g,0,none⟩) n l,.slice C n q]) (by simp[results,Tryz.results239,go_sem,z0,z1,z2]) rfl ?_;exact iE O.out.2.2 (by omega) (λk hk _=>⟨by rcases hk with hk|hk<;>omega,by rcases hk with hk|hk<;>omega⟩) O.out.2.1 aR (by show P.orders.length<=7;rw[<-Z.out.2.2.1];omega) O.out.1.p3 (gm.same rfl)
 ·have bD:(z == 0)=false:=by simp[hz]
  clear hz;have bk:=Lib.hid L;clear L;have bI:=Lib.hid (And.intro aj ak);clear aj ak aA;go_wp2_with fail
  have L:=bk.out;obtain⟨aj,ak⟩:=bI.out;refine Calls.mono (l01Next_ok B0 w5 sb _ S.out.2) ?_;rintro e6 Y ⟨v6,rfl,a,y2,rfl,hy0,hy1,ar⟩;have au:=S.out.1.moved a (λh=>by omega);have A:=E.moved a (by omega);have G:=W.moved a (by omega);have N:=grown_trans X a;have bQ:(I:Int)+1<n:=by omega
  have cb:0<=y2/\(I:Int)+1+y2<n:=by
   by_cases h:1<(n:Int)-1-(I:Int)
   ·have:=hy1 h;omega
   ·have:=hy0 (by omega);omega
  obtain⟨K,hK⟩:∃K:Nat,(I:Int)+1+y2=K:=⟨((I:Int)+1+y2).toNat,by omega⟩;obtain⟨M,hM⟩:∃M:Nat,(K:Int)-(I:Int)=(M:Int)+1:=⟨((K:Int)-(I:Int)-1).toNat,by omega⟩;have aB:IntKind.i64.wrap ((K:Int)-(I:Int))=(M:Int)+1:=by rw[hM];exact IntWalk.i64_in _ (by omega)
  have aC:IntKind.i64.wrap (M:Int)=(M:Int):=IntWalk.i64_in _ (by omega);have O:=Lib.hid (And.intro au ar);clear a au ar S E W X hy0 hy1;have aD:=(Z.out.2.1.cv I (by omega)).1;have aZ:=((Z.out.2.1.cv I (by omega)).2 M (by omega)).1.1;obtain⟨g,capg,e,cap1,b,capb,ad,⟨ay,aa⟩,hgl,D,⟨DY,heq⟩,hel,hce,⟨ae,sU⟩,hbg,nI,hbl,al,am⟩:=O.out.1.yL (r:=sb) I M J (by omega) (by rw[aD];omega) (by rw[aZ];omega) (λh=>by omega);obtain⟨rfl,rfl⟩:C=some ⟨g,0,none⟩/\q=capg:=by cases ad;exact⟨rfl,rfl⟩
  clear ad;obtain⟨bo,oo,rfl,⟨yP,yQ⟩,yR,T⟩:=Ints.at O.out.1.p3.o J (by omega);have bE:bo≠b:=λe=>O.out.1.yK I M (by omega) (by rw[aD];omega) rfl D hce (by rw[<-e];rfl);rw[aD,<-L] at D;rw[aZ,<-L] at hce;obtain⟨m,hm⟩:∃m,m=n-1-I:=⟨_,rfl⟩;rw[<-hm] at D;have cd:(M:Int)<m:=by omega
  generalize gt P.orders J=oj at T;generalize gt (gt (gt P.conj I) M) J=bF at al;have e0:∀w',dX Y sb b w'->w'.cell? ⟨qb,0,none⟩=some (.slice (some ⟨bo,oo,none⟩) n i):=λw' h=>h.cell A.2.1 (by simp;omega) (by simp;omega);have e1:∀w',dX Y sb b w'->w'.cell? ⟨qb,2,none⟩=some (.slice (some ⟨g,0,none⟩) n q):=λw' h=>h.cell A.2.2.2.1 (by simp;omega) (by simp;omega);have e2:∀w',dX Y sb b w'->w'.cell? ⟨g,I,none⟩=some (.slice (some ⟨e,0,none⟩) m cap1):=λw' h=>h.cell D (by simp;omega) (by simp;omega);have e3:∀w',dX Y sb b w'->w'.cell? ⟨bo,oo+J,none⟩=some (.int .i64 oj):=λw' h=>h.cell T (by simp;omega) (by simp;omega);have e4:∀w',dX Y sb b w'->w'.cell? ⟨e,M,none⟩=some (.slice (some ⟨b,0,none⟩) n capb):=λw' h=>h.cell hce (by simp;omega) (by simp;omega);have aq:=Lib.hid am;clear am aj ak HJ hJ hm hM aD aZ;clear D T hce L;have bl:=Lib.hid (And.intro aB aC);clear aB aC;go_wp2_with fail
  have aB:=bl.out.1;have aC:=bl.out.2
  go_region_held3 (λw'=>dX Y sb b w') (first|exact dX.ext (grown_drew _ _)|exact dX.of (by assumption)|exact dX.two Q (grown_set1 _ _ _ _)|assumption)
   (first
    | (go_at_call 135;refine Calls.mono (l01Next_ok B0 Y.drew sb oj (O.out.2.ext (grown_drew _ _))) ?_;rintro e7 w7 ⟨v7,rfl,aN,u,rfl,lY,lV,sV⟩;have Q:Y.grownBy w7 (some sb):=grown_trans (grown_of_ext (some sb) (grown_drew _ _)) aN;have bm:=Q.cell al (by simp;omega);have bn:=(aq.out w7 Q).1))
  clear aB aC;have bp:=(aq.out w7 Q).2 u;have hT:=grown_set1 w7 b J (.int .i64 u);have bT:=Q.size;have aO:=(A.moved Q (by omega)).moved hT (by omega);have aw:=(G.moved Q (by omega)).moved hT (by omega);have aP:=grown_own (grown_trans N Q) hT (λj hj az=>by have:=Option.some.inj hj;omega);have aQ:=sV.own hT (λk hk=>by have:=Option.some.inj hk;omega);clear bm bn e0 e1 e2 e3 e4 hT A G N lY lV sV aN;have a0:=Lib.hid (And.intro bp (And.intro aQ aP));clear bp aQ aP;generalize w7.setCell ⟨b,J,none⟩ (.int .i64 u)=w8 at *;obtain⟨q0,q1,q2,q3,q4⟩:=id aO;obtain⟨b0,b1,b2,b3,b4⟩:=id aw;have hZ:=aw.all (.slice (some ⟨bo,oo,none⟩) n i) (.slice B n l) (.slice (some ⟨g,0,none⟩) n q);obtain⟨-,z0,z1,z2,-⟩:=id hZ;clear hZ aw aO;go_wp2_with fail
  refine bodyPost_ret (v := .agg #[.slice (some ⟨bo,oo,none⟩) n i,.slice B n l,.slice (some ⟨g,0,none⟩) n q]) (by simp[results,Tryz.results239,go_sem,z0,z1,z2]) rfl ?_;exact iE a0.out.2.2 (by omega) (λk hk _=>⟨by rcases hk with hk|hk<;>omega,by rcases hk with hk|hk<;>omega⟩) a0.out.2.1 aR (by show P.orders.length<=7;rw[<-bk.out];omega) a0.out.1.p3 (gm.same rfl)
end Go.Proofs.YtdcobapnlpeaaaaGreat
namespace Go.Proofs.YtdcobapnlpeaaaaGreat
open Go.RowKit
theorem step_app_int {j:Array Oper}{o:Oper}{a:Act}{K:Act->World->Prop}{Q:Exit->Act->World->Prop}{p:Prop}{w:World}(k:o.guard=none) (s x:Operand)
  (q:o.op=Op.call { callee:=Callee.builtin Builtin.append,args := #[s,x],argTypes := #[24,24] }) (B:Nat) (v:Value) (l:List Int) (y:Int) (r:a.eval s=v) (b:World) (g:Own B b v l)
  (u:w=b.alloc (.cells #[.int .i64 y] 2)) (hx:a.eval x=.slice (some ⟨b.heap.size,0,none⟩) 1 1) (n:l.length<=1000000) (m:B<=b.heap.size)
  (h:∀i w',Own B w' i (l++[y])->b.grownBy w' v.ownBlock->K (a.put o.dst i) w') :
  if Region.wanted o (yielded j a.tmps)=true then Oper.wp Tryz.prog o a w K Q else p:=by
 subst u;have e:Ext b (b.alloc (.cells #[.int .i64 y] 2)):=World.grownBy_alloc _ _ _;refine step_app 24 2 (.int .i64 0) 8 und_ints Tryz.infoInt rfl (by decide) k s x q B v (l.map (Value.int .i64)) r (g.ext0 e).v b.heap.size (.int .i64 y) hx (by rw[World.cell?_alloc_at _ _ _ _ rfl];rfl) rfl (by simpa using (by omega:l.length<=2000000)) (by have:=e.size;omega) ?_;intro i w' h1 z _;exact h i w' (Own.of (by rw[List.map_append];exact h1)) (grown_trans (grown_of_ext _ e) z)
end Go.Proofs.YtdcobapnlpeaaaaGreat
