/- Merged from templates. -/
import Derived.Test.YtoakmefajbbggaaGreatM12
import Derived.Deep.RegionLaw
import Derived.Deep.DrawnRows
set_option maxRecDepth 100000
set_option maxHeartbeats 8000000
namespace Go.Proofs.YtoakmefajbbggaaGreat
open Go.RowKit
attribute [local go_sem ↓] Go.wp_at_zero Go.wp_at_succ
def Cz (B:Nat) (P:Pr) (w':World) (v:Value):Prop:=∃vo vp vc,v=.agg #[vo,vp,vc]/\gu (From B) w' vo vp vc P
structure yg (F:Nat->Prop) (w:World) (vo vp vc:Value) (P:Pr) (Fo Fp Fc:Nat->Prop):Prop where
 o:gf Fo w vo P.orders
 p:mK Fp w vp P.eH
 c:pF Fc w vc P.conj
 sK:∀k,Fo k->F k/\¬Fp k/\¬Fc k
 dp:∀k,Fp k->F k/\¬Fc k
 dc:∀k,Fc k->F k
theorem gu.part {F:Nat->Prop}{w:World}{vo vp vc:Value}{P:Pr}(h:gu F w vo vp vc P):∃Fo Fp Fc,yg F w vo vp vc P Fo Fp Fc:=by
 obtain⟨Fo,Fp,Fc,h1,h2,h3,h4,h5,h6⟩:=h;exact⟨Fo,Fp,Fc,h1,h2,h3,h4,h5,h6⟩
theorem fZ.sl {α:Type} [Inhabited α] {El:(Nat->Prop)->World->Value->α->Prop}{E:Nat}{F:Nat->Prop}{w:World}{v:Value}{xs:List α}(h:fZ El E F w v xs):∃a n c,v=.slice a n c/\n=xs.length:=by
 rcases h.form with⟨rfl,rfl⟩|⟨g,cap,rfl,_⟩
 ·exact⟨_,_,_,rfl,rfl⟩
 ·exact⟨_,_,_,rfl,rfl⟩
theorem gu.AA {F:Nat->Prop}{w:World}{vo vp vc:Value}{P:Pr}(h:gu F w vo vp vc P):∃a2 b c2 a e c3,vp=.slice a2 b c2/\vc=.slice a e c3/\b=P.eH.length/\e=P.conj.length:=by
 obtain⟨_,_,a2,c2,a,c3,_,h2,h3⟩:=h.shape;exact⟨a2,_,c2,a,_,c3,h2,h3,rfl,rfl⟩
theorem yg.newP {F:Nat->Prop}{w w':World}{vo vp vc i:Value}{P:Pr}{Fo Fp Fc:Nat->Prop}(h:yg F w vo vp vc P Fo Fp Fc) {L:List (List Int)}(l:mK (λk=>Fp k\/w.heap.size<=k) w' i L) (b:w.grownBy w' vp.ownBlock) :
  gu (λk=>F k\/w.heap.size<=k) w' vo i vc { P with eH:=L } :=by
 have j:∀k,vp.ownBlock=some k->Fp k:=by
  obtain⟨_,_,_,_,_,h1,_⟩:=h.p;exact h1
 refine ⟨λk=>Fo k/\k<w.heap.size,λk=>Fp k/\k<w.heap.size\/w.heap.size<=k,λk=>Fc k/\k<w.heap.size,
  gX.mono h.o (λk hk a=>⟨⟨hk,a⟩,Nat.lt_of_lt_of_le a b.size,b.block k a (λe=>(h.sK k hk).2.1 (j k e.symm))⟩),
  qG.mono l (λk hk a=>⟨?_,a,rfl⟩),
  sG.mono h.c (λk hk a=>⟨⟨hk,a⟩,Nat.lt_of_lt_of_le a b.size,b.block k a (λe=>(h.dp k (j k e.symm)).2 hk)⟩),
  λk hk=>⟨.inl (h.sK k hk.1).1,λe => ?_,λe=>(h.sK k hk.1).2.2 e.1⟩,λk hk=>⟨?_,λe => ?_⟩,λk hk => .inl (h.dc k hk.1)⟩
 ·rcases hk with hk|hk
  ·rcases Nat.lt_or_ge k w.heap.size with h|h
   ·exact .inl ⟨hk,h⟩
   ·exact .inr h
  ·exact .inr hk
 ·rcases e with e|e
  ·exact(h.sK k hk.1).2.1 e.1
  ·omega
 ·rcases hk with hk|hk
  ·exact .inl (h.dp k hk.1).1
  ·exact .inr hk
 ·rcases hk with hk|hk
  ·exact(h.dp k hk.1).2 e.1
  ·omega
theorem yg.Gc {F:Nat->Prop}{w w':World}{vo vp vc i:Value}{P:Pr}{Fo Fp Fc:Nat->Prop}(h:yg F w vo vp vc P Fo Fp Fc) {L:List (List (List Int))}(l:pF (λk=>Fc k\/w.heap.size<=k) w' i L) (b:w.grownBy w' vc.ownBlock) :
  gu (λk=>F k\/w.heap.size<=k) w' vo vp i { P with conj:=L } :=by
 have j:∀k,vc.ownBlock=some k->Fc k:=by
  obtain⟨_,_,_,_,_,h1,_⟩:=h.c;exact h1
 refine ⟨λk=>Fo k/\k<w.heap.size,λk=>Fp k/\k<w.heap.size,λk=>Fc k/\k<w.heap.size\/w.heap.size<=k,
  gX.mono h.o (λk hk a=>⟨⟨hk,a⟩,Nat.lt_of_lt_of_le a b.size,b.block k a (λe=>(h.sK k hk).2.2 (j k e.symm))⟩),
  qG.mono h.p (λk hk a=>⟨⟨hk,a⟩,Nat.lt_of_lt_of_le a b.size,b.block k a (λe=>(h.dp k hk).2 (j k e.symm))⟩),
  sG.mono l (λk hk a=>⟨?_,a,rfl⟩),
  λk hk=>⟨.inl (h.sK k hk.1).1,λe=>(h.sK k hk.1).2.1 e.1,λe => ?_⟩,λk hk=>⟨.inl (h.dp k hk.1).1,λe => ?_⟩,λk hk => ?_⟩
 ·rcases hk with hk|hk
  ·rcases Nat.lt_or_ge k w.heap.size with h|h
   ·exact .inl ⟨hk,h⟩
   ·exact .inr h
  ·exact .inr hk
 ·rcases e with e|e
  ·exact(h.sK k hk.1).2.2 e.1
  ·omega
 ·rcases e with e|e
  ·exact(h.dp k hk.1).2 e.1
  ·omega
 ·rcases hk with hk|hk
  ·exact .inl (h.dc k hk.1)
  ·exact .inr hk
theorem M5 {w:World}{vo:Value}{o:List Int}{B:Nat}(h:Own B w vo o) (a:o.length<=1000):gu (From B) w vo (.slice none 0 0) (.slice none 0 0) ⟨o,[],[]⟩:=
 ⟨λk=>vo.ownBlock=some k,λ_=>False,λ_=>False,⟨h.weak (Nat.zero_le _),λ_ hk=>hk,by show o.length<=_;omega⟩,
  ⟨[],λ_ _=>False,rfl,by simp,World.ownsRow_nil _ _ _ _,by simp[Value.ownBlock],by simp,by simp,by simp⟩,⟨[],λ_ _=>False,rfl,by simp,World.ownsRow_nil _ _ _ _,by simp[Value.ownBlock],by simp,by simp,by simp⟩,
  λk hk=>⟨(h.lt k hk).1,λh=>h,λh=>h⟩,λ_ h=>h.elim,λ_ h=>h.elim⟩
theorem qd (w:World) (ov:Value) (o:List Int) (S:Nat->Prop) (ho:Ints S w ov o) (hl:o.length<=100) :
  Calls Tryz.prog 222 #[ov] w (fq w (Cz w.heap.size (j0 o))):=by
 obtain⟨ao,iA,rfl,_,_⟩:=ho.shape;have W:Ext w (w.alloc (.cells #[.slice none 0 0,.slice none 0 0,.slice none 0 0] 28)):=World.grownBy_alloc _ _ _;have X:=fG.made w 28 (.slice none 0 0) (.slice none 0 0) (.slice none 0 0);have q:=mD (w.alloc (.cells #[.slice none 0 0,.slice none 0 0,.slice none 0 0] 28)) _ o S (ho.ext W) (by omega);have aJ:=Lib.hid X;clear X;go_enter Tryz.func222,Tryz.ntmps222;go_wp2_with fail
 have J:(w.alloc (.cells #[.slice none 0 0,.slice none 0 0,.slice none 0 0] 28)).heap.size=w.heap.size+1:=by simp
 rw[J] at q;generalize w.alloc (.cells #[.slice none 0 0,.slice none 0 0,.slice none 0 0] 28)=w0 at *;refine Calls.mono q ?_;rintro e1 a ⟨v1,rfl,hg1,K⟩;clear q;obtain⟨a1,c1,yh,_⟩:=(K.ints (by omega)).shape;subst yh;go_wp2_with fail
 have Y:=fG.made a 28 (.slice a1 o.length c1) (.slice none 0 0) (.slice none 0 0);have L:Ext a (a.alloc (.cells #[.slice a1 o.length c1,.slice none 0 0,.slice none 0 0] 28)):=World.grownBy_alloc _ _ _
 have Z:gu (λk=>w.heap.size+1<=k/\k≠a.heap.size) (a.alloc (.cells #[.slice a1 o.length c1,.slice none 0 0,.slice none 0 0] 28)) (.slice a1 o.length c1) (.slice none 0 0) (.slice none 0 0) ⟨o,[],[]⟩:=
  (M5 K (by omega)).mono (λk hk b=>⟨⟨hk,by omega⟩,Nat.lt_of_lt_of_le b L.size,L.block k b (by simp)⟩)
 have aa:=hg1.size;have T:=Lib.hid (And.intro J aa);clear J aa K;generalize a.alloc (.cells #[.slice a1 o.length c1,.slice none 0 0,.slice none 0 0] 28)=w2 at *
 go_loopw [5] (λiv wr=>∃(i:Nat) (vp vc:Value),iv=.int .i64 i/\i<=o.length/\Ext w0 wr/\fG wr a.heap.size (.slice a1 o.length c1) vp vc /\
  gu (λk=>w.heap.size+1<=k/\k≠a.heap.size) wr (.slice a1 o.length c1) vp vc ⟨o,List.replicate i (zeros o.length),(List.range i).map (kL o.length)⟩) (λiv _=>o.length-(intOf iv).toNat)
 case atStart=>exact⟨0,_,_,rfl,by omega,dy hg1 L,Y,Z⟩
 case round=>
  clear Y Z;obtain⟨i,vp,vc,rfl,hi,hg,hB,hX⟩:=hrel;by_cases b:i<o.length
  ·have a5:(i:Int)<o.length:=by omega
   obtain⟨Fo,Fp,Fc,hP⟩:=hX.part;obtain⟨a2,n2,c2,U,V,c3,rfl,rfl,A,B⟩:=hX.AA
   have r:(Value.slice a2 n2 c2).ownBlock≠some a.heap.size:=by
    obtain⟨_,_,_,_,_,M,_⟩:=hP.p;exact λe=>(hP.dp _ (M _ e)).1.2 rfl
   have HN:=Lib.hid (And.intro A (And.intro r B));clear A B r;obtain⟨h0,h1,h2,h3,h4⟩:=id hB;have aL:=F6 o.length (by omega);have ac:Ext wr (wr.alloc (.cells (madeCells #[.int .i64 0] o.length) 2)).drew:=dy (World.grownBy_alloc _ _ _) (fk _ _)
   have ad:gf (From wr.heap.size) (wr.alloc (.cells (madeCells #[.int .i64 0] o.length) 2)).drew (.slice (some ⟨wr.heap.size,0,none⟩) o.length o.length) (zeros o.length):=by
    have:=(tN o.length (by omega) wr).gw (fk _ none);exact gf.of this (by rw[Gb];omega) (λk hk _=>hk)
   have ae:(List.replicate i (zeros o.length)).length<=1000000:=by simp;omega
   have af:(Value.slice (some ⟨wr.heap.size+1,0,none⟩) 1 1)=.slice (some ⟨(wr.alloc (.cells (madeCells #[.int .i64 0] o.length) 2)).drew.heap.size,0,none⟩) 1 1:=by simp
   have HM:=Lib.hid (And.intro ac (And.intro ad (And.intro ae af)));clear ac ad ae af;go_wp2_with fail
   go_region_law (refine F5 gX 25 (.slice none 0 0) 24 qg Tryz.qh rfl (by decide) (by rfl) _ _ (by rfl) Fp wr (wr.alloc (.cells (madeCells #[.int .i64 0] o.length) 2)).drew _ _ (List.replicate i (zeros o.length)) (zeros o.length) (by rfl) hP.p HM.out.1 HM.out.2.1 (by rfl) (by exact HM.out.2.2.2) HM.out.2.2.1 ?_;intro v5 N u l ah;obtain⟨E,m5,F,rfl,ai⟩:=fZ.sl u;have aM:m5=i+1:=(by rw[ai];simp);clear ai;subst aM;have O:=fG.keep hB l.size (l.block _ hB.1 (λe=>HN.out.2.1 e.symm));obtain⟨f0,f1,f2,f3,f4⟩:=id O)
   all_goals
    have aj:=(O.put (.slice E (i+1) F)).2.1;have Q:=Go.Proofs.YtoakmefajbbggaaGreat.u6 N a.heap.size 1 (.slice E (i+1) F)
    have ak:gu (λk=>w.heap.size+1<=k/\k≠a.heap.size) (N.setCell ⟨a.heap.size,1,none⟩ (.slice E (i+1) F)) (.slice a1 o.length c1) (.slice E (i+1) F) (.slice U V c3) ⟨o,List.replicate (i+1) (zeros o.length),(List.range i).map (kL o.length)⟩:=by
     have aN:=hP.newP u l;rw[show List.replicate (i+1) (zeros o.length)=List.replicate i (zeros o.length)++[zeros o.length] from List.replicate_succ']
     exact aN.mono (iQ Q (λk hk b=>by
      have aO:(w.heap.size+1<=k/\k≠a.heap.size)\/wr.heap.size<=k:=hk;refine⟨?_,λe => ?_⟩
      ·have:=T.out;have:=hB.1
       omega
      ·cases e;have:=hB.1;omega))
    have G:Ext w0 (N.setCell ⟨a.heap.size,1,none⟩ (.slice E (i+1) F)):=fu (fu hg l (λj z b=>by
     obtain⟨_,_,_,_,_,M,_⟩:=hP.p;have:=(hP.dp _ (M _ z)).1;have:=T.out;omega)) Q (λj z b=>by cases z;have:=T.out;omega)
    have H:N.heap.size=(N.setCell ⟨a.heap.size,1,none⟩ (.slice E (i+1) F)).heap.size:=by simp
    have al:=Lib.hid H;clear H;have C:=Lib.hid (And.intro aj (And.intro ak G));clear aj ak G Q O u l ah hP hX hB hg h0 h1 h2 h3 h4 HM HN aL;go_wp2;clear f0 f1 f2 f3 f4;generalize N.setCell ⟨a.heap.size,1,none⟩ (.slice E (i+1) F)=m at *;rw[al.out];clear al;have am:Ext m (m.alloc (.cells #[] 24)):=World.grownBy_alloc _ _ _;have an:iL m.heap.size (m.alloc (.cells #[] 24)) (.slice (some ⟨m.heap.size,0,none⟩) 0 0) ((kL o.length i).take 0):=⟨[],λ_ _=>False,rfl,World.ownsRow_lit m #[] 0 (Nat.le_refl _) (by decide) rfl,by simp,by simp,by simp⟩;have ap:=Ga o.length i;have HC:=Lib.hid ap;clear ap;go_loopw [6,7] (λrv jv wr=>∃(j:Nat) (v4:Value),v4=rv/\jv=.int .i64 ((i+1+j:Nat):Int)/\i+1+j<=o.length/\Ext m wr/\iL m.heap.size wr v4 ((kL o.length i).take j)) (λ_ jv _=>o.length-(intOf jv).toNat)
    case atStart=>exact⟨0,_,rfl,by go_num,by omega,am,an⟩
    case round=>
     clear an am;obtain⟨j,v4,rfl,rfl,z,D,hO⟩:=hrel;by_cases aq:i+1+j<o.length
     ·have aR:((i+1+j:Nat):Int)<o.length:=by omega
      have y:(kL o.length i).take (j+1)=(kL o.length i).take j++[fQ o.length (i+1+j)]:=by
       rw[je _ j (by rw[HC.out];omega)];unfold kL;rw[jM _ _ _ (by simp;omega),gM _ _ (by simp;omega),List.getElem_range]
      have ar:((kL o.length i).take j).length<=1000000:=by rw[List.length_take];omega
      have HS:=Lib.hid (And.intro y ar);clear y ar;go_wp2_with fail
      refine Calls.mono (uz o.length (i+1+j) wr aq (by omega)) ?_;rintro eC wC ⟨vC,rfl,aS,oD⟩;have au:gf (From wr.heap.size) wC vC (fQ o.length (i+1+j)):=gf.of oD (by rw[pG];omega) (λj h1 _=>h1);obtain⟨ay,nM,oF,_,_⟩:=au.ints.shape;subst oF;go_wp2_with (first|(at_builtin;refine rA rfl _ _ rfl m.heap.size wr wC v4 _ ((kL o.length i).take j) (fQ o.length (i+1+j)) rfl hO aS au rfl rfl HS.out.2 D.size ?_;intro v5 N u l ah;have av:=hO.vn D (Nat.le_refl _) l)|fail)
      go_roundw
      case rel=>exact⟨j+1,v5,rfl,by go_num,by omega,av,by rw[HS.out.1];exact u⟩
      case measure=>simp[intOf];omega
     ·have aT:j=o.length-1-i:=by omega
      subst aT;rw[List.take_of_length_le (by rw[HC.out];exact Nat.le_refl _)] at hO;have aw:mK (From m.heap.size) wr v4 (kL o.length i):=fZ.of hO (by rw[HC.out];omega) (λk h _=>h);have R:=C.out.1.ext D;obtain⟨Fo,Fp,Fc,hP⟩:=C.out.2.1.part;have I:((List.range i).map (kL o.length)).length<=1000000:=by simp;omega
      obtain⟨a4,n4,c4,rfl,ax⟩:=fZ.sl aw
      have r:(Value.slice U V c3).ownBlock≠some a.heap.size:=by
       obtain⟨_,_,_,_,_,M,_⟩:=hP.c;exact λe=>(hP.dc _ (M _ e)).2 rfl
      have HR:=Lib.hid (And.intro I (And.intro ax r));clear I ax hO r;obtain⟨f0,f1,f2,f3,f4⟩:=id R;go_wp2_with (first|(at_builtin;refine MZ (sF gX) 26 (.slice none 0 0) 24 Gd Tryz.Ge rfl (by decide) rfl _ _ rfl Fc m wr _ _ ((List.range i).map (kL o.length)) (kL o.length i) rfl hP.c D aw rfl rfl HR.out.1 ?_;intro v8 w8 az aA aB;obtain⟨g8,m8,k8,rfl,CA⟩:=fZ.sl az;clear CA;have aF:=fG.keep R aB.size (aB.block _ R.1 (λe=>HR.out.2.2 e.symm));clear f0 f1 f2 f3 f4;obtain⟨f0,f1,f2,f3,f4⟩:=id aF)|fail)
      have aV:=(aF.put (.slice g8 m8 k8)).2.2;have aG:=Go.Proofs.YtoakmefajbbggaaGreat.u6 w8 a.heap.size 2 (.slice g8 m8 k8)
      have aW:gu (λk=>w.heap.size+1<=k/\k≠a.heap.size) (w8.setCell ⟨a.heap.size,2,none⟩ (.slice g8 m8 k8)) (.slice a1 o.length c1) (.slice E (i+1) F) (.slice g8 m8 k8) ⟨o,List.replicate (i+1) (zeros o.length),(List.range (i+1)).map (kL o.length)⟩:=by
       have aX:=hP.Gc az aA;rw[show(List.range (i+1)).map (kL o.length)=(List.range i).map (kL o.length)++[kL o.length i] by rw[List.range_succ,List.map_append];rfl]
       exact aX.mono (iQ aG (λk hk b=>by
        have aO:(w.heap.size+1<=k/\k≠a.heap.size)\/m.heap.size<=k:=hk;have h1:=C.out.1.1;refine⟨?_,λe => ?_⟩
        ·have:=T.out
         omega
        ·cases e;omega))
      have aH:Ext w0 (w8.setCell ⟨a.heap.size,2,none⟩ (.slice g8 m8 k8)):=fu (fu C.out.2.2 aA (λj z b=>by
       obtain⟨_,_,_,_,_,M,_⟩:=hP.c;have:=hP.dc _ (M _ z);have:=T.out;omega)) aG (λj z b=>by cases z;have:=T.out;omega)
      clear f0 f1 f2 f3 f4;go_roundw
      case rel=>exact⟨i+1,_,_,by go_num,by omega,aH,aV,aW⟩
      case measure=>simp[intOf];omega
    done
  ·have aY:i=o.length:=by omega
   subst aY;have hz:=aJ.out.ext hg;obtain⟨a2,n2,c2,U,V,c3,rfl,rfl,A,B⟩:=hX.AA;clear A B;obtain⟨h0,h1,h2,h3,h4⟩:=id hB;obtain⟨k0,k1,k2,k3,k4⟩:=id hz;have hZ:=hz.all (.slice a1 o.length c1) (.slice a2 n2 c2) (.slice U V c3);have hT:=jh wr w.heap.size (.slice a1 o.length c1) (.slice a2 n2 c2) (.slice U V c3);obtain⟨_,z0,z1,z2,_⟩:=id hZ;have HT:=Lib.hid hT;clear hT hZ;go_wp2;refine bodyPost_ret (v := .agg #[.slice a1 o.length c1,.slice a2 n2 c2,.slice U V c3]) (by simp[results,Tryz.results222,go_sem,z0,z1,z2]) rfl ?_;exact⟨_,rfl,fu (dy W hg) HT.out (λj z b=>by cases z;omega),_,_,_,rfl,hX.mono (iQ HT.out (λk hk _=>⟨by show w.heap.size<=k;omega,λe=>by cases e;omega⟩))⟩
end Go.Proofs.YtoakmefajbbggaaGreat
namespace Go.Proofs.YtoakmefajbbggaaGreat
open Go.RowKit
def PX (N:Nat) (o:List Int) (F:Nat->Prop) (w:World) (vo vp vc:Value):Prop:=∃P,jK N P/\P.orders=o/\gu F w vo vp vc P
structure BX (N:Nat) (o:List Int) (B pb:Nat) (w:World) (vo vp vc:Value):Prop where
 hB:B<=pb
 box:fG w pb vo vp vc
 px:PX N o (λk=>B<=k/\k≠pb) w vo vp vc
theorem PX.ext {N:Nat}{o:List Int}{F:Nat->Prop}{w w':World}{vo vp vc:Value}(h:PX N o F w vo vp vc) (b:Ext w w'):PX N o F w' vo vp vc:=by
 obtain⟨P,h1,h2,h3⟩:=h;exact⟨P,h1,h2,h3.mono (λk hk a=>⟨hk,Nat.lt_of_lt_of_le a b.size,b.block k a (by simp)⟩)⟩
theorem BX.ext {N:Nat}{o:List Int}{B pb:Nat}{w w':World}{vo vp vc:Value}(h:BX N o B pb w vo vp vc) (a:Ext w w'):BX N o B pb w' vo vp vc:=⟨h.hB,h.box.ext a,h.px.ext a⟩
theorem BX.qH {N:Nat}{o:List Int}{B pb:Nat}{w:World}{vo vp vc:Value}(h:BX N o B pb w vo vp vc) (i:Nat) (l:i<o.length) :
  ∃ g cap z,vp=.slice (some ⟨g,0,none⟩) o.length cap/\B<=g/\g≠pb/\g<w.heap.size/\(∀a,Ext w a->a.cell? ⟨g,i,none⟩=some z/\a.frozen? ⟨g,i,none⟩=false) /\
   ∀a u y,Ext w a->gf (From w.heap.size) a u y->y.length<=N->BX N o B pb (a.setCell ⟨g,i,none⟩ u) vo vp vc:=by
 obtain⟨P,h1,h2,h3⟩:=h.px;obtain⟨g,cap,z,q,⟨q1,q2⟩,m,q4,r,A⟩:=h3.M0 i (by rw[h1.p,h2];exact l);have j:=h.box.1;have hB:=h.hB;refine⟨g,cap,z,by rw[q,h1.p,h2],q1,q2,m,λa b=>⟨b.cell q4 (by simp),(World.frozen?_of_block (b.block g m (by simp))).trans (r i (by rw[h1.p,h2];exact l))⟩,λa u y b C hy=>⟨hB,fG.keep h.box (dy (fH (some g) b) (iG a g i u)).size ((dy (fH (some g) b) (iG a g i u)).block _ j (λe=>q2 (by cases e;rfl))),vh P i y,h1.vh i hy,h2,?_⟩⟩;exact(A a u y b C).wide (λk hk=>by rcases hk with hk|hk;exact hk;exact⟨by omega,by omega⟩)
theorem BX.vq {N:Nat}{o:List Int}{B pb:Nat}{w:World}{vo vp vc:Value}(h:BX N o B pb w vo vp vc) (i j:Nat) (E:i<o.length) (F:j<o.length-1-i) :
  ∃ g cap b l z,vc=.slice (some ⟨g,0,none⟩) o.length cap/\B<=g/\g≠pb/\g<w.heap.size/\w.cell? ⟨g,i,none⟩=some (.slice (some ⟨b,0,none⟩) (o.length-1-i) l)/\B<=b/\b≠pb/\b≠g/\b<w.heap.size /\
   (∀a,Ext w a->a.cell? ⟨b,j,none⟩=some z/\a.frozen? ⟨b,j,none⟩=false) /\
   ∀a u y,Ext w a->gf (From w.heap.size) a u y->y.length<=N->BX N o B pb (a.setCell ⟨b,j,none⟩ u) vo vp vc:=by
 obtain⟨P,h1,q,h3⟩:=h.px;have m:i<P.orders.length:=by rw[q];exact E
 have A:(gt P.conj i).length=o.length-1-i:=by rw[h1.cl i m,q]
 obtain⟨g,cap,b,l,z,G,⟨q1,q2⟩,q3,C,⟨r1,r2⟩,r3,D,r5,H,I⟩:=h3.F7 i j (by rw[h1.c];exact m) (by rw[A];exact F);have r:=h.box.1;have hB:=h.hB;rw[A] at C;refine⟨g,cap,b,l,z,by rw[G,h1.c,q],q1,q2,q3,C,r1,r2,r3,D,λa p=>⟨p.cell r5 (by simp),(World.frozen?_of_block (p.block b D (by simp))).trans H⟩,λa u y p J hy=>⟨hB,fG.keep h.box (dy (fH (some b) p) (iG a b j u)).size ((dy (fH (some b) p) (iG a b j u)).block _ r (λe=>r2 (by cases e;rfl))),sJ P i j y,h1.sJ i j m hy,q,?_⟩⟩;exact(I a u y p J).wide (λk hk=>by rcases hk with hk|hk;exact hk;exact⟨by omega,by omega⟩)
def pH (N B:Nat) (w':World) (v:Value):Prop:=∃P,jK N P/\Cz B P w' v
theorem pH.weak {N B B':Nat}{w':World}{v:Value}(h:pH N B w' v) (hB:B'<=B):pH N B' w' v:=by
 obtain⟨P,h1,a,b,c,e,h2⟩:=h;exact⟨P,h1,a,b,c,e,h2.wide (λk hk=>Nat.le_trans hB hk)⟩
theorem BX.ret {N:Nat}{o:List Int}{B pb:Nat}{w:World}{vo vp vc:Value}(h:BX N o B pb w vo vp vc) {w':World}{r:Nat}(a:w.grownBy w' (some r)) (b:r<B):pH N B w' (.agg #[vo,vp,vc]):=by
 obtain⟨P,h1,h2,h3⟩:=h.px;exact⟨P,h1,_,_,_,rfl,h3.mono (iQ a (λk hk _=>⟨hk.1,λe=>by cases e;have:B<=r:=hk.1;omega⟩))⟩
theorem BX.start {N:Nat}{o:List Int}{B:Nat}{w w':World}{vo vp vc:Value}(e:o.length<=N) (h:gu (From B) w vo vp vc (j0 o)) (b:Ext w w') (i:fG w' w.heap.size vo vp vc) (hB:B<=w.heap.size):BX N o B w.heap.size w' vo vp vc:=
 ⟨hB,i,j0 o,vk o e,rfl,h.mono (λk hk a=>⟨⟨hk,by omega⟩,Nat.lt_of_lt_of_le a b.size,b.block k a (by simp)⟩)⟩
structure l7 (N:Nat) (o:List Int) (F:Nat->Prop) (pb:Nat) (w:World) (vo vp vc:Value):Prop where
 ne:¬F pb
 box:fG w pb vo vp vc
 px:PX N o F w vo vp vc
theorem BX.f {N:Nat}{o:List Int}{B pb:Nat}{w:World}{vo vp vc:Value}(h:BX N o B pb w vo vp vc):l7 N o (λk=>B<=k/\k≠pb) pb w vo vp vc:=⟨λh=>h.2 rfl,h.box,h.px⟩
theorem l7.ext {N:Nat}{o:List Int}{F:Nat->Prop}{pb:Nat}{w w':World}{vo vp vc:Value}(h:l7 N o F pb w vo vp vc) (a:Ext w w'):l7 N o F pb w' vo vp vc:=⟨h.ne,h.box.ext a,h.px.ext a⟩
theorem l7.turn {N:Nat}{o:List Int}{F F':Nat->Prop}{pb:Nat}{w:World}{vo vp vc:Value}(h:l7 N o F pb w vo vp vc) (hF:∀k,F k->k<w.heap.size->F' k) (b:¬F' pb):l7 N o F' pb w vo vp vc:=by
 obtain⟨P,h1,h2,h3⟩:=h.px;exact⟨b,h.box,P,h1,h2,h3.mono (λk hk a=>⟨hF k hk a,a,rfl⟩)⟩
theorem l7.bx {N:Nat}{o:List Int}{F:Nat->Prop}{B pb:Nat}{w:World}{vo vp vc:Value}(h:l7 N o F pb w vo vp vc) (hB:B<=pb) (hF:∀k,F k->B<=k):BX N o B pb w vo vp vc:=by
 obtain⟨P,h1,h2,h3⟩:=h.px;exact⟨hB,h.box,P,h1,h2,h3.wide (λk hk=>⟨hF k hk,λe=>h.ne (e▸hk)⟩)⟩
theorem l7.vq {N:Nat}{o:List Int}{F:Nat->Prop}{pb:Nat}{w:World}{vo vp vc:Value}(h:l7 N o F pb w vo vp vc) (i j:Nat) (H:i<o.length) (I:j<o.length-1-i) (hF:∀k,w.heap.size<=k->F k) :
  ∃ g cap b l z,vc=.slice (some ⟨g,0,none⟩) o.length cap/\F g/\g≠pb/\g<w.heap.size/\w.cell? ⟨g,i,none⟩=some (.slice (some ⟨b,0,none⟩) (o.length-1-i) l)/\F b/\b≠pb/\b≠g/\b<w.heap.size /\
   (∀a,Ext w a->a.cell? ⟨b,j,none⟩=some z/\a.frozen? ⟨b,j,none⟩=false) /\
   ∀a u y,Ext w a->gf (From w.heap.size) a u y->y.length<=N->l7 N o F pb (a.setCell ⟨b,j,none⟩ u) vo vp vc:=by
 obtain⟨P,h1,q,h3⟩:=h.px;have m:i<P.orders.length:=by rw[q];exact H
 have A:(gt P.conj i).length=o.length-1-i:=by rw[h1.cl i m,q]
 obtain⟨g,cap,b,l,z,J,B,q3,C,D,r3,E,r5,K,L⟩:=h3.F7 i j (by rw[h1.c];exact m) (by rw[A];exact I);have r:=h.box.1;rw[A] at C;have M:g≠pb:=λe=>h.ne (e▸B);have G:b≠pb:=λe=>h.ne (e▸D);refine⟨g,cap,b,l,z,by rw[J,h1.c,q],B,M,q3,C,D,G,r3,E,λa p=>⟨p.cell r5 (by simp),(World.frozen?_of_block (p.block b E (by simp))).trans K⟩,λa u y p O hy=>⟨h.ne,fG.keep h.box (dy (fH (some b) p) (iG a b j u)).size ((dy (fH (some b) p) (iG a b j u)).block _ r (λe=>G (by cases e;rfl))),sJ P i j y,h1.sJ i j m hy,q,?_⟩⟩;exact(L a u y p O).wide (λk hk=>by rcases hk with hk|hk;exact hk;exact hF k hk)
theorem rB {F:Nat->Prop}{w:World}{vo vp vc:Value}{o:List Int}(h:gu F w vo vp vc (j0 o)):∃a c a2 c2 b c3,vo=.slice a o.length c/\vp=.slice a2 o.length c2/\vc=.slice b o.length c3:=by
 obtain⟨a,c,a2,c2,b,c3,e1,e,i⟩:=h.shape;exact⟨a,c,a2,c2,b,c3,e1,by rw[e];simp[j0],by rw[i];simp[j0]⟩
section
variable {α:Type} [Inhabited α] {El:(Nat->Prop)->World->Value->α->Prop}{E:Nat}
theorem fZ.CB (l:j8 El) {F U:Nat->Prop}{g n cap:Nat}{w:World}{xs:List α}{u:Value}{y:α}(h:fZ El E F w (.slice (some ⟨g,0,none⟩) n cap) xs)
  (B:El U w u y) (C:∀k,U k->¬F k) (j:Nat) :
  Sl (λw u x=>El (λk=>F k\/U k) w u x) (λk=>F k\/U k) (w.setCell ⟨g,j,none⟩ u) (.slice (some ⟨g,0,none⟩) n cap) (xs.set j y):=by
 obtain⟨m,G,hvl,hl,hO,hF,z,hd,D⟩:=h;have r:=(hO.lt g rfl).2;have p:=hF g rfl
 have H:n=m.length:=by
  obtain⟨_,⟨h,_⟩|⟨_,_,_,h,_⟩⟩:=hO<;>cases h;rfl
 subst H
 have A:m.length<=cap:=by
  rcases hO.form with⟨h,_⟩|⟨_,_,h,h2,_⟩
  ·cases h
  ·cases h;exact h2
 obtain⟨h1,h2⟩:=World.ownsRow.stored hO j u;have h1:fK 0 E (w.setCell ⟨g,j,none⟩ u) (.slice (some ⟨g,0,none⟩) m.length cap) (m.set j u):=by unfold fK;rw[List.length_set];exact h1
 have a:(w.setCell ⟨g,j,none⟩ u).heap.size=w.heap.size:=by simp[World.setCell]
 have hblk:∀k,k≠g->(w.setCell ⟨g,j,none⟩ u).heap[k]? = w.heap[k]? :=λk hk=>Below.heap_setCell _ _ _ _ (by simpa using hk);refine⟨_,cap,by rw[List.length_set,hvl],⟨by rw[List.length_set];omega,by rw[List.length_set];exact hl,λh=>by cases h⟩,λi q => ?_⟩;rw[List.length_set] at q;refine⟨g,0,gt (m.set j u) i,rfl,.inl p,by rw[a];exact r,by rw[Nat.zero_add];exact h1.cell i (by rw[List.length_set];omega),?_⟩;by_cases e:j=i
 ·subst e
  rw[iN _ _ _ (by omega),iN _ _ _ q];exact l.mono B (λk hk b=>⟨.inr hk,by rw[a];exact b,hblk k (λe=>C k hk (e▸p))⟩)
 ·rw [iy _ _ _ _ e,iy _ _ _ _ e]
  exact l.mono (D i q) (λk hk b=>⟨.inl (z i k q hk).1,by rw[a];exact b,hblk k (λe=>(z i k q hk).2.1 (by rw[e];rfl))⟩)
end
theorem gu.CC {F U:Nat->Prop}{w:World}{vo vp vc u:Value}{P:Pr}{y:List Int}(h:gu F w vo vp vc P) (i:Nat) (m:i<P.eH.length) (B:Ints U w u y) (C:∀k,U k->¬F k) :
  ∃ g cap z,vp=.slice (some ⟨g,0,none⟩) P.eH.length cap/\F g/\g<w.heap.size/\w.cell? ⟨g,i,none⟩=some z/\w.frozen? ⟨g,i,none⟩=false /\
   fA (λk=>F k\/U k) (w.setCell ⟨g,i,none⟩ u) vo vp vc (vh P i y):=by
 obtain⟨Fo,Fp,Fc,h1,p,D,A,l,E⟩:=h;rcases fZ.form p with⟨_,e⟩|⟨g,cap,rfl,a,jB⟩
 ·rw[e] at m;simp at m
 obtain⟨⟨z,hz⟩,hf⟩:=fZ.place p i m;have j:(w.setCell ⟨g,i,none⟩ u).heap.size=w.heap.size:=by simp[World.setCell]
 have hblk:∀k,k≠g->(w.setCell ⟨g,i,none⟩ u).heap[k]? = w.heap[k]? :=λk hk=>Below.heap_setCell _ _ _ _ (by simpa using hk);have q:fZ (λF w u (x:List Int)=>Ints F w u x) 24 Fp w (.slice (some ⟨g,0,none⟩) P.eH.length cap) P.eH:=fZ.map (λ_ _ _ _ h=>h.ints) p;have r:j8 (λF w u (x:List Int)=>Ints F w u x):=⟨λh G=>Ints.mono h G,λh=>by obtain⟨_,_,rfl,_⟩:=h.shape;rfl⟩;have H:=fZ.CB r q B (λk hk h=>C k hk (l k h).1) i;refine⟨g,cap,z,rfl,(l g a).1,jB,hz,hf,⟨?_,?_,?_⟩⟩
 ·exact Ints.mono h1.ints (λk hk b=>⟨.inl (A k hk).1,by rw[j];exact b,hblk k (λe=>(A k hk).2.1 (e▸a))⟩)
 ·exact dK.sub (S:=λk=>Fp k\/U k) H (λk hk _=>hk.elim (λh => .inl (l k h).1) .inr)
 ·exact fU.mono (pF.rows D) (λk hk b=>⟨.inl (E k hk),by rw[j];exact b,hblk k (λe=>(l g a).2 (e▸hk))⟩)
theorem gu.M6 {F U:Nat->Prop}{w:World}{vo vp vc u:Value}{P:Pr}{y:List Int}(h:gu F w vo vp vc P) (i j:Nat) (B:i<P.conj.length) (N:j<(gt P.conj i).length) (hu:Ints U w u y) (hU:∀k,U k->¬F k) :
  ∃ g cap b l z,vc=.slice (some ⟨g,0,none⟩) P.conj.length cap/\F g/\g<w.heap.size/\w.cell? ⟨g,i,none⟩=some (.slice (some ⟨b,0,none⟩) (gt P.conj i).length l)/\F b/\b≠g/\b<w.heap.size /\
   w.cell? ⟨b,j,none⟩=some z/\w.frozen? ⟨b,j,none⟩=false/\fA (λk=>F k\/U k) (w.setCell ⟨b,j,none⟩ u) vo vp vc (sJ P i j y):=by
 obtain⟨Fo,Fp,Fc,h1,h2,O,Z,h5,H⟩:=h;rcases fZ.form O with⟨_,e⟩|⟨g,cap,rfl,I,jB⟩
 ·rw[e] at B;simp at B
 have Q:=O;obtain⟨J,G,hvl,hl,hO,hF,M,hd,hE⟩:=O;have hn:J.length=P.conj.length:=hvl;have q:=hE i B;rcases fZ.form q with⟨_,e⟩|⟨b,l,C,K,hbl⟩
 ·rw[e] at N;simp at N
 rw[C] at q;obtain⟨D,r,_⟩:=M i b B K;have r:b≠g:=λe=>r (by rw[e];rfl);obtain⟨⟨z,hz⟩,hf⟩:=fZ.place q j N
 have R:w.cell? ⟨g,i,none⟩=some (.slice (some ⟨b,0,none⟩) (gt P.conj i).length l):=by
  rw[<-C];have E:fK 0 25 w (.slice (some ⟨g,0,none⟩) P.conj.length cap) J:=hO;exact E.cell i (by omega)
 have L:fZ (λF w u (x:List Int)=>Ints F w u x) 24 (G i) w (.slice (some ⟨b,0,none⟩) (gt P.conj i).length l) (gt P.conj i):=fZ.map (λ_ _ _ _ h=>h.ints) q;have T:j8 (λF w u (x:List Int)=>Ints F w u x):=⟨λh hb=>Ints.mono h hb,λh=>by obtain⟨_,_,rfl,_⟩:=h.shape;rfl⟩;have hp:=fZ.CB T L hu (λk hk h=>hU k hk (H k (M i k B h).1)) j;have A:(w.setCell ⟨b,j,none⟩ u).heap.size=w.heap.size:=by simp[World.setCell]
 have hblk:∀k,k≠b->(w.setCell ⟨b,j,none⟩ u).heap[k]? = w.heap[k]? :=λk hk=>Below.heap_setCell _ _ _ _ (by simpa using hk);have V:=pF.rows Q;refine⟨g,cap,b,l,z,rfl,H g I,jB,R,H b D,r,hbl,hz,hf,⟨?_,?_,?_⟩⟩
 ·exact Ints.mono h1.ints (λk hk p=>⟨.inl (Z k hk).1,by rw[A];exact p,hblk k (λe=>(Z k hk).2.2 (e▸D))⟩)
 ·exact dK.mono (mK.rows h2) (λk hk p=>⟨.inl (h5 k hk).1,by rw[A];exact p,hblk k (λe=>(h5 k hk).2 (e▸D))⟩)
 ·refine ⟨_,cap,by show _=Value.slice _ (P.conj.set i _).length _;rw[List.length_set],⟨?_,?_,λh=>by cases h⟩,λk hk => ?_⟩
  ·obtain ⟨a,c,e,W,_⟩:=Sl.shape V
   cases e
   show(P.conj.set i _).length<=_;rw[List.length_set];exact W
  ·show(P.conj.set i _).length<=_;rw[List.length_set];exact hl
  ·have hk:k<P.conj.length:=by
    have hk:k<(P.conj.set i ((gt P.conj i).set j y)).length:=hk;rw[List.length_set] at hk;exact hk
   show ∃aj off X,_/\_/\_/\_/\dK _ _ X (gt (P.conj.set i ((gt P.conj i).set j y)) k)
   have E:fK 0 25 w (.slice (some ⟨g,0,none⟩) P.conj.length cap) J:=hO
   have Y:(w.setCell ⟨b,j,none⟩ u).cell? ⟨g,0+k,none⟩=some (gt J k):=by
    rw[Nat.zero_add,World.cell?_of_block (w:=w) (a:=⟨g,k,none⟩) (hblk g (λe=>r e.symm))];exact E.cell k (by omega)
   refine⟨g,0,gt J k,rfl,.inl (H g I),by rw[A];exact jB,Y,?_⟩;by_cases e:i=k
   ·subst e
    rw[iN _ _ _ B,C];exact dK.sub (S:=λk=>G i k\/U k) hp (λk hk _=>hk.elim (λh => .inl (H k (M i k B h).1)) .inr)
   ·rw [iy _ _ _ _ e]
    have hr:=mK.rows (hE k hk);exact dK.mono hr (λm hm p=>⟨.inl (H m (M k m hk hm).1),by rw[A];exact p,hblk m (λW=>e (hd i k b B hk K (W▸hm)))⟩)
end Go.Proofs.YtoakmefajbbggaaGreat
namespace Go.Proofs.YtoakmefajbbggaaGreat
open Go.RowKit
attribute [local go_sem ↓] Go.wp_at_zero Go.wp_at_succ
theorem M7 {P:Pr}{N:Nat}(h:jK N P) (b:N<=1000):(∀x∈P.eH,x.length<=1000000)/\P.eH.length<=1000000/\P.conj.length<=1000000/\(∀i,i<P.conj.length->(∀x∈gt P.conj i,x.length<=1000000)/\(gt P.conj i).length<=1000000):=by
 have e:=h.n;refine⟨λx hx=>by have:=h.pv x hx;omega,by rw[h.p];omega,by rw[h.c];omega,λi a=>⟨λx hx => ?_,?_⟩⟩
 ·have:=h.cv _ (by rw[gM _ i a];exact List.getElem_mem a) x hx
  omega
 ·rw[h.cl i (by rw[<-h.c];exact a)];omega
def Gf (w0:World) (P:Pr) (q:Value) (e:World):Prop:=∃b a n c a2 i c2,q=.pointer (some ⟨b,0,none⟩)/\w0.heap.size<=b/\Ext w0 e/\fG e b (.slice a n c) (.slice a2 i c2) (.slice none 0 0) /\
 gu (λk=>w0.heap.size<=k/\k≠b) e (.slice a n c) (.slice a2 i c2) (.slice none 0 0) ⟨P.orders,P.eH,[]⟩
theorem CD {w0 i:World}{P:Pr}{b n c j c2 a1 a2 b1 b2:Nat}{a a':Option Addr}(l:w0.heap.size<=b) (m:Ext w0 i) (hB:fG i b (.slice a n c) (.slice a' j c2) (.slice none 0 0))
  (p:gf (λk=>a1<=k/\k<a2) i (.slice a n c) P.orders) (q:mK (λk=>b1<=k/\k<b2) i (.slice a' j c2) P.eH)
  (h1:w0.heap.size<=a1) (w:w0.heap.size<=b1) (y:a2<=b1\/b2<=a1) (r:¬(a1<=b/\b<a2)) (u:¬(b1<=b/\b<b2)):Gf w0 P (.pointer (some ⟨b,0,none⟩)) i:=
 ⟨b,a,n,c,a',j,c2,rfl,l,m,hB,λk=>a1<=k/\k<a2,λk=>b1<=k/\k<b2,λ_=>False,p,q,⟨[],λ_ _=>False,rfl,by simp,World.ownsRow_nil _ _ _ _,by simp[Value.ownBlock],by simp,by simp,by simp⟩,
  λk hk=>⟨⟨by omega,λe=>r (e▸hk)⟩,λe=>by omega,λe=>e⟩,λk hk=>⟨⟨by omega,λe=>u (e▸hk)⟩,λe=>e⟩,λk hk=>hk.elim⟩
theorem CE (w:World) (pv:Value) (P:Pr) (S:Nat->Prop) (N:Nat) (hp:gy S w pv P) (hS:jK N P) (hN:N<=1000) :
  Calls Tryz.prog 186 #[pv] w (fq w (Cz w.heap.size P)):=by
 obtain⟨vo,vp,vc,rfl,h3⟩:=hp;obtain⟨Q,m,nN,_,_⟩:=h3.o.shape;obtain⟨ap,q,hvp,_,_⟩:=Sl.shape h3.p;obtain⟨R,l,mL,_,_⟩:=Sl.shape h3.c;subst nN hvp mL;have aj:Ext w ((w.alloc (.cells #[.slice Q P.orders.length m,.slice ap P.eH.length q,.slice R P.conj.length l] 28)).alloc (.cells #[.slice none 0 0,.slice none 0 0,.slice none 0 0] 28)):=dy (World.grownBy_alloc _ _ _) (World.grownBy_alloc _ _ _);have ak:=(fG.made w 28 (.slice Q P.orders.length m) (.slice ap P.eH.length q) (.slice R P.conj.length l)).ext (World.grownBy_alloc _ (.cells #[.slice none 0 0,.slice none 0 0,.slice none 0 0] 28) _);have T:=fG.made (w.alloc (.cells #[.slice Q P.orders.length m,.slice ap P.eH.length q,.slice R P.conj.length l] 28)) 28 (.slice none 0 0) (.slice none 0 0) (.slice none 0 0);have al:(w.alloc (.cells #[.slice Q P.orders.length m,.slice ap P.eH.length q,.slice R P.conj.length l] 28)).heap.size=w.heap.size+1:=by simp
 have U:((w.alloc (.cells #[.slice Q P.orders.length m,.slice ap P.eH.length q,.slice R P.conj.length l] 28)).alloc (.cells #[.slice none 0 0,.slice none 0 0,.slice none 0 0] 28)).heap.size=w.heap.size+2:=by simp
 rw[al] at T;have hb:=M7 hS hN;have hn:=hS.n;have z:=Lib.hid (And.intro ak (And.intro T (And.intro U (And.intro hb (And.intro hS hn)))));clear ak T al U hb hn;go_enter Tryz.func186,Tryz.ntmps186;go_wp2_with fail
 generalize (w.alloc (.cells #[.slice Q P.orders.length m,.slice ap P.eH.length q,.slice R P.conj.length l] 28)).alloc (.cells #[.slice none 0 0,.slice none 0 0,.slice none 0 0] 28)=w0 at *;have V:=h3.ext aj;have e0:∀w',Ext w0 w'->w'.cell? ⟨w.heap.size,0,none⟩=some (.slice Q P.orders.length m):=λw' h=>(z.out.1.ext h).2.1;have e1:∀w',Ext w0 w'->w'.cell? ⟨w.heap.size,1,none⟩=some (.slice ap P.eH.length q):=λw' h=>(z.out.1.ext h).2.2.1;go_cut [3] (λqv wx=>Gf w0 P qv wx)
 case first=>
  go_region_held3 (λw'=>Ext w0 w') (first|exact fk _ _|assumption|exact dy (by assumption) (World.grownBy_alloc _ _ _)|exact fu (by assumption) (jh _ _ _ _ _) (λj W a=>by cases W;first|(have:=gK.size;omega)|(have:=hgB.size;omega)|(simp at a)))
   (first
    | (go_at_call 183;refine Calls.mono (Calls.jF (w0:=w0) (by assumption) (yj _ _ P.eH S (dK.ext V.p (by assumption)) z.out.2.2.2.1.1 z.out.2.2.2.1.2.1)) ?_;rintro eB X ⟨vB,rfl,hgB,r,jV,I⟩;obtain⟨aB,u,tP,_,_⟩:=jm.shape (I.iB (by have:=z.out.2.2.2.1.2.1;omega));subst tP;(try have C:=fG.ext C r);(first|(have C:fG _ w0.heap.size _ _ _:=fG.ext (fG.made w0.drew _ _ _ _) r)|(have C:=fG.ext (fG.made _ _ _ _ _) r)|skip);(try obtain⟨f0,f1,f2,f3,f4⟩:=id C))
    | (go_at_call 120;refine Calls.mono (Calls.jF (w0:=w0) (by assumption) (mD _ _ P.orders S (Ints.ext V.o (by assumption)) (by have:=z.out.2.2.2.2.2;omega))) ?_;rintro eA H ⟨vA,rfl,gK,D,iZ,J⟩;obtain⟨aA,y,yl,_⟩:=(J.ints (by have:=z.out.2.2.2.2.2;omega)).shape;subst yl;(try have C:=fG.ext C D);(first|(have C:fG _ w0.heap.size _ _ _:=fG.ext (fG.made w0.drew _ _ _ _) D)|(have C:=fG.ext (fG.made _ _ _ _ _) D)|skip);(try obtain⟨f0,f1,f2,f3,f4⟩:=id C)))
  all_goals (try go_wp2_with fail)
  all_goals go_meet
  all_goals
   have bg:=gK.size;have bh:=r.size;have bi:=z.out.2.2.2.2.2;have bj:=z.out.2.2.2.1.2.1
  ·have E:=fG.made X 28 (.slice aA P.orders.length y) (.slice aB P.eH.length u) (.slice none 0 0)
   have b:=World.grownBy_alloc X (.cells #[.slice aA P.orders.length y,.slice aB P.eH.length u,.slice none 0 0] 28) none
   refine CD (a1:=w0.heap.size) (a2:=H.heap.size) (b1:=H.heap.size) (b2:=X.heap.size) (by omega) (dy (by assumption) b) E
       (gX.mono (gf.of J (by omega) (λk h1 B=>⟨h1,B⟩)) (λk hk a=>⟨hk,by have:=b.size;omega,(b.block k (by omega) (by simp)).trans (r.block k a (by simp))⟩))
       (qG.mono (fZ.of I (by omega) (λk h1 B=>⟨h1,B⟩)) (λk hk a=>⟨hk,by have:=b.size;omega,b.block k a (by simp)⟩)) (by omega) (by omega) (by omega) (by omega) (by omega)
  ·have E:=C.all (.slice aA P.orders.length y) (.slice aB P.eH.length u) (.slice none 0 0)
   have b:=jh X H.heap.size (.slice aA P.orders.length y) (.slice aB P.eH.length u) (.slice none 0 0);have aO:=dy (World.grownBy_alloc H (.cells #[.slice none 0 0,.slice none 0 0,.slice none 0 0] 28) none) r;have aP:(H.alloc (.cells #[.slice none 0 0,.slice none 0 0,.slice none 0 0] 28)).heap.size=H.heap.size+1:=by simp
   refine CD (a1:=w0.heap.size) (a2:=H.heap.size) (b1:=H.heap.size+1) (b2:=X.heap.size) (by omega) (by assumption) E
       (gX.mono (gf.of J (by omega) (λk h1 B=>⟨h1,B⟩)) (λk hk a=>⟨hk,by have:=b.size;omega,(b.block k (by omega) (λe=>by cases e;omega)).trans (aO.block k (by omega) (by simp))⟩))
       (qG.mono (fZ.of I (by omega) (λk h1 B=>⟨by rw[<-aP];exact h1,B⟩)) (λk hk a=>⟨hk,by have:=b.size;omega,b.block k a (λe=>by cases e;omega)⟩)) (by omega) (by omega) (by omega) (by omega) (by omega)
  ·have E:=C.all (.slice aA P.orders.length y) (.slice aB P.eH.length u) (.slice none 0 0)
   have b:=jh X w0.heap.size (.slice aA P.orders.length y) (.slice aB P.eH.length u) (.slice none 0 0);have bk:=C.1
   refine CD (a1:=w0.heap.size+1) (a2:=H.heap.size) (b1:=H.heap.size) (b2:=X.heap.size) (by omega) (by assumption) E
       (gX.mono (gf.of J (by omega) (λk h1 B=>⟨by simpa using h1,B⟩)) (λk hk a=>⟨hk,by have:=b.size;omega,(b.block k (by omega) (λe=>by cases e;omega)).trans (r.block k a (by simp))⟩))
       (qG.mono (fZ.of I (by omega) (λk h1 B=>⟨h1,B⟩)) (λk hk a=>⟨hk,by have:=b.size;omega,b.block k a (λe=>by cases e;omega)⟩)) (by omega) (by omega) (by omega) (by omega) (by omega)
 case rest=>
  obtain⟨K,a1,n1,c1,a2,n2,c2,rfl,UZ,hg1,Gh,hX1⟩:=hcut;clear e0 e1;go_wp2
  go_loopw [4] (λiv wr=>∃(i:Nat) (vc:Value),iv=.int .i64 i/\i<=P.conj.length/\Ext w0 wr/\fG wr K (.slice a1 n1 c1) (.slice a2 n2 c2) vc /\
   gu (λk=>w0.heap.size<=k/\k≠K) wr (.slice a1 n1 c1) (.slice a2 n2 c2) vc ⟨P.orders,P.eH,P.conj.take i⟩) (λiv _=>P.conj.length-(intOf iv).toNat)
  case atStart=>exact⟨0,_,rfl,by omega,hg1,Gh,hX1⟩
  case round=>
   clear Gh hX1 hg1;obtain⟨i,vc,rfl,hi,O,hB,hX⟩:=hrel;have e2:∀w',Ext wr w'->w'.cell? ⟨w.heap.size,2,none⟩=some (.slice R P.conj.length l):=λw' h=>(z.out.1.ext (dy O h)).2.2.2.1;have e3:=e2 wr (gZ _ _);by_cases a:i<P.conj.length
   ·have aY:(i:Int)<P.conj.length:=by omega
    obtain⟨Fo,Fp,Fc,hP⟩:=hX.part;obtain⟨_,_,_,Y,Z,c3,_,rfl,_,CF⟩:=hX.AA
    have an:(Value.slice Y Z c3).ownBlock≠some K:=by
     obtain⟨_,_,_,_,_,q1,_⟩:=hP.c;exact λe=>(hP.dc _ (q1 _ e)).2 rfl
    obtain⟨bc,oc,ag,aq,rfl,_,U0,aa,ym⟩:=fU.at V.c i a;have ar:=aa;have ab:=dK.ext ym O;clear ym
    have au:∀k,(Value.slice Y Z c3).ownBlock=some k->w0.heap.size<=k:=by
     obtain⟨_,_,_,_,_,q1,_⟩:=hP.c;exact λk e=>(hP.dc _ (q1 _ e)).1
    have ad:=z.out.2.2.2.1.2.2.2 i a;have A:=je P.conj i a;have av:(P.conj.take i).length<=1000000:=by rw[List.length_take];have:=z.out.2.2.2.1.2.2.1;omega
    obtain⟨G,hG⟩:∃G,G=gt P.conj i:=⟨_,rfl⟩;rw[<-hG] at ab ad A ar aa;have L:=Lib.hid (And.intro A (And.intro av (And.intro an (And.intro ad (And.intro ab au)))));clear A av ad ab hG CF au an ar;have r2:∀w',Ext w0 w'->w'.cell? ⟨bc,oc+i,none⟩=some (.slice ag G.length aq):=λw' h=>h.cell aa (by simp);have r4:∀w',Ext w0 w'->w'.cell? ⟨w.heap.size,2,none⟩=some (.slice (some ⟨bc,oc,none⟩) P.conj.length l):=λw' h=>(z.out.1.ext h).2.2.2.1;have r3:∀w',Ext wr w'->w'.cell? ⟨K,2,none⟩=some (.slice Y Z c3):=λw' h=>(hB.ext h).2.2.2.1;have f3:=r3 wr.drew (fk _ _);clear e2;go_wp2;clear e3;have f2:=r2 wr.drew (dy O (fk _ _));have f4:=r4 wr.drew (dy O (fk _ _));clear r2 r4
    go_region_law (first
      | (go_simp;go_at_call 183;refine Calls.mono (yj _ _ G S (dK.ext L.out.2.2.2.2.1 (fk _ _)) L.out.2.2.2.1.1 L.out.2.2.2.1.2) ?_;rintro eG wG ⟨vG,rfl,aT,aw⟩;obtain⟨aG,ax,CG,_,_⟩:=jm.shape (aw.iB (by have:=L.out.2.2.2.1.2;omega));subst CG;have F:Ext wr wG:=dy (fk _ _) aT;have g3:=r3 wG F;have g4:=r3 (wG.alloc (.cells #[.slice aG G.length ax] 25)) (dy F (World.grownBy_alloc _ _ _)))
      | (refine F5 (sF gX) 26 (.slice none 0 0) 24 Gd Tryz.Ge rfl (by decide) (by rfl) _ _ (by rfl) Fc wr wG _ _ (P.conj.take i) G (by rfl) hP.c F (fZ.of aw (by have:=L.out.2.2.2.1.2;omega) (λk h _=>h)) (by rfl) (by rfl) L.out.2.1 ?_;intro v8 w8 ay M bq;obtain⟨g8,m8,k8,rfl,CA⟩:=fZ.sl ay;clear CA;have aE:=fG.keep hB M.size (M.block _ hB.1 (λe=>L.out.2.2.1 e.symm));have aF:Ext w0 w8:=fu O M (λj W a=>by have:=L.out.2.2.2.2.2 _ W;omega);obtain⟨f80,f81,f82,f83,f84⟩:=id aE))
    all_goals
     have aH:Ext w0 (w8.setCell ⟨K,2,none⟩ (.slice g8 m8 k8)):=fu aF (iG _ _ _ _) (λj W a=>by cases W;omega);have aU:=(aE.put (.slice g8 m8 k8)).2.2;have aI:=hP.Gc ay M;rw[<-L.out.1] at aI
     have aJ:gu (λk=>w0.heap.size<=k/\k≠K) (w8.setCell ⟨K,2,none⟩ (.slice g8 m8 k8)) (.slice a1 n1 c1) (.slice a2 n2 c2) (.slice g8 m8 k8) ⟨P.orders,P.eH,P.conj.take (i+1)⟩:=
      aI.mono (iQ (Go.Proofs.YtoakmefajbbggaaGreat.u6 w8 K 2 (.slice g8 m8 k8)) (λk hk a=>by
       have br:(w0.heap.size<=k/\k≠K)\/wr.heap.size<=k:=hk;have h1:=hB.1;have B:=O.size;exact⟨by omega,λe=>by cases e;omega⟩))
     clear f80 f81 f82 f83 f84 f3 g3 g4 f2 f4 r3;go_wp2;go_roundw
     case rel=>exact⟨i+1,_,by go_num,by omega,aH,aU,aJ⟩
     case measure=>simp[intOf];omega
   ·have aV:i=P.conj.length:=by omega
    subst aV;rw[List.take_length] at hX;clear e2;obtain⟨_,_,_,Y,Z,c3,_,rfl,hn2,CF⟩:=hX.AA;clear hn2 CF;have hz:=z.out.2.1.ext O;obtain⟨h0,h1,B,h3',h4⟩:=id hB;obtain⟨k0,k1,k2,k3,k4⟩:=id hz;have hZ:=hz.all (.slice a1 n1 c1) (.slice a2 n2 c2) (.slice Y Z c3);have hT:=jh wr (w.heap.size+1) (.slice a1 n1 c1) (.slice a2 n2 c2) (.slice Y Z c3);obtain⟨_,z0,z1,z2,_⟩:=id hZ;have HT:=Lib.hid hT;clear hT hZ;go_wp2;refine bodyPost_ret (v := .agg #[.slice a1 n1 c1,.slice a2 n2 c2,.slice Y Z c3]) (by simp[results,Tryz.results186,go_sem,z0,z1,z2]) rfl ?_;have U:=z.out.2.2.1;exact⟨_,rfl,fu (dy aj O) HT.out (λj W a=>by cases W;omega),_,_,_,rfl,hX.mono (iQ HT.out (λk hk _=>⟨by show w.heap.size<=k;omega,λe=>by cases e;omega⟩))⟩
def Sm (l:List Int):Prop:=∀x∈l,0<=x/\x<=7
theorem Sm.at {l:List Int}(h:Sm l) {i:Nat}(a:i<l.length):0<=gt l i/\gt l i<=7:=h _ (by rw[gM l i a];exact List.getElem_mem a)
theorem Sm.set {l:List Int}(h:Sm l) (i:Nat) {x:Int}(hx:0<=x/\x<=7):Sm (l.set i x):=λy hy=>by
 rcases List.mem_or_eq_of_mem_set hy with a|a
 ·exact h y a
 ·rw[a];exact hx
theorem CH (x:Int) (h:0<=x/\x<=1000):wrap64 x=x:=IntWalk.wrap64_in _ (by omega)
theorem CI (x:Int) (h:0<=x/\x<=1000):IntKind.i64.wrap x=x:=IntWalk.i64_in _ (by omega)
theorem M8 {a b:Int}(ha:0<=a/\a<=7) (e:0<=b/\b<=7):0<=a*b/\a*b<=49:=
 ⟨Int.mul_nonneg ha.1 e.1,Int.le_trans (Int.mul_le_mul ha.2 e.2 e.1 (by decide)) (by decide)⟩
theorem M9 (w:World) (p:Int) (vv rv:Value) (v:List Int) (R:List (List Int)) (c:Nat) (S S':Nat->Prop) (hv:Ints S w vv v) (hr:dK S' w rv R) (hp:1<=p/\p<=7) (O:Sm v) (Q:∀x∈R,Sm x) (hc:c<=100) :
  Calls Tryz.prog 297 #[.int .i64 p,vv,rv,.int .i64 c] w (fq w λw' r=>∃l,l.length=c/\Sm l/\Own w.heap.size w' r l):=by
 obtain⟨av,pE,rfl,_,_⟩:=hv.shape;obtain⟨ar,tQ,rfl,_,_⟩:=Sl.shape hr;have HV:=Lib.hid (And.intro O Q);clear O Q;go_enter Tryz.func297,Tryz.ntmps297;go_wp2_with (at_make;refine lU rfl _ _ rfl w.heap.size c w.heap.size rfl _ rfl rfl rfl (by omega) (Nat.le_refl _) ?_;intro w1 T U aC)
 go_loopw [10] (λiv wr=>∃(i:Nat) (l:List Int),iv=.int .i64 i/\i<=v.length/\l.length=c/\Sm l/\Ext w wr/\Own w.heap.size wr (.slice (some ⟨w.heap.size,0,none⟩) c c) l) (λiv _=>v.length-(intOf iv).toNat)
 case atStart=>exact⟨0,_,rfl,by omega,by simp,by intro x hx;rw[List.eq_of_mem_replicate hx];omega,U,T⟩
 case round=>
  clear T U;obtain⟨i,l,rfl,hi,m,e,A,hO⟩:=hrel;by_cases E:i<v.length
  ·have V:(i:Int)<v.length:=by omega
   by_cases F:i<R.length
   ·have W:(i:Int)<R.length:=by omega
    obtain⟨br,or,a2,jx,rfl,_,_,B,G⟩:=dK.at hr i F;have X:=HV.out.1.at E;have H:Sm (gt R i):=HV.out.2 _ (by rw[gM R i F];exact List.getElem_mem F);obtain⟨z,hz⟩:∃z,z=gt R i:=⟨_,rfl⟩;rw[<-hz] at B G H;have HR:=Lib.hid (And.intro H (And.intro X hz));clear H X hz;have HL:=Lib.hid (And.intro m e);clear m e;have u:=A.cell B (by simp);go_wp2;clear u;go_loopw [11] (λjv wx=>∃(j:Nat) (l:List Int),jv=.int .i64 j/\j<=z.length/\l.length=c/\Sm l/\Ext w wx/\Own w.heap.size wx (.slice (some ⟨w.heap.size,0,none⟩) c c) l) (λjv _=>z.length-(intOf jv).toNat)
    case atStart=>exact⟨0,l,rfl,by omega,HL.out.1,HL.out.2,A,hO⟩
    case round=>
     clear hO A HL;obtain⟨j,l,rfl,hj,m,e,A,hO⟩:=hrel;have u:=A.cell B (by simp);by_cases aF:j<c
     ·have I:(j:Int)<c:=by omega
      by_cases C:j<z.length
      ·have J:(j:Int)<z.length:=by omega
       obtain⟨bz,oz,rfl,_,_,K⟩:=Ints.at (Ints.ext G A) j C;obtain⟨bv,ov,rfl,_,_,L⟩:=Ints.at (Ints.ext hv A) i E;have M:=hO.cell j (by omega);have Y:=hO.frozen j;have ha:=HR.out.2.1;have hb:=HR.out.1.at C;have hx:=e.at (show j<l.length by omega);obtain⟨a,Z⟩:∃a,a=gt v i:=⟨_,rfl⟩;obtain⟨b,aa⟩:∃b,b=gt z j:=⟨_,rfl⟩;obtain⟨x,ac⟩:∃x,x=gt l j:=⟨_,rfl⟩;rw[<-Z] at ha L;rw[<-aa] at hb K;rw[<-ac] at hx M;have an:=M8 ha hb;obtain⟨q,y⟩:∃q,q=a*b:=⟨_,rfl⟩;rw[<-y] at an;have ao:0<=(x+q)%p:=Int.emod_nonneg _ (by omega);have aJ:(x+q)%p<p:=Int.emod_lt_of_pos _ (by omega);obtain⟨ad,l5⟩:=hO.store j ((x+q)%p);have D:=e.set j (x:=(x+q)%p) ⟨ao,by omega⟩;have ae:=fu A l5 (λk hk E=>by cases hk;omega);clear Z aa ac;have aK:p≠0:=by omega
       have af:(l.set j ((x+q)%p)).length=c:=by rw[List.length_set];exact m
       have ap:=CI (x+q) (by omega);have aq:IntKind.i64.wrap (a*b)=q:=by rw[<-y];exact CI q (by omega)
       have au:wrap64 (a*b)=q:=by rw[<-y];exact CH q (by omega)
       have aw:=CH (x+q) (by omega);have c1:wr.drew.cell? ⟨w.heap.size,j,none⟩=some (.int .i64 x):=M;have c2:wr.drew.cell? ⟨bv,ov+i,none⟩=some (.int .i64 a):=L;have c3:wr.drew.cell? ⟨br,or+i,none⟩=some (.slice (some ⟨bz,oz,none⟩) z.length jx):=u;have c4:wr.drew.cell? ⟨bz,oz+j,none⟩=some (.int .i64 b):=K;have c5:wr.drew.frozen? ⟨w.heap.size,j,none⟩=false:=Y;clear M L K Y y hO;have ag:=ad.gw (fk (wr.setCell ⟨w.heap.size,j,none⟩ (.int .i64 ((x+q)%p))) none);have ah:=dy ae (fk (wr.setCell ⟨w.heap.size,j,none⟩ (.int .i64 ((x+q)%p))) none);have HQ:=Lib.hid (And.intro ag (And.intro ah (And.intro D af)));clear ad l5 ae D af ag ah;go_wp2;clear u;go_still_tail 22,(by kernel_rfl)
       change wpList _ _ _ _ _ wr.drew;clear B G;go_wp2;clear aq ap au aw;go_roundw
       case rel=>exact⟨j+1,_,by go_num,by omega,HQ.out.2.2.2,HQ.out.2.2.1,HQ.out.2.1,HQ.out.1⟩
       case measure=>simp[intOf];omega
      ·have J:¬((j:Int)<z.length):=by omega
       have N:=A;go_wp2;go_roundw
       case rel=>exact⟨i+1,l,by go_num,by omega,m,e,N,hO⟩
       case measure=>simp[intOf];omega
     ·have I:¬((j:Int)<c):=by omega
      have N:=A;go_wp2;go_roundw
      case rel=>exact⟨i+1,l,by go_num,by omega,m,e,N,hO⟩
      case measure=>simp[intOf];omega
   ·have W:¬((i:Int)<R.length):=by omega
    go_wp2;go_ret;exact⟨_,rfl,A,l,m,e,hO⟩
  ·have V:¬((i:Int)<v.length):=by omega
   go_wp2;go_ret;exact⟨_,rfl,A,l,m,e,hO⟩
def oG (c:Nat) (R:List (List Int)):Prop:=∀x∈R,x.length=c/\Sm x
theorem Na (w:World) (p:Int) (N O:Value) (A R:List (List Int)) (c:Nat) (S S':Nat->Prop) (ha:dK S w N A) (Q:dK S' w O R) (X:1<=p/\p<=7) (T:oG c A) (U:oG c R) (Y:c<=100) (hl:A.length<=100) :
  Calls Tryz.prog 290 #[.int .i64 p,N,O,.int .i64 c] w (fq w λw' r=>∃L,L.length=A.length/\oG c L/\iL w.heap.size w' r L):=by
 obtain⟨aa,vr,rfl,_,_⟩:=Sl.shape ha;obtain⟨ar,tQ,rfl,_,_⟩:=Sl.shape Q;have V:=Lib.hid (And.intro T U);clear T U;go_enter Tryz.func290,Tryz.ntmps290;go_wp2;go_loopw [9,10] (λZ I wr=>∃(i:Nat) (v4:Value) (L:List (List Int)),v4=Z/\I=.int .i64 i/\i<=A.length/\L.length=i/\oG c L/\Ext w wr/\iL w.heap.size wr v4 L) (λ_ I _=>A.length-(intOf I).toNat)
 case atStart=>exact⟨0,_,[],rfl,rfl,by omega,rfl,(λx hx=>by cases hx),World.grownBy_alloc _ _ _,[],λ_ _=>False,rfl,World.ownsRow_lit w #[] 0 (Nat.le_refl _) (by decide) rfl,by simp,by simp,by simp⟩
 case round=>
  obtain⟨i,v4,L,rfl,rfl,hi,a,e,q,hO⟩:=hrel;by_cases u:i<A.length
  ·have y:(i:Int)<A.length:=by omega
   obtain⟨b,off,a2,jx,rfl,_,_,hcc,J⟩:=dK.at (dK.ext ha q) i u;have z:=V.out.1 _ (fT u);have B:∀x∈R,Sm x:=λx hx=>(V.out.2 x hx).2;have k:=M9 wr p _ _ (gt A i) R c _ _ J (dK.ext Q q) X z.2 B Y;have C:L.length<=1000000:=by omega
   have m:=Lib.hid (And.intro a (And.intro e C));clear a e C z B;go_wp2_with fail
   refine Calls.mono k ?_;rintro eC W ⟨vC,rfl,p6,l,D,E,oD⟩;clear k;have F:gf (From wr.heap.size) W vC l:=gf.of oD (by omega) (λj h1 _=>h1);obtain⟨ay,nM,oF,_,_⟩:=F.ints.shape;subst oF;have HC:=Lib.hid (And.intro D E);clear hcc D E;go_wp2_with (first|(at_builtin;refine rA rfl _ _ rfl w.heap.size wr W v4 _ L l rfl hO p6 F rfl rfl m.out.2.2 q.size ?_;intro v5 w5 K M ae;have G:=hO.vn q (Nat.le_refl _) M)|fail)
   go_roundw
   case rel=>exact⟨i+1,v5,L++[l],rfl,by go_num,by omega,by rw[List.length_append,m.out.1];rfl,λx hx=>by
    rcases List.mem_append.1 hx with h|h
    ·exact m.out.2.1 x h
    ·rw[List.mem_singleton.1 h];exact HC.out,G,K⟩
   case measure=>simp[intOf];omega
  ·have H:i=A.length:=by omega
   obtain⟨az,rC,lJ,_,_⟩:=jm.shape (hO.iB (by omega));subst lJ;have y:¬((i:Int)<A.length):=by omega
   have m:=Lib.hid (And.intro a (And.intro e H));clear a e H;go_wp2;go_ret;exact⟨_,rfl,q,L,by rw[m.out.1,m.out.2.2],m.out.2.1,hO⟩
def CJ (n:Nat) (w:List Int):Prop:=∀x∈w,x≠0 /\ -n<=x/\x<=n
def Nb (n M B:Nat) (w':World) (v:Value):Prop:=∃(a:Option Addr) (k c:Nat) (r:Bool),v=.tuple #[.slice a k c,.bool r]/\(r=true->∃l,l.length=n/\k=n/\(∀x∈l,0<=x/\x<=(M:Int))/\Own B w' (.slice a k c) l)
theorem Gi (x:Int) (h:0<=x/\x<=100000):IntKind.i64.wrap x=x:=IntWalk.i64_in _ (by omega)
theorem Gk (x:Int) (h:0<=x/\x<=100000):wrap64 x=x:=IntWalk.wrap64_in _ (by omega)
theorem Nc (w:World) (n:Nat) (lv:Value) (L:List Int) (S:Nat->Prop) (V:Ints S w lv L) (W:CJ n L) (hn:n<=100) (hl:L.length<=1000) :
  Calls Tryz.prog 122 #[.int .i64 n,lv] w (fq w (Nb n L.length w.heap.size)):=by
 obtain⟨al,qi,rfl,_,_⟩:=V.shape;have HW:=Lib.hid W;clear W;go_enter Tryz.func122,Tryz.ntmps122;go_wp2_with (at_make;refine lU rfl _ _ rfl w.heap.size n w.heap.size rfl _ rfl rfl rfl (by omega) (Nat.le_refl _) ?_;intro w1 B C X)
 go_loopw [7] (λQ wr=>∃(i:Nat) (l:List Int),Q=.int .i64 i/\i<=L.length/\l.length=n/\(∀x∈l,0<=x/\x<=i)/\Ext w wr/\Own w.heap.size wr (.slice (some ⟨w.heap.size,0,none⟩) n n) l) (λQ _=>L.length-(intOf Q).toNat)
 case atStart=>exact⟨0,_,rfl,by omega,by simp,(λx hx=>by rw[List.eq_of_mem_replicate hx];omega),C,B⟩
 case round=>
  clear B C;obtain⟨i,l,rfl,hi,j,a,O,hO⟩:=hrel;by_cases u:i<L.length
  ·have Y:(i:Int)<L.length:=by omega
   obtain⟨b,off,rfl,_,_,R⟩:=Ints.at (Ints.ext V O) i u;have hx:=HW.out _ (fT u);obtain⟨x,D⟩:∃x,x=gt L i:=⟨_,rfl⟩;rw[<-D] at R hx;clear D;by_cases Z:x<0
   ·have T:=Lib.hid (And.intro j (And.intro a hx));clear j a hx
    go_wp2;exact bodyPost_ret (v := .tuple #[.slice none 0 0,.bool false]) (by simp[results,Tryz.results122,go_sem]) rfl ⟨_,rfl,O,none,0,0,false,rfl,λh=>by cases h⟩
   ·obtain ⟨J,Nd⟩:=Int.eq_ofNat_of_zero_le (show 0<=x-1 by omega)
    obtain rfl:x=(J:Int)+1:=by omega
    clear Nd;have hJ:J<n:=by omega
    have ab:(J:Int)<n:=by omega
    have hy:=a _ (fT (show J<l.length by omega));have A:=hO.cell J (by omega);have E:=hO.frozen J;obtain⟨y,F⟩:∃y,y=gt l J:=⟨_,rfl⟩;rw[<-F] at hy A;obtain⟨G,l5⟩:=hO.store J (y+1);have H:=fu O l5 (λk hk u=>by cases hk;omega);have I:(l.set J (y+1)).length=n:=by rw[List.length_set];exact j
    have K:∀z∈l.set J (y+1),0<=z/\z<=((i+1:Nat):Int):=λz hz=>by
     rcases List.mem_or_eq_of_mem_set hz with h|h
     ·have:=a z h;omega
     ·omega
    have M:=G.gw (fk (wr.setCell ⟨w.heap.size,J,none⟩ (.int .i64 (y+1))) none);have N:=dy H (fk (wr.setCell ⟨w.heap.size,J,none⟩ (.int .i64 (y+1))) none);have e:=Gi (J:Int) (by omega);have m:=Gi (y+1) (by clear e;omega);have p:=Gk (J:Int) (by clear e m;omega);have q:=Gk (y+1) (by clear e m p;omega);have r:=Lib.hid (And.intro M (And.intro N (And.intro I (And.intro K (And.intro e (And.intro m (And.intro p q)))))));clear M N I K e m p q l5 H G F j a hx;have c1:wr.drew.cell? ⟨w.heap.size,J,none⟩=some (.int .i64 y):=A;have c2:wr.drew.cell? ⟨b,off+i,none⟩=some (.int .i64 ((J:Int)+1)):=R;have c3:wr.drew.frozen? ⟨w.heap.size,J,none⟩=false:=E;clear A E hO;go_wp2;clear R;have e:=r.out.2.2.2.2.1;have m:=r.out.2.2.2.2.2.1;have p:=r.out.2.2.2.2.2.2.1;have q:=r.out.2.2.2.2.2.2.2;go_still_tail 16,(by kernel_rfl)
    change wpList _ _ _ _ _ wr.drew;go_wp2;clear e m p q;go_roundw
    case rel=>exact⟨i+1,_,by go_num,by omega,r.out.2.2.1,r.out.2.2.2.1,r.out.2.1,r.out.1⟩
    case measure=>simp[intOf];omega
  ·have U:i=L.length:=by omega
   subst U;have T:=Lib.hid (And.intro j a);clear j a;go_wp2;exact bodyPost_ret (v := .tuple #[.slice (some ⟨w.heap.size,0,none⟩) n n,.bool true]) (by simp[results,Tryz.results122,go_sem]) rfl ⟨_,rfl,O,_,_,_,true,rfl,λ_=>⟨l,T.out.1,rfl,T.out.2,hO⟩⟩
def Nf (k M B:Nat) (w':World) (v:Value):Prop:=∃(a:Option Addr) (n c:Nat) (r:Bool),v=.tuple #[.slice a n c,.bool r]/\(r=true->∃l,l.length<=M/\n=l.length/\CJ k l/\Own B w' (.slice a n c) l)
theorem Ng (w:World) (k:Nat) (s:ByteArray) (hk:k<=100) (U:s.size<=1000) :
  Calls Tryz.prog 292 #[.int .i64 k,.string s] w (fq w (Nf k s.size w.heap.size)):=by
 rcases h1:(s.toList == [49]) with _|_
 case' true=>
  go_enter Tryz.func292,Tryz.ntmps292;go_wp2;exact bodyPost_ret (v := .tuple #[.slice (some ⟨w.heap.size,0,none⟩) 0 0,.bool true]) (by simp[results,Tryz.results292,go_sem]) rfl ⟨_,rfl,World.grownBy_alloc _ _ _,_,_,_,true,rfl,λ_=>⟨[],by simp,rfl,(λx hx=>by cases hx),World.ownsRow_lit w #[] 0 (Nat.le_refl _) (by decide) rfl⟩⟩
 go_enter Tryz.func292,Tryz.ntmps292;go_wp2;go_loopw [6,7] (λS L wr=>∃(i:Nat) (l:List Int) (v4:Value),v4=S/\L=.int .i64 i/\i<=s.size/\l.length=i/\CJ k l/\Ext w wr/\Own w.heap.size wr v4 l) (λ_ L _=>s.size-(intOf L).toNat)
 case atStart=>exact⟨0,[],_,rfl,rfl,by omega,rfl,(λx hx=>by cases hx),World.grownBy_alloc _ _ _,World.ownsRow_lit w #[] 0 (Nat.le_refl _) (by decide) rfl⟩
 case round=>
  obtain⟨i,l,v4,rfl,rfl,hi,m,p,hg,hO⟩:=hrel;by_cases D:i<s.size
  ·have E:(i:Int)<s.size:=by omega
   have r:=Lib.hid (And.intro m p);clear m p;go_wp2;go_quiet (fail)
   rename_i nq;generalize wrap64 (wrap64 (wrap64 (s[i].toNat:Int)-97)+1)=F;generalize wrap64 (wrap64 (wrap64 (s[i].toNat:Int)-65)+1)=u;obtain⟨y,z⟩:∃y,y=wr.drewN nq:=⟨_,rfl⟩;have a:Ext wr y:=by rw[z];exact iI _ _ _
   rw[<-z];have b:=dy hg a;have q:=hO.gw a;clear z a hO hg;have G:l.length<=1000000:=by have:=r.out.1;omega
   go_wp2_with fail
   refine Calls.mono (tj F 1 k y) ?_;rintro _ _ ⟨rfl,rfl⟩;rcases A:kJ F 1 k with _|_
   ·go_wp2_with fail
    refine Calls.mono (tj u 1 k y) ?_;rintro _ _ ⟨rfl,rfl⟩;rcases H:kJ u 1 k with _|_
    ·go_wp2
     exact bodyPost_ret (v := .tuple #[.slice none 0 0,.bool false]) (by simp[results,Tryz.results292,go_sem]) rfl ⟨_,rfl,b,none,0,0,false,rfl,λh=>by cases h⟩
    ·have I:1<=u/\u<=k:=by simpa [kJ] using H
     have J:wrap64 (-u) = -u:=IntWalk.wrap64_in _ (by omega);have M:=Lib.hid I;clear I A H;go_wp2_with (first|(at_builtin;refine qB rfl _ _ rfl w.heap.size v4 l (-u) rfl y q rfl rfl G b.size ?_;intro N T B C;have e:=fu b C (λj O D=>by have:=(q.lt j O).1;omega))|fail)
     clear J;go_roundw
     case rel=>exact⟨i+1,_,N,rfl,by go_num,by omega,by rw[List.length_append,r.out.1];rfl,(λx hx=>by
      rcases List.mem_append.1 hx with h|h
      ·exact r.out.2 x h
      ·rw[List.mem_singleton.1 h];have:=M.out;omega),e,B⟩
     case measure=>simp[intOf];omega
   ·have K:1<=F/\F<=k:=by simpa [kJ] using A
    have M:=Lib.hid K;clear K A;go_wp2_with (first|(at_builtin;refine qB rfl _ _ rfl w.heap.size v4 l F rfl y q rfl rfl G b.size ?_;intro N T B C;have e:=fu b C (λj O D=>by have:=(q.lt j O).1;omega))|fail)
    go_roundw
    case rel=>exact⟨i+1,_,N,rfl,by go_num,by omega,by rw[List.length_append,r.out.1];rfl,(λx hx=>by
     rcases List.mem_append.1 hx with h|h
     ·exact r.out.2 x h
     ·rw[List.mem_singleton.1 h];have:=M.out;omega),e,B⟩
    case measure=>simp[intOf];omega
  ·have Q:i=s.size:=by omega
   have E:¬((i:Int)<s.size):=by omega
   obtain⟨R,c8,nZ,_⟩:=(hO.ints (by omega)).shape;subst nZ;have r:=Lib.hid (And.intro m p);clear m p Q;go_wp2;exact bodyPost_ret (v := .tuple #[.slice R l.length c8,.bool (decide ((0:Int)<l.length))]) (by simp[results,Tryz.results292,go_sem]) rfl ⟨_,rfl,hg,R,l.length,c8,_,rfl,λ_=>⟨l,by have:=r.out.1;omega,rfl,r.out.2,hO⟩⟩
end Go.Proofs.YtoakmefajbbggaaGreat
namespace Go.Proofs.YtoakmefajbbggaaGreat
open Go.RowKit
theorem Gl:Tryz.prog.underlying 220=some (.slice 9):=by kernel_rfl
theorem Tryz.Gm:(Tryz.prog.info? 9).map (λi=>(i.zero,i.size,i.bytes))=some (some (.string ⟨#[]⟩),1,16):=by kernel_rfl
def tR (M B:Nat) (w':World) (v:Value):Prop:=∃(a:Option Addr) (c:Nat) (ts:List ByteArray),v=.slice a ts.length c/\1<=ts.length/\ts.length<=M+1/\(∀t∈ts,t.size<=M)/\fK B 9 w' (.slice a ts.length c) (ts.map Value.string)
theorem Gn (s:ByteArray) (a b:Nat) (M:Nat) (h:s.size<=M):(s.extract a b).size<=M:=by
 simp[ByteArray.size_extract];omega
theorem CK (w:World) (s:ByteArray) (b:Int) (L:s.size<=1000) :
  Calls Tryz.prog 270 #[.string s,.int .u8 b] w (fq w (tR s.size w.heap.size)):=by
 go_enter Tryz.func270,Tryz.ntmps270;go_wp2;go_loopw [5,6,7] (λG H C wr=>∃(i f:Nat) (ts:List ByteArray) (v4:Value),v4=G/\H=.int .i64 f/\C=.int .i64 i/\i<=s.size/\f<=i/\ts.length<=i/\(∀t∈ts,t.size<=s.size)/\Ext w wr/\fK w.heap.size 9 wr v4 (ts.map Value.string)) (λ_ _ C _=>s.size-(intOf C).toNat)
 case atStart=>exact⟨0,0,[],_,rfl,rfl,rfl,by omega,by omega,by simp,(λx hx=>by cases hx),World.grownBy_alloc _ _ _,World.ownsRow_lit w #[] 0 (Nat.le_refl _) (by decide) rfl⟩
 case round=>
  obtain⟨i,f,ts,v4,rfl,rfl,rfl,hi,hf,p,q,r,hO⟩:=hrel;have I:(f:Int)<=i:=by omega
  have u:(ts.map Value.string).length<=1000000:=by rw[List.length_map];omega
  have k:=Lib.hid (And.intro p (And.intro q u));clear p q u;by_cases y:i<s.size
  ·have z:(i:Int)<s.size:=by omega
   go_wp2_with (first|(at_builtin;refine tE 220 9 (.string ⟨#[]⟩) 16 Gl Tryz.Gm rfl (by decide) rfl _ _ rfl w.heap.size wr v4 _ (ts.map Value.string) rfl hO rfl rfl rfl k.out.2.2 r.size ?_;intro B F l m;have e:=fu r m (λj D y=>by have:=(hO.lt j D).1;omega))|fail)
   ·go_roundw
    case rel=>exact⟨i+1,i+1,ts++[s.extract f i],B,rfl,by go_num,by go_num,by omega,by omega,by rw[List.length_append,List.length_singleton];have:=k.out.1;omega,(λt E=>by
     rcases List.mem_append.1 E with h|h
     ·exact k.out.2.1 t h
     ·rw[List.mem_singleton.1 h];exact Gn s f i _ (Nat.le_refl _)),e,by rw[List.map_append];exact l⟩
    case measure=>simp[intOf];omega
   ·go_roundw
    case rel=>exact⟨i+1,f,ts,v4,rfl,rfl,by go_num,by omega,by omega,by have:=k.out.1;omega,k.out.2.1,r,hO⟩
    case measure=>simp[intOf];omega
  ·have z:¬((i:Int)<s.size):=by omega
   go_wp2_with (first|(at_builtin;refine tE 220 9 (.string ⟨#[]⟩) 16 Gl Tryz.Gm rfl (by decide) rfl _ _ rfl w.heap.size wr v4 _ (ts.map Value.string) rfl hO rfl rfl rfl k.out.2.2 r.size ?_;intro B F l m;have e:=fu r m (λj D y=>by have:=(hO.lt j D).1;omega))|fail)
   have J:(ts++[s.extract f s.size]).length=ts.length+1:=by simp
   have A:fK w.heap.size 9 F B ((ts++[s.extract f s.size]).map Value.string):=by rw[List.map_append];exact l
   obtain ⟨K,c5,rfl⟩:∃a c,B=.slice a (ts++[s.extract f s.size]).length c:=by
    rcases A.form with⟨rfl,hn⟩|⟨g,cap,rfl,_,_,_⟩
    ·have:=congrArg List.length hn;simp at this
    ·exact⟨_,_,by rw[List.length_map]⟩
   go_ret
   exact ⟨_,rfl,e,K,c5,ts++[s.extract f s.size],rfl,by omega,by have:=k.out.1;omega,(λt E=>by
     rcases List.mem_append.1 E with h|h
     ·exact k.out.2.1 t h
     ·rw[List.mem_singleton.1 h];exact Gn s f _ _ (Nat.le_refl _)),A⟩
end Go.Proofs.YtoakmefajbbggaaGreat
namespace Go.Proofs.YtoakmefajbbggaaGreat
open Go.RowKit
attribute [local go_sem ↓] Go.wp_at_zero Go.wp_at_succ
theorem Nh (w:World) (s:ByteArray) (m:s.size<=1000) :
  Calls Tryz.prog 291 #[.string s] w (fq w λ_ v=>∃x:Int,v=.int .i64 x):=by
 have a:(fq w λ(_:World) v=>∃x:Int,v=.int .i64 x) (.returned (.int .i64 (-1))) w:=⟨_,rfl,Ext.refl _,_,rfl⟩;by_cases p:s.size=0
 ·go_enter Tryz.func291,Tryz.ntmps291
  go_wp2;go_ret;exact⟨_,rfl,Ext.refl _,_,rfl⟩
 by_cases q:6<s.size
 ·go_enter Tryz.func291,Tryz.ntmps291
  go_wp2;go_ret;exact⟨_,rfl,Ext.refl _,_,rfl⟩
 clear a;go_enter Tryz.func291,Tryz.ntmps291;go_wp2
 all_goals first
  | (go_ret;exact⟨_,rfl,Ext.refl _,_,rfl⟩)
  | skip
 all_goals
  (try generalize (((s[0]'(by assumption)).toNat:Int) == 48)=z2)
  (try generalize (s[0]'(by assumption)).toNat=c0)
  (try generalize ((s.size:Int) == 0)=z0)
  (try generalize decide ((6:Int)<s.size)=z1)
  go_loopw [3,4] (λj e k=>∃(i:Nat) (x:Int),j=.int .i64 x/\e=.int .i64 i/\i<=s.size/\k=w) (λ_ e _=>s.size-(intOf e).toNat)
  case atStart=>exact⟨0,0,rfl,rfl,by omega,rfl⟩
  case round=>
   obtain⟨i,x,rfl,rfl,hi,rfl⟩:=hrel;by_cases l:i<s.size
   ·have b:(i:Int)<s.size:=by omega
    go_wp2
    all_goals first
     | (go_ret;exact⟨_,rfl,Ext.refl _,_,rfl⟩)
     | skip
    all_goals
     go_roundw
     case rel=>exact⟨i+1,_,rfl,by go_num,by omega,trivial⟩
     case measure=>simp[intOf];omega
   ·have b:¬((i:Int)<s.size):=by omega
    go_wp2;go_ret;exact⟨_,rfl,Ext.refl _,_,rfl⟩
end Go.Proofs.YtoakmefajbbggaaGreat
namespace Go.Proofs.YtoakmefajbbggaaGreat
open Go.RowKit
def Ni (B:Nat) (w':World) (v:Value):Prop:=∃(a:Option Addr) (n c:Nat) (r:Bool),v=.tuple #[.slice a n c,.bool r]/\(r=true->∃o,n=o.length/\o.length<=6/\(∀x∈o,kQ x=true)/\Own B w' (.slice a n c) o)
theorem tR.at {B:Nat}{w:World}{a:Option Addr}{c:Nat}{ts:List ByteArray}(h:fK B 9 w (.slice a ts.length c) (ts.map Value.string)) (i:Nat) (j:i<ts.length) :
  ∃b,a=some ⟨b,0,none⟩/\w.cell? ⟨b,i,none⟩=some (.string (gt ts i)):=by
 rcases h.form with⟨e,hn⟩|⟨g,cap,e,_,_,_⟩
 ·have:ts=[]:=by simpa using hn
  subst this;simp at j
 ·simp only[Value.slice.injEq] at e
  obtain⟨rfl,_,_⟩:=e;refine⟨g,rfl,?_⟩;have:=h.cell i (by rw[List.length_map];exact j);rw[jM _ _ _ j] at this;exact this
theorem Gp {x:Int}(h:kQ x=true):1<=x/\x<=7:=by
 unfold kQ at h;simp at h;omega
theorem Nj (w:World) (s:ByteArray) (hs:s.size<=1000) :
  Calls Tryz.prog 271 #[.string s] w (fq w (Ni w.heap.size)):=by
 rcases h1:(s.toList == [49]) with _|_
 case' true=>
  go_enter Tryz.func271,Tryz.ntmps271;go_wp2;go_ret2
  exact⟨_,rfl,World.grownBy_alloc _ _ _,_,_,_,true,rfl,λ_=>⟨[],rfl,by simp,(λx hx=>by cases hx),World.ownsRow_lit w #[] 0 (Nat.le_refl _) (by decide) rfl⟩⟩
 go_enter Tryz.func271,Tryz.ntmps271;go_wp2_with fail
 have Q:Ext w (w.alloc (.cells #[] 2)):=World.grownBy_alloc _ _ _;have p:(w.alloc (.cells #[] 2)).heap.size=w.heap.size+1:=by simp
 have p:=Lib.hid p;have r:Own w.heap.size (w.alloc (.cells #[] 2)) (.slice (some ⟨w.heap.size,0,none⟩) 0 0) []:=World.ownsRow_lit w #[] 0 (Nat.le_refl _) (by decide) rfl;generalize w.alloc (.cells #[] 2)=w0 at *;refine Calls.mono (CK w0 s 32 hs) ?_;rintro e1 R ⟨v1,rfl,hg1,a1,c1,ts,rfl,u,z,A,hT⟩;have B:=r.gw hg1;have C:=dy Q hg1;have HL:=Lib.hid (And.intro u (And.intro z A));clear u z A r;go_wp2_with fail
 go_loopw [4,6] (λov S wr=>∃(i:Nat) (o:List Int) (v4:Value),v4=ov/\S=.int .i64 i/\i<=ts.length/\o.length=i/\o.length<=6/\(∀x∈o,kQ x=true)/\Ext w wr/\Own w.heap.size wr v4 o/\R.grownBy wr (some w.heap.size)/\(∀k,v4.ownBlock=some k->k=w.heap.size\/R.heap.size<=k)) (λ_ S _=>ts.length-(intOf S).toNat)
 case atStart=>exact⟨0,[],_,rfl,rfl,by omega,rfl,by simp,(λx hx=>by cases hx),C,B,gZ _ _,λk hk => .inl (ku hk)⟩
 case round=>
  clear B;obtain⟨i,o,v4,rfl,rfl,hi,D,CL,E,hg,hO,hgr,F⟩:=hrel;have T:o.length<=1000000:=by omega
  have G:=Lib.hid (And.intro D E);clear D E;by_cases e:i<ts.length
  ·have H:(i:Int)<ts.length:=by omega
   obtain⟨b,rfl,hc0⟩:=tR.at hT i e;have I:=hT.lt b rfl;have ad:=p.out;have hc:=hgr.cell hc0 (by simp;omega);have U:(gt ts i).size<=1000:=by have:=HL.out.2.2 _ (fT e);omega
   clear hc0;go_wp2_with fail
   refine Calls.mono (Nh wr (gt ts i) U) ?_;rintro e2 Y ⟨v2,rfl,q,x,rfl⟩;have J:=hO.gw q;have a:=dy hg q;have l:=dy hgr (fH _ q);have Z:=l.size;have K:=Lib.hid (And.intro F I);clear F I;clear hc hO;go_wp2_with fail
   refine Calls.mono (xA x Y) ?_;rintro _ _ ⟨rfl,rfl⟩;rcases hp:kQ x with _|_
   ·go_wp2_with fail
    go_ret2
    exact⟨_,rfl,a,none,0,0,false,rfl,λh=>by cases h⟩
   ·by_cases h6:6<=i
    ·have V:(6:Int)<=i:=by omega
     go_wp2_with fail
     go_ret2
     exact⟨_,rfl,a,none,0,0,false,rfl,λh=>by cases h⟩
    ·have V:¬(6:Int)<=i:=by omega
     go_wp2_with (first|(at_builtin;refine Gq rfl _ _ rfl w.heap.size v4 o x rfl Y J rfl rfl T a.size ?_;intro v5 w5 W L X;have M:=fu a L (λj N e=>by have:=(J.lt j N).1;omega))|fail)
     have O:R.grownBy w5 (some w.heap.size):=fu l L (λj N e=>by rcases K.out.1 j N with h|h;rw[h];omega);have ai:(o++[x]).length=o.length+1:=by simp
     go_roundw
     case rel=>exact⟨i+1,o++[x],v5,rfl,by go_num,by omega,by have:=G.out.1;omega,by have:=G.out.1;omega,(λy hy=>by
      rcases List.mem_append.1 hy with h|h
      ·exact G.out.2 y h
      ·rw [List.mem_singleton.1 h];exact hp),M,W,O,(λk hk=>by
       rcases X with h|h
       ·rw[h] at hk;exact K.out.1 k hk
       ·have:=h k hk;omega)⟩
     case measure=>simp[intOf];omega
  ·have H:¬((i:Int)<ts.length):=by omega
   have m:=uF wr v4 o _ (hO.ints (by omega)) (λj N=>Gp (G.out.2 _ (fT N)));go_wp2_with fail
   refine Calls.mono m ?_;rintro _ _ ⟨rfl,rfl⟩;clear m;obtain⟨a4,c4,hv4,_⟩:=(hO.ints (by omega)).shape;subst hv4;go_wp2_with fail
   go_ret2
   exact⟨_,rfl,hg,_,_,_,_,rfl,λ_=>⟨o,rfl,CL,G.out.2,hO⟩⟩
def nO (x:Int):Int:=if 0<x then 96+x else 64-x
def lK (W:List Int):List Int:=if W=[] then [49] else W.map nO
theorem Nk (W:List Int) (n:Nat) (h:W.length<=n):(lK W).length<=n+1:=by
 unfold lK;split<;>simp;omega
theorem Gr {i:Array Oper}{rest:List Oper}{o:Oper}{a:Act}{Q:Exit->Act->World->Prop}{w:World}(p:o.guard=none) (s x:Operand)
  (q:o.op=Op.call { callee:=Callee.builtin Builtin.append,args := #[s,x],argTypes := #[22,22] }) (B:Nat) (v:Value) (l:List Int) (y:Int) (r:a.eval s=v) (e:World) (j:fK B 5 e v (j3 l))
  (u:w=e.alloc (.cells #[.int .u8 y] 5)) (hx:a.eval x=.slice (some ⟨e.heap.size,0,none⟩) 1 1) (k:l.length<=1000000) (b:B<=e.heap.size)
  (h:∀m w',fK B 5 w' m (j3 (l++[y]))->e.grownBy w' v.ownBlock->wpList Tryz.prog i Q rest (a.put o.dst m) w') :
  wpList Tryz.prog i Q (o :: rest) a w:=
 tE 22 5 (.int .u8 0) 1 yq Tryz.CM rfl (by decide) p s x q B e v (.int .u8 y) (j3 l) r j u rfl hx (by unfold j3;rw[List.length_map];exact k) b
  (λm w' h1 z=>h m w' (by unfold j3 at h1 ⊢;rw[List.map_append];exact h1) z)
theorem u8_in (x:Int) (h:0<=x/\x<=255):IntKind.u8.wrap x=x:=by
 simp only[IntKind.wrap,IntKind.signed,IntKind.bits];simp;omega
theorem CN (w:World) (v:Value) (W:List Int) (S:Nat->Prop) (I:Ints S w v W) (J:∀x∈W,-26<=x/\x<=26) (U:W.length<=1000) :
  Calls Tryz.prog 295 #[v] w (fq w λ_ r=>r=.string (strOfNums (lK W))):=by
 obtain⟨a,cap,rfl,_,_⟩:=I.shape;by_cases C:W.length=0
 ·have N:W=[]:=List.eq_nil_of_length_eq_zero C
  subst N;go_enter Tryz.func295,Tryz.ntmps295;go_wp2;go_ret;exact⟨_,rfl,Ext.refl _,rfl⟩
 have V:((W.length:Int) == 0)=false:=by simp;intro h;apply C;rw[h];rfl
 have z:lK W=W.map nO:=by unfold lK;rw[if_neg (λh=>C (by rw[h];rfl))]
 have K:=Lib.hid (And.intro J z);clear J z C;go_enter Tryz.func295,Tryz.ntmps295;go_wp2;go_loopw [3,4] (λO D wr=>∃(i:Nat) (v4:Value),v4=O/\D=.int .i64 i/\i<=W.length/\Ext w wr/\fK w.heap.size 5 wr v4 (j3 ((W.take i).map nO))) (λ_ D _=>W.length-(intOf D).toNat)
 case atStart=>exact⟨0,_,rfl,rfl,by omega,World.grownBy_alloc _ _ _,World.ownsRow_lit w #[] 0 (Nat.le_refl _) (by decide) rfl⟩
 case round=>
  obtain⟨i,v4,rfl,rfl,hi,y,hO⟩:=hrel;by_cases k:i<W.length
  ·have L:(i:Int)<W.length:=by omega
   obtain⟨b,off,rfl,_,_,Q⟩:=Ints.at (Ints.ext I y) i k;have hx:=K.out.1 _ (fT k);have e:(W.take (i+1)).map nO=(W.take i).map nO++[nO (gt W i)]:=by rw[je W i k,List.map_append];rfl
   have p:((W.take i).map nO).length<=1000000:=by rw[List.length_map,List.length_take];omega
   obtain⟨x,A⟩:∃x,x=gt W i:=⟨_,rfl⟩;rw[<-A] at hx e Q;clear A;by_cases M:0<x
   ·have l:nO x=97+x-1:=by unfold nO;rw[if_pos M];omega
    rw[l] at e;have E:IntKind.u8.wrap (97+x-1)=97+x-1:=u8_in _ (by omega);have B:=Lib.hid (And.intro e p);clear e p l;go_wp2_with (first|(at_builtin;refine Gr rfl _ _ rfl w.heap.size v4 ((W.take i).map nO) (97+x-1) rfl wr hO rfl rfl B.out.2 y.size ?_;intro F R q u;have m:=fu y u (λj G k=>by have:=(hO.lt j G).1;omega))|fail)
    clear E;go_roundw
    case rel=>exact⟨i+1,F,rfl,by go_num,by omega,m,by rw[B.out.1];exact q⟩
    case measure=>simp[intOf];omega
   ·have l:nO x=65-x-1:=by unfold nO;rw[if_neg M];omega
    rw[l] at e;have E:IntKind.u8.wrap (65-x-1)=65-x-1:=u8_in _ (by omega);have B:=Lib.hid (And.intro e p);clear e p l;go_wp2_with (first|(at_builtin;refine Gr rfl _ _ rfl w.heap.size v4 ((W.take i).map nO) (65-x-1) rfl wr hO rfl rfl B.out.2 y.size ?_;intro F R q u;have m:=fu y u (λj G k=>by have:=(hO.lt j G).1;omega))|fail)
    clear E;go_roundw
    case rel=>exact⟨i+1,F,rfl,by go_num,by omega,m,by rw[B.out.1];exact q⟩
    case measure=>simp[intOf];omega
  ·have H:i=W.length:=by omega
   subst H;rw[List.take_length] at hO;have T:=CO hO;go_wp2;go_ret;exact⟨_,rfl,y,by rw[K.out.2];rfl⟩
theorem CP (w:World) (i:Nat) (m:i<26) :
  Calls Tryz.prog 294 #[.int .i64 i] w (fq w λ_ r=>r=.string (strOfNums [97+(i:Int)])):=by
 have e:IntKind.i64.wrap ((i:Int)+1)=(i:Int)+1:=IntWalk.i64_in _ (by omega)
 have b:lK [(i:Int)+1]=[97+(i:Int)]:=by
  unfold lK;rw[if_neg (by simp)];simp only[List.map_cons,List.map_nil,nO];rw[if_pos (by omega),show(96:Int)+((i:Int)+1)=97+(i:Int) by omega]
 have k:Ints Any (w.alloc (.cells #[.int .i64 ((i:Int)+1)] 2)) (.slice (some ⟨w.heap.size,0,none⟩) 1 1) [(i:Int)+1]:=
  iD (show Own 0 _ _ [(i:Int)+1] from World.ownsRow_lit w #[.int .i64 ((i:Int)+1)] 1 (Nat.zero_le _) (by decide) rfl) (by simp) (λ_ _=>trivial)
 have a:=CN _ _ [(i:Int)+1] Any k (λx hx=>by simp at hx;omega) (by simp);rw[b] at a;have l:=Lib.hid a;clear a b k;go_enter Tryz.func294,Tryz.ntmps294;go_wp2_with fail
 refine Calls.mono l.out ?_;rintro p q ⟨v1,rfl,j,rfl⟩;clear e;go_wp2;go_ret;exact⟨_,rfl,dy (World.grownBy_alloc _ _ _) j,rfl⟩
theorem AB (w:World) (n:Int) (b:0<=n) (e:n<10) :
  Calls Tryz.prog 293 #[.int .i64 n] w (fq w λ_ r=>r=.string (strOfNums [48+n])):=by
 have i:IntKind.u8.wrap (48+n)=48+n:=u8_in _ (by omega)
 have a:∀w0:World,(convert 22 9 (.slice (some ⟨w0.heap.size,0,none⟩) 1 1)).run Tryz.prog (w0.alloc (.cells #[.int .u8 (48+n)] 5))=.ok (.string (strOfNums [48+n])) (w0.alloc (.cells #[.int .u8 (48+n)] 5)):=λw0=>
  CO (B:=0) (l:=[48+n]) (World.ownsRow_lit w0 #[.int .u8 (48+n)] 1 (Nat.zero_le _) (by decide) rfl)
 go_enter Tryz.func293,Tryz.ntmps293;go_wp2;go_ret;exact⟨_,rfl,World.grownBy_alloc _ _ _,rfl⟩
end Go.Proofs.YtoakmefajbbggaaGreat
namespace Go.Proofs.YtoakmefajbbggaaGreat
open Go.RowKit
attribute [local go_sem ↓] Go.wp_at_zero Go.wp_at_succ
def CQ (F:Nat->Prop) (B:Nat) (P:Pr) (w':World) (v:Value):Prop:=∃(vo vp vc:Value) (r:Bool) (Q:Pr),v=.tuple #[.agg #[vo,vp,vc],.bool r]/\jK 6 Q/\Q.orders=P.orders/\fA (λk=>F k\/B<=k) w' vo vp vc Q
theorem CR {w b:World}{F F':Nat->Prop}{br:Nat}{x y z:Value}{P Q:Pr}{r:Bool}(i:Ext w b) (m:w.heap.size<=br) (p:fA F' b x y z Q) (hF:∀k,F' k->k<b.heap.size->(F k\/w.heap.size<=k)/\k≠br) (q:jK 6 Q) (u:Q.orders=P.orders) :
  fq w (CQ F w.heap.size P) (.returned (.tuple #[.agg #[x,y,z],.bool r])) (((b.setCell ⟨br,0,none⟩ x).setCell ⟨br,1,none⟩ y).setCell ⟨br,2,none⟩ z):=by
 have l:=jh b br x y z;exact⟨_,rfl,fu i l (λj A a=>by cases A;omega),x,y,z,r,Q,rfl,q,u,p.mono (λk hk a=>⟨(hF k hk a).1,Nat.lt_of_lt_of_le a l.size,l.block k a (λe=>(hF k hk a).2 (by cases e;rfl))⟩)⟩
theorem qI {w i:World}{F:Nat->Prop}{br:Nat}{x y z:Value}{P:Pr}{r:Bool}(a:Ext w i) (e:w.heap.size<=br) (j:fA F w x y z P) (l:jK 6 P) :
  fq w (CQ F w.heap.size P) (.returned (.tuple #[.agg #[x,y,z],.bool r])) (((i.setCell ⟨br,0,none⟩ x).setCell ⟨br,1,none⟩ y).setCell ⟨br,2,none⟩ z):=
 CR a e (F':=λk=>F k/\k<w.heap.size) (j.mono (λk hk b=>⟨⟨hk,b⟩,Nat.lt_of_lt_of_le b a.size,a.block k b (by simp)⟩)) (λk hk _=>⟨.inl hk.1,by omega⟩) l rfl
theorem Nl (w:World) (pv:Value) (P:Pr) (F:Nat->Prop) (s:ByteArray) (hp:gy F w pv P) (hS:jK 6 P) (a9:∀x∈P.orders,kQ x=true) (hs:s.size<=1000) :
  Calls Tryz.prog 272 #[pv,.string s] w (fq w (CQ F w.heap.size P)):=by
 obtain⟨vo,vp,vc,rfl,R⟩:=hp;obtain⟨M,co,nN,_,_⟩:=R.o.shape;obtain⟨ap,B,ae,_,_⟩:=Sl.shape R.p;obtain⟨C,D,af,_,_⟩:=Sl.shape R.c;rw[hS.p] at ae;rw[hS.c] at af;subst nN ae af;obtain⟨n,hn⟩:∃n,n=P.orders.length:=⟨_,rfl⟩;rw[<-hn] at R;rw[<-hn];have ce:n<=6:=by rw[hn];exact hS.n
 have ba:Ext w (w.alloc (.cells #[.slice M n co,.slice ap n B,.slice C n D] 28)):=World.grownBy_alloc _ _ _;have bb:(w.alloc (.cells #[.slice M n co,.slice ap n B,.slice C n D] 28)).heap.size=w.heap.size+1:=by simp
 have aB:=fG.made w 28 (.slice M n co) (.slice ap n B) (.slice C n D);have l:=Lib.hid (And.intro hS (And.intro a9 hn));clear hS a9 hn;go_enter Tryz.func272,Tryz.ntmps272;go_wp2_with fail
 generalize w.alloc (.cells #[.slice M n co,.slice ap n B,.slice C n D] 28)=wA at *;have ai:Ext wA (wA.alloc (.cells #[.slice none 0 0,.slice none 0 0,.slice none 0 0] 28)):=World.grownBy_alloc _ _ _;have aC:=fG.made wA 28 (.slice none 0 0) (.slice none 0 0) (.slice none 0 0);have aB:=aB.ext ai;have bI:=dy ba ai;have bd:(wA.alloc (.cells #[.slice none 0 0,.slice none 0 0,.slice none 0 0] 28)).heap.size=w.heap.size+2:=by simp[bb]
 rw[bb] at aC;generalize wA.alloc (.cells #[.slice none 0 0,.slice none 0 0,.slice none 0 0] 28)=w0 at *;clear ai ba;refine Calls.mono (CK w0 s 61 hs) ?_;rintro e1 w1 ⟨v1,rfl,hg1,av,cv,ts,rfl,Gs,be,bf,L⟩;have aj:=dy bI hg1;have ak:=aB.ext hg1;have T:=aC.ext hg1;obtain⟨a0,a1,a2,a3,a4⟩:=id ak;obtain⟨b0,b1,b2,b3,b4⟩:=id T;have bg:=T.all (.slice M n co) (.slice ap n B) (.slice C n D);obtain⟨-,z0,z1,z2,-⟩:=id bg;have bX:w.heap.size+2<=w1.heap.size:=by have:=hg1.size;omega
 have HL:=Lib.hid (And.intro be (And.intro bf bd));clear be bf bd bg aB aC;by_cases aS:ts.length=2
 case neg=>
  have bY:((ts.length:Int) != 2)=true:=by simp;omega
  clear aS;go_wp2_with fail
  refine bodyPost_ret (v := .tuple #[.agg #[.slice M n co,.slice ap n B,.slice C n D],.bool false]) (by simp[results,Tryz.results272,go_sem,z0,z1,z2]) rfl ?_;exact qI aj (by omega) R l.out.1
 obtain⟨bt,rfl,aT⟩:=tR.at L 0 (by omega);obtain⟨_,aE,bh⟩:=tR.at L 1 (by omega);cases aE
 have bL:=HL.out.2.1 _ (fT (show 0<ts.length by omega));have bM:=HL.out.2.1 _ (fT (show 1<ts.length by omega));obtain⟨t0,bi⟩:∃t0,t0=gt ts 0:=⟨_,rfl⟩;obtain⟨t1,bj⟩:∃t1,t1=gt ts 1:=⟨_,rfl⟩;rw[<-bi] at aT bL;rw[<-bj] at bh bM;have b5:=(L.lt bt rfl).2;clear L bi bj HL;rw[aS];clear aS Gs;by_cases h4:t0.size=4
 case neg=>
  have bN:((t0.size:Int) != 4)=true:=by simp;omega
  clear h4;go_wp2_with fail
  refine bodyPost_ret (v := .tuple #[.agg #[.slice M n co,.slice ap n B,.slice C n D],.bool false]) (by simp[results,Tryz.results272,go_sem,z0,z1,z2]) rfl ?_;exact qI aj (by omega) R l.out.1
 have bN:((t0.size:Int) != 4)=false:=by simp;omega
 have bO:0<t0.size:=by omega
 have bP:2<t0.size:=by omega
 rcases cg:((((t0[0]'(bO)).toNat:Nat):Int) != 32) with _|_
 case' true=>
  go_wp2_with fail
  refine bodyPost_ret (v := .tuple #[.agg #[.slice M n co,.slice ap n B,.slice C n D],.bool false]) (by simp[results,Tryz.results272,go_sem,z0,z1,z2]) rfl ?_;exact qI aj (by omega) R l.out.1
 rcases ch:((((t0[2]'(bP)).toNat:Nat):Int) != 94) with _|_
 case' true=>
  go_wp2_with fail
  refine bodyPost_ret (v := .tuple #[.agg #[.slice M n co,.slice ap n B,.slice C n D],.bool false]) (by simp[results,Tryz.results272,go_sem,z0,z1,z2]) rfl ?_;exact qI aj (by omega) R l.out.1
 go_wp2_with fail
 refine Calls.mono (Ng w1 n t1 (by omega) (by omega)) ?_;rintro e2 w2 ⟨v2,rfl,hg2,aw,nw,cw,r2,rfl,hW2⟩;clear a0 a1 a2 a3 a4 b0 b1 b2 b3 b4 z0 z1 z2;have am:=ak.ext hg2;have U:=T.ext hg2;clear ak T;obtain⟨a0,a1,a2,a3,a4⟩:=id am;obtain⟨b0,b1,b2,b3,b4⟩:=id U;have bk:=U.all (.slice M n co) (.slice ap n B) (.slice C n D);obtain⟨-,z0,z1,z2,-⟩:=id bk;clear bk;have an:=dy aj hg2;have aJ:=hg2.cell aT (by simp);clear aT bh;cases r2
 case' false=>
  go_wp2_with fail
  refine bodyPost_ret (v := .tuple #[.agg #[.slice M n co,.slice ap n B,.slice C n D],.bool false]) (by simp[results,Tryz.results272,go_sem,z0,z1,z2]) rfl ?_;exact qI an (by omega) R l.out.1
 obtain⟨W,bl,Nn,bm,bn⟩:=hW2 rfl;subst Nn;clear hW2;have HW:=Lib.hid (And.intro bm bl);clear bm bl;go_wp2_with fail
 refine Calls.mono (Nc w2 n _ W _ (bn.ints (by have:=HW.out.2;omega)) HW.out.1 (by omega) (by have:=HW.out.2;omega)) ?_;rintro e3 w3 ⟨v3,rfl,hg3,ax,nx,cx,r3,rfl,Gt⟩;clear a0 a1 a2 a3 a4 b0 b1 b2 b3 b4 z0 z1 z2;have aq:=am.ext hg3;have Z:=U.ext hg3;clear am U;obtain⟨a0,a1,a2,a3,a4⟩:=id aq;obtain⟨b0,b1,b2,b3,b4⟩:=id Z;have br:=Z.all (.slice M n co) (.slice ap n B) (.slice C n D);obtain⟨-,z0,z1,z2,-⟩:=id br;clear br;have bs:=dy an hg3;have aK:=hg3.cell aJ (by simp);clear aJ bn;have bS:1<t0.size:=by omega
 have bT:3<t0.size:=by omega
 go_wp2_with fail
 go_quiet (fail)
 rename_i nq;have ag:Ext w3 (w3.drewN nq):=iI _ _ _;clear a0 a1 a2 a3 a4 b0 b1 b2 b3 b4 z0 z1 z2;generalize w3.drewN nq=w4 at *;generalize wrap64 (wrap64 ((t0[1]'(bS)).toNat:Int)-97)=x;generalize wrap64 (wrap64 ((t0[3]'(bT)).toNat:Int)-97)=y;have ar:=aq.ext ag;have aa:=Z.ext ag;clear aq Z;obtain⟨a0,a1,a2,a3,a4⟩:=id ar;obtain⟨b0,b1,b2,b3,b4⟩:=id aa;have bu:=aa.all (.slice M n co) (.slice ap n B) (.slice C n D);obtain⟨-,z0,z1,z2,-⟩:=id bu;clear bu;have N:=dy bs ag;have aL:=ag.cell aK (by simp);clear aK;cases r3
 case' false=>
  go_wp2_with fail
  refine bodyPost_ret (v := .tuple #[.agg #[.slice M n co,.slice ap n B,.slice C n D],.bool false]) (by simp[results,Tryz.results272,go_sem,z0,z1,z2]) rfl ?_;exact qI N (by omega) R l.out.1
 obtain⟨V,bv,aF,bw,Gu⟩:=Gt rfl;have aF:=aF.symm;subst aF;have aM:=Gu.gw ag;clear Gt Gu;by_cases ci:x<0
 case' pos=>
  go_wp2_with fail
  refine bodyPost_ret (v := .tuple #[.agg #[.slice M n co,.slice ap n B,.slice C n D],.bool false]) (by simp[results,Tryz.results272,go_sem,z0,z1,z2]) rfl ?_;exact qI N (by omega) R l.out.1
 by_cases cj:(n:Int)<=x
 case' pos=>
  go_wp2_with fail
  refine bodyPost_ret (v := .tuple #[.agg #[.slice M n co,.slice ap n B,.slice C n D],.bool false]) (by simp[results,Tryz.results272,go_sem,z0,z1,z2]) rfl ?_;exact qI N (by omega) R l.out.1
 obtain⟨X,rfl⟩:=Int.eq_ofNat_of_zero_le (show 0<=x by omega);have ck:(X:Int)<n:=by omega
 have aN:=R.mono (iQ N (λk hk _=>⟨hk,by simp⟩));have aU:fA F w4 (.slice M n co) (.slice ap n B) (.slice C n D) P:=aN;clear aN aF;have HV:=Lib.hid (And.intro bv (And.intro bw aM));clear bv bw aM;go_wp2_with fail
 clear a0 a1 a2 a3 a4 b0 b1 b2 b3 b4 z0 z1 z2;refine Calls.mono (CE w4 _ P F 6 ⟨_,_,_,rfl,aU⟩ l.out.1 (by omega)) ?_;rintro e5 w5 ⟨v5,rfl,mV,qo,qp,qc,rfl,qj⟩;obtain⟨E,G,I,q,J,r,e1,e2,e3⟩:=qj.shape;rw[l.out.1.p] at e2;rw[l.out.1.c] at e3;rw[<-l.out.2.2] at e1 e2 e3;subst e1 e2 e3;have aH:Ext w5 (w5.alloc (.cells #[.slice E n G,.slice I n q,.slice J n r] 28)):=World.grownBy_alloc _ _ _;have bx:=fG.made w5 28 (.slice E n G) (.slice I n q) (.slice J n r);have cm:=mV.size;have bz:gu (λk=>w4.heap.size<=k/\k<w5.heap.size) (w5.alloc (.cells #[.slice E n G,.slice I n q,.slice J n r] 28)) (.slice E n G) (.slice I n q) (.slice J n r) P:=qj.mono (λk hk H=>⟨⟨hk,H⟩,Nat.lt_of_lt_of_le H aH.size,aH.block k H (by simp)⟩);have u:=dy mV aH;go_wp2_with fail
 generalize w5.alloc (.cells #[.slice E n G,.slice I n q,.slice J n r] 28)=w6 at *;clear qj mV aH;have au:=ar.ext u;have aO:=aa.ext u;have aP:=dy N u;have aQ:=u.cell aL (by simp);obtain⟨bo,oo,hao,_,hbl,aW⟩:=Ints.at (aU.o.ext u) X (by rw[<-l.out.2.2];omega);subst hao;have aX:=l.out.2.1 _ (fT (show X<P.orders.length by rw[<-l.out.2.2];omega));obtain⟨o,ho⟩:∃o,o=gt P.orders X:=⟨_,rfl⟩;rw[<-ho] at aW aX;have cn:=Gp aX;clear ho aX ar aa aL;have f1:∀w',Ext w6 w'->w'.cell? ⟨w.heap.size,0,none⟩=some (.slice (some ⟨bo,oo,none⟩) n co):=λw' h=>(au.ext h).2.1;have f2:∀w',Ext w6 w'->w'.cell? ⟨bo,oo+X,none⟩=some (.int .i64 o):=λw' h=>h.cell aW (by simp);have f3:∀w',Ext w6 w'->w'.cell? ⟨bt,0,none⟩=some (.string t0):=λw' h=>h.cell aQ (by simp);have cq:(3:Int)<=t0.size:=by omega
 clear aW aQ
 go_region_held3 (λw'=>Ext w6 w') (first|exact fk _ _|assumption)
  (first
   | (go_at_call 293;refine Calls.mono (Calls.rel (w0:=w6) (by first|exact fk _ _|assumption) (AB _ o (by omega) (by omega))) ?_;rintro eD wD ⟨vD,rfl,S,CT,rfl⟩))
 have cr:=u.size;have b7:w.heap.size+2<=w2.heap.size:=by have:=hg2.size;omega
 have b8:w2.heap.size<=w4.heap.size:=by have:=hg3.size;have:=ag.size;omega
 have b9:=aP.size;have i:=bx.ext S;have a:=aO.ext S;have ab:=dy aP S;have bA:gu (λk=>w4.heap.size<=k/\k<w5.heap.size) wD (.slice E n G) (.slice I n q) (.slice J n r) P:=bz.mono (λk hk H=>⟨hk,Nat.lt_of_lt_of_le H S.size,S.block k H (by simp)⟩);have bB:Ints (λk=>w2.heap.size<=k/\k<w4.heap.size) wD (.slice ax n cx) V:=(iD HV.out.2.2 (by have:=HV.out.1;omega) (λk hk=>⟨(HV.out.2.2.lt k hk).1,(HV.out.2.2.lt k hk).2⟩)).ext (dy u S);have b':=an.size;have ad:=au.ext S;have HC:=Lib.hid (And.intro bA bB);have bC:=Lib.hid HV.out.1;clear bA bB f1 f2 f3 bz bx aO au aU;rcases aE:((t0.extract 3 4).toList == (strOfNums [48+o]).toList) with _|_
 case' false=>
  clear aE;by_cases cs:y<0
  case' pos=>
   obtain⟨a0,a1,a2,a3,a4⟩:=id ad;obtain⟨b0,b1,b2,b3,b4⟩:=id a;have ay:=a.all (.slice (some ⟨bo,oo,none⟩) n co) (.slice ap n B) (.slice C n D);obtain⟨-,z0,z1,z2,-⟩:=id ay;clear ay HC HV;go_wp2_with fail
   refine bodyPost_ret (v := .tuple #[.agg #[.slice (some ⟨bo,oo,none⟩) n co,.slice ap n B,.slice C n D],.bool false]) (by simp[results,Tryz.results272,go_sem,z0,z1,z2]) rfl ?_;exact qI ab (by omega) R l.out.1
  by_cases ct:(X:Int)<=y
  case' pos=>
   obtain⟨a0,a1,a2,a3,a4⟩:=id ad;obtain⟨b0,b1,b2,b3,b4⟩:=id a;have ay:=a.all (.slice (some ⟨bo,oo,none⟩) n co) (.slice ap n B) (.slice C n D);obtain⟨-,z0,z1,z2,-⟩:=id ay;clear ay HC HV;go_wp2_with fail
   refine bodyPost_ret (v := .tuple #[.agg #[.slice (some ⟨bo,oo,none⟩) n co,.slice ap n B,.slice C n D],.bool false]) (by simp[results,Tryz.results272,go_sem,z0,z1,z2]) rfl ?_;exact qI ab (by omega) R l.out.1
  obtain⟨Y,rfl⟩:=Int.eq_ofNat_of_zero_le (show 0<=y by omega);have ah:=l.out.2.2;have aI:=l.out.1.cl Y (by omega);have bD:=l.out.1.c;have cu:Y<X:=by omega
  obtain⟨K,hK⟩:∃K,K=X-Y-1:=⟨_,rfl⟩;have bU:K<(gt P.conj Y).length:=by rw[aI];omega
  obtain⟨g,jL,b,ql,z,af,⟨ai,mV⟩,jB,aY,⟨aC,Eu⟩,hbg,U1,hcb,Np,az⟩:=gu.M6 HC.out.1 Y K (by omega) bU HC.out.2 (λk hk h=>by omega);obtain⟨rfl,rfl⟩:J=some ⟨g,0,none⟩/\r=jL:=by cases af;exact⟨rfl,rfl⟩
  rw[aI,<-ah] at aY;obtain⟨m,hm⟩:∃m,m=n-1-Y:=⟨_,rfl⟩;rw[<-hm] at aY;have cy:(X:Int)-(Y:Int)-1=(K:Int):=by omega
  have cz:(K:Int)<m:=by omega
  have cA:(Y:Int)<n:=by omega
  have L:=iG wD b K (.slice ax n cx);have O:Ext w (wD.setCell ⟨b,K,none⟩ (.slice ax n cx)):=fu ab L (λj hj H=>by cases hj;omega);have A:=fG.keep a L.size (L.block _ a.1 (λe=>by cases e;omega));have Q:=fG.keep i L.size (L.block _ i.1 (λe=>by cases e;omega));have aA:=A.all (.slice E n G) (.slice I n q) (.slice (some ⟨g,0,none⟩) n r);obtain⟨q0,q1,q2,q3,q4⟩:=id i;obtain⟨r0,r1,r2,r3,r4⟩:=id Q;obtain⟨b0,b1,b2,b3,b4⟩:=id A;obtain⟨-,z0,z1,z2,-⟩:=id aA;have HR:=Lib.hid (And.intro az (And.intro O (And.intro af (And.intro aI (And.intro bD ah)))));clear aA az O af aI bD ah L A Q hm hK i a ad HC HV;go_wp2_with fail
  refine bodyPost_ret (v := .tuple #[.agg #[.slice E n G,.slice I n q,.slice (some ⟨g,0,none⟩) n r],.bool true]) (by simp[results,Tryz.results272,go_sem,z0,z1,z2]) rfl ?_;exact CR HR.out.2.1 (by omega) HR.out.1 (λk hk H=>⟨.inr (by rcases hk with hk|hk<;>omega),by rcases hk with hk|hk<;>omega⟩) (l.out.1.sJ Y K (by have:=HR.out.2.2.2.2.2;omega) (by have:=bC.out;omega)) rfl
 case' true=>
  clear aE;have ah:=l.out.2.2;have bE:=l.out.1.p;obtain⟨g,jL,z,ae,⟨ai,mV⟩,jB,aY,hfg,az⟩:=gu.CC HC.out.1 X (by omega) HC.out.2 (λk hk h=>by omega);obtain⟨rfl,rfl⟩:I=some ⟨g,0,none⟩/\q=jL:=by cases ae;exact⟨rfl,rfl⟩
  have L:=iG wD g X (.slice ax n cx);have O:Ext w (wD.setCell ⟨g,X,none⟩ (.slice ax n cx)):=fu ab L (λj hj H=>by cases hj;omega);have A:=fG.keep a L.size (L.block _ a.1 (λe=>by cases e;omega));have Q:=fG.keep i L.size (L.block _ i.1 (λe=>by cases e;omega));have aA:=A.all (.slice E n G) (.slice (some ⟨g,0,none⟩) n q) (.slice J n r);obtain⟨q0,q1,q2,q3,q4⟩:=id i;obtain⟨r0,r1,r2,r3,r4⟩:=id Q;obtain⟨b0,b1,b2,b3,b4⟩:=id A;obtain⟨-,z0,z1,z2,-⟩:=id aA;have HR:=Lib.hid (And.intro az (And.intro O (And.intro ae (And.intro bE ah))));clear aA az O ae bE ah L A Q i a ad HC HV;go_wp2_with fail
  refine bodyPost_ret (v := .tuple #[.agg #[.slice E n G,.slice (some ⟨g,0,none⟩) n q,.slice J n r],.bool true]) (by simp[results,Tryz.results272,go_sem,z0,z1,z2]) rfl ?_;exact CR HR.out.2.1 (by omega) HR.out.1 (λk hk H=>⟨.inr (by rcases hk with hk|hk<;>omega),by rcases hk with hk|hk<;>omega⟩) (l.out.1.vh X (by have:=bC.out;omega)) rfl
end Go.Proofs.YtoakmefajbbggaaGreat
namespace Go.Proofs.YtoakmefajbbggaaGreat
def lg (e:List Int):Nat->List Int
 | 0=>[]
 | k+1=>lg e k++List.replicate (gt e k).toNat ((k:Int)+1)
theorem yt {e:List Int}(h:∀i,gt e i<=7):∀k,(lg e k).length<=7*k
 | 0=>by simp[lg]
 | k+1=>by
  have:=yt h k;have:=h k;simp only[lg,List.length_append,List.length_replicate];omega
section
variable {Q:Pr}(G:ez Q)
include G
end
end Go.Proofs.YtoakmefajbbggaaGreat
namespace Go.Proofs.YtoakmefajbbggaaGreat
open Go.RowKit
theorem Nq (w:World) (y:Int):Ints Any (w.alloc (.cells #[.int .i64 y] 2)) (.slice (some ⟨w.heap.size,0,none⟩) 1 1) [y]:=by
 refine⟨some ⟨w.heap.size,0,none⟩,1,rfl,⟨by simp,by simp,λh=>by cases h⟩,λi a=>⟨w.heap.size,0,.int .i64 y,rfl,trivial,by simp,?_,?_⟩⟩
 ·have:i=0:=by simpa using a
  subst this;rw[World.cell?_alloc_at _ _ _ _ rfl];rfl
 ·have:i=0:=by simpa using a
  subst this;rfl
theorem Gv (w:World) (v:Value) (e:List Int) (S:Nat->Prop) (M:Ints S w v e) (Y:e.length<=6) (E:∀i,i<e.length->0<=gt e i/\gt e i<=7) :
  Calls Tryz.prog 69 #[v] w (fq w λw' r=>Own w.heap.size w' r (lg e e.length)):=by
 obtain⟨a,cap,rfl,_,_⟩:=M.shape
 have C:∀i,gt e i<=7:=λi=>by
  by_cases h:i<e.length
  ·exact(E i h).2
  ·rw[Eh (by omega)];decide
 have N:=Lib.hid (And.intro C E);clear C E;go_enter Tryz.func69,Tryz.ntmps69;go_wp2;go_loopw [3,4] (λF G wr=>∃(i:Nat) (D:Value),D=F/\G=.int .i64 i/\i<=e.length/\Ext w wr/\Own w.heap.size wr D (lg e i)) (λ_ G _=>e.length-(intOf G).toNat)
 case atStart=>exact⟨0,_,rfl,rfl,by omega,World.grownBy_alloc _ _ _,World.ownsRow_lit w #[] 0 (Nat.le_refl _) (by decide) rfl⟩
 case round=>
  obtain⟨i,D,rfl,rfl,hi,hg,hO⟩:=hrel;by_cases m:i<e.length
  ·have O:(i:Int)<e.length:=by omega
   obtain⟨b,off,rfl,_,_,Q⟩:=Ints.at M i m;obtain⟨x,hx⟩:∃x,x=(gt e i).toNat:=⟨_,rfl⟩;have H:=N.out.2 i m;have p:gt e i=(x:Int):=by omega
   have V:x<=7:=by omega
   have q:lg e (i+1)=lg e i++List.replicate x ((i:Int)+1):=by rw[lg,hx]
   have u:=yt N.out.1 i;rw[p] at Q;have R:=Lib.hid (And.intro q u);clear q u H p hx;go_wp2;have y:Own w.heap.size wr D (lg e i++List.replicate 0 ((i:Int)+1)):=by simpa using hO
   clear hO;go_loopw [3,5] (λF kv wr=>∃(k:Nat) (v4:Value),v4=F/\kv=.int .i64 k/\k<=x/\Ext w wr/\Own w.heap.size wr v4 (lg e i++List.replicate k ((i:Int)+1))) (λ_ kv _=>x-(intOf kv).toNat)
   case atStart=>exact⟨0,_,rfl,rfl,by omega,hg,y⟩
   case round=>
    clear y hg;obtain⟨k,v4,rfl,rfl,hk,hg,hO⟩:=hrel;have z:=hg.cell Q (by simp);by_cases T:k<x
    ·have I:(k:Int)<x:=by omega
     have j:(lg e i++List.replicate k ((i:Int)+1)).length<=1000:=by rw[List.length_append,List.length_replicate];have:=R.out.2;omega
     have W:=Lib.hid j;clear j;go_wp2_with (first|(at_builtin;refine rQ rfl _ _ rfl w.heap.size v4 _ rfl (hO.gw (World.grownBy_alloc _ _ _)) _ _ rfl Any (Nq wr _) (by have:=W.out;simp only[List.length_cons,List.length_nil];omega) (by have:=hg.size;simp;omega) ?_;intro X U A B _)|fail)
     have l:wr.grownBy U v4.ownBlock:=dy (fH _ (World.grownBy_alloc _ _ _)) B;have J:Ext w U:=fu hg l (λb C m=>by have:=(hO.lt b C).1;omega);rw[List.append_assoc,<-List.replicate_succ'] at A;clear hO B l z;go_roundw
     case rel=>exact⟨k+1,X,rfl,by go_num,by omega,J,A⟩
     case measure=>simp[intOf];omega
    ·have K:k=x:=by omega
     subst K;rw[<-R.out.1] at hO;go_wp2;clear z;go_roundw
     case rel=>exact⟨i+1,v4,rfl,by go_num,by omega,hg,hO⟩
     case measure=>simp[intOf];omega
  ·have L:i=e.length:=by omega
   subst L;go_wp2;go_ret;exact⟨_,rfl,hg,hO⟩
end Go.Proofs.YtoakmefajbbggaaGreat
