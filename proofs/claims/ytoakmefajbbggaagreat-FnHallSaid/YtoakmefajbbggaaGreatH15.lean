/- Merged from templates. -/
import Derived.Test.YtoakmefajbbggaaGreatH14
import Derived.Deep.CutBlock
set_option maxRecDepth 100000
set_option maxHeartbeats 8000000
namespace Go.Proofs.YtoakmefajbbggaaGreat
open Go.RowKit
attribute [local go_sem ↓] Go.wp_at_zero Go.wp_at_succ
theorem Valid.shp {P:Pr}(h:Valid P):Shp 6 P:=
 ⟨h.n6,h.pl,h.cl,λi a=>(h.cv i a).1,λv b=>by
  obtain⟨i,a,rfl⟩:=List.getElem_of_mem b;have:=(h.pv i (by rw[<-h.pl];exact a)).1.1;rw[gt_eq _ i a] at this;have:=h.n6;omega,λr l v b=>by
  obtain⟨i,a,rfl⟩:=List.getElem_of_mem l;obtain⟨k,hk,rfl⟩:=List.getElem_of_mem b;have e:i<P.orders.length:=by rw[<-h.cl];exact a
  obtain⟨h1,j⟩:=h.cv i e;rw[gt_eq _ i a] at h1 j;have:=(j k (by rw[<-h1];exact hk)).1.1;rw[gt_eq _ k hk] at this;have:=h.n6;omega⟩
def LimOk (a:Int) (Q:Pr):Prop:=Valid Q->ordP Q<=a\/ordP Q<=2
theorem capTo_ord {Q:Pr}(h:Valid Q):capTo Q.orders Q.orders.length=ordP Q:=
 (capTo_le Q.orders.length (λi a=>by have:=h.ord7 i a;omega)).2 ((capTo_le Q.orders.length (λi a=>by have:=h.ord7 i a;omega)).1.2 h.le729)
def PresVL (C:Pr->Prop) (B:Nat) (w':World) (v:Value):Prop:=∃(vo vp vc:Value) (Q:Pr),v=.agg #[vo,vp,vc]/\Valid Q/\Pres3 (From B) w' vo vp vc Q/\C Q
theorem vd_ret {w b:World}{sb m B:Nat}{x y z:Value}{Q:Pr}(p:w.grownBy b (some sb)) (D:w.heap.size<B) (i:Src m b sb) (q:m<=w.heap.size) {C:Pr->Prop}(r:Valid Q) (u:C Q) (hP:Pres3 (From B) b x y z Q) :
  Mut w (some sb) (DrawR m sb (PresVL C w.heap.size)) (.returned (.agg #[x,y,z])) (((b.setCell ⟨w.heap.size,0,none⟩ x).setCell ⟨w.heap.size,1,none⟩ y).setCell ⟨w.heap.size,2,none⟩ z):=by
 have l:=grown_set3 b w.heap.size x y z;exact⟨_,rfl,grown_own p l (λj A a=>by cases A;omega),⟨x,y,z,Q,rfl,r,hP.mono (λk hk a=>⟨by have hk:B<=k:=hk;show w.heap.size<=k;omega,Nat.lt_of_lt_of_le a l.size,l.block k a (λe=>by have hk:B<=k:=hk;have:=Option.some.inj e;omega)⟩),u⟩,i.own l (λk hk=>by cases hk;exact q)⟩
theorem valid_triv2:Valid (trivP [2]):=by
 have e:trivP [2]=⟨[2],[[0]],[[]]⟩:=by simp[trivP,trivC,zeros]
 rw[e];refine⟨by decide,by decide,by decide,by decide,λi a => ?_,λi a => ?_,λi a => ?_⟩
 ·have:i=0:=by simpa using a
  subst this;exact .inl rfl
 ·have:i=0:=by simpa using a
  subst this;refine⟨⟨rfl,λk hk => ?_⟩,λk hk => ?_⟩
  ·have:k=0:=by simpa using hk
   subst this;decide
  ·have:k=0:=by omega
   subst this;rfl
 ·have:i=0:=by simpa using a
  subst this;exact⟨rfl,λk hk=>by simp at hk⟩
set_option maxHeartbeats 16000000 in
theorem l07GroupL_ok (B0:Nat) (w:World) (sb:Nat) (b:Int) (ay:B0<=w.heap.size) (hs:Src B0 w sb) :
  Calls Tryz.prog 163 #[.pointer (some ⟨sb,0,none⟩),.int .i64 b] w (Mut w (some sb) (DrawR B0 sb (PresVL (LimOk b) w.heap.size))):=by
 have bp:=hs.lt;have aM:=Box3.made w 28 (.slice none 0 0) (.slice none 0 0) (.slice none 0 0);have ae:Ext w (w.alloc (.cells #[.slice none 0 0,.slice none 0 0,.slice none 0 0] 28)):=World.grownBy_alloc _ _ _;have a8:(w.alloc (.cells #[.slice none 0 0,.slice none 0 0,.slice none 0 0] 28)).heap.size=w.heap.size+1:=by simp
 have a9:=Lib.hid (hs.ext ae);clear hs;go_enter Tryz.func163,Tryz.ntmps163;go_wp2_with fail
 generalize w.alloc (.cells #[.slice none 0 0,.slice none 0 0,.slice none 0 0] 28)=w0 at *;have bf:w.heap.size+1<=w0.heap.size:=by omega
 clear a8;go_loopw [5] (λiv wr=>∃i:Nat,iv=.int .i64 i/\i<=12/\w0.grownBy wr (some sb)/\Hid (Src B0 wr sb)) (λiv _=>12-(intOf iv).toNat)
 case atStart=>exact⟨0,rfl,by omega,grown_refl _ _,a9⟩
 case round=>
  obtain⟨i,rfl,hi,hg,az⟩:=hrel;have ba:=hg.size;have O:=Box3.keep aM ba (hg.block _ aM.1 (λe=>by have:=Option.some.inj e;omega));by_cases a:i<12
  ·have aN:(i:Int)<12:=by omega
   go_wp2_with fail
   refine Calls.mono (l07Family_ok B0 wr sb (by omega) az.out) ?_;rintro eF wF ⟨vF,rfl,hgF,hP,hsF⟩;obtain⟨vo,vp,vc,rfl,l⟩:=hP;obtain⟨a1,I,c1,a2,J,c2,K,L,c3,rfl,rfl,rfl⟩:=l.shape;have S:Ext wF (wF.alloc (.cells #[.slice a1 I c1,.slice a2 J c2,.slice K L c3] 28)):=World.grownBy_alloc _ _ _;have ag:=Box3.made wF 28 (.slice a1 I c1) (.slice a2 J c2) (.slice K L c3);have aO:(wF.alloc (.cells #[.slice a1 I c1,.slice a2 J c2,.slice K L c3] 28)).heap.size=wF.heap.size+1:=by simp
   obtain⟨pb,aA⟩:∃pb,pb=wF.heap.size:=⟨_,rfl⟩;rw[<-aA] at ag aO
   have aP:∃Q,Shp 18 Q/\Pres3 (λk=>wr.heap.size<=k/\k≠pb) (wF.alloc (.cells #[.slice a1 I c1,.slice a2 J c2,.slice K L c3] 28)) (.slice a1 I c1) (.slice a2 J c2) (.slice K L c3) Q:=by
    obtain⟨Q,q1,q2⟩:=l;exact⟨Q,q1,q2.mono (λk hk a=>⟨⟨hk,by omega⟩,Nat.lt_of_lt_of_le a S.size,S.block k a (by simp)⟩)⟩
   have bg:=hgF.size;have au:=grown_trans hgF (grown_of_ext (some sb) S);have av:=hsF.ext S;have HA:=Lib.hid (And.intro aP av);clear aP av l hsF hgF az;have HP:=Lib.hid aA;go_wp2_with fail
   rw[<-HP.out];generalize wF.alloc (.cells #[.slice a1 I c1,.slice a2 J c2,.slice K L c3] 28)=wA at *;clear S;refine Calls.mono (l01Next_ok B0 wA sb 3 HA.out.2) ?_;rintro eN wN ⟨vN,rfl,E,x,rfl,hx0,hx1,aQ⟩;have M:=grown_trans au E;have R:=Box3.keep ag E.size (E.block _ ag.1 (λe=>by have:=Option.some.inj e;omega));have bi:=E.size;obtain⟨Q,F,hQA⟩:=HA.out.1;have T:Pres3 (λk=>wr.heap.size<=k/\k≠pb) wN (.slice a1 I c1) (.slice a2 J c2) (.slice K L c3) Q:=hQA.mono (λk hk a=>⟨hk,Nat.lt_of_lt_of_le a E.size,E.block k a (λe=>by have:=Option.some.inj e;omega)⟩);have bj:pb<wN.heap.size:=R.1;have bk:wr.heap.size<=pb:=by omega
   have HN:=Lib.hid (And.intro F (And.intro T aQ));clear F hQA T aQ E ag hx0 hx1 HA au aO aA HP;by_cases hx:x=0
   ·have aR:(x == 0)=true:=by simp[hx]
    clear hx;have aS:=R.ext (grown_drew _ none);obtain⟨d0,d1,d2,d3,d4⟩:=id aS;have HB:=Lib.hid R;clear R aS;go_wp2_with fail
    go_region_law (first
     | (go_simp;go_at_call 221;refine Calls.mono (l07Both_ok _ _ _ Q QG Any Any ⟨_,_,_,rfl,aT⟩ ⟨_,_,_,rfl,U⟩ (HN.out.1.mono (by omega)) (bd.mono (by omega))) ?_;rintro eC wC ⟨vC,rfl,ah,hPC⟩;obtain⟨yo,yp,yc,rfl,hPC3⟩:=hPC.q;obtain⟨e1,m1,k1,e2,m2,k2,e3,m3,k3,rfl,rfl,rfl⟩:=hPC3.shape;have aB:=aC.ext ah;obtain⟨g0,g1,g2,g3,g4⟩:=id aB)
     | (go_simp;go_at_call 220;refine Calls.mono (l07Family_ok B0 _ sb (show B0<=wN.heap.size by omega) (HN.out.2.2.ext (grown_drew _ _))) ?_;rintro eG wG ⟨vG,rfl,aU,hPG,aV⟩;obtain⟨uo,up,uc,rfl,QG,bd,hGI0⟩:=hPG;have U:Pres3 Any wG uo up uc QG:=hGI0.mono (λk _ a=>⟨trivial,a,rfl⟩);obtain⟨x1,z1,rfl,_,_⟩:=U.o.shape;obtain⟨x2,z2,rfl,_,_⟩:=Sl.shape U.p;obtain⟨x3,z3,rfl,_,_⟩:=Sl.shape U.c;have m:=grown_trans (grown_drew wN (some sb)) aU;have aC:=Box3.keep HB.out m.size (m.block _ HB.out.1 (λe=>by have:=Option.some.inj e;omega));obtain⟨f0,f1,f2,f3,f4⟩:=id aC;have aT:Pres3 Any wG _ _ _ Q:=HN.out.2.1.mono (λk hk a=>⟨trivial,Nat.lt_of_lt_of_le a m.size,m.block k a (λe=>by have:=Option.some.inj e;omega)⟩)))
    all_goals
     have aw:=grown_trans M (grown_trans m (grown_of_ext (some sb) ah));have V:=grown_set3 wC pb (.slice e1 m1 k1) (.slice e2 m2 k2) (.slice e3 m3 k3);have z:wr.grownBy (((wC.setCell ⟨pb,0,none⟩ (.slice e1 m1 k1)).setCell ⟨pb,1,none⟩ (.slice e2 m2 k2)).setCell ⟨pb,2,none⟩ (.slice e3 m3 k3)) (some sb):=grown_own aw V (λj hj a=>by have:=Option.some.inj hj;omega);have G:=aB.all (.slice e1 m1 k1) (.slice e2 m2 k2) (.slice e3 m3 k3);have W:=(aV.ext ah).own V (λk hk=>by have:=Option.some.inj hk;omega)
     have aD:∃Q,Shp 40 Q/\Pres3 (λk=>wr.heap.size<=k/\k≠pb) (((wC.setCell ⟨pb,0,none⟩ (.slice e1 m1 k1)).setCell ⟨pb,1,none⟩ (.slice e2 m2 k2)).setCell ⟨pb,2,none⟩ (.slice e3 m3 k3)) (.slice e1 m1 k1) (.slice e2 m2 k2) (.slice e3 m3 k3) Q:=by
      obtain⟨Q2,q1,q2⟩:=hPC3;have bm:=m.size
      exact ⟨Q2,q1,q2.mono (λk hk a=>by
       have hk:wG.heap.size<=k:=hk;exact⟨⟨by omega,by omega⟩,Nat.lt_of_lt_of_le a V.size,V.block k a (λe=>by have:=Option.some.inj e;omega)⟩)⟩
     clear aB V aV hPC3 g0 g1 g2 g3 g4 f0 f1 f2 f3 f4 d0 d1 d2 d3 d4 aC aw ah m aU U hGI0 aT M HN HB aR;generalize ((wC.setCell ⟨pb,0,none⟩ (.slice e1 m1 k1)).setCell ⟨pb,1,none⟩ (.slice e2 m2 k2)).setCell ⟨pb,2,none⟩ (.slice e3 m3 k3)=w9 at *;obtain⟨H,F,hQ9⟩:=aD;have A:=Box3.keep O z.size (z.block _ O.1 (λe=>by have:=Option.some.inj e;omega));obtain⟨p0,p1,p2,p3,p4⟩:=id G;go_wp2_with fail
     refine Calls.mono (sIsPresentation_ok w9 _ H _ ⟨_,_,_,rfl,hQ9⟩) ?_;rintro e5 w5 ⟨v5,rfl,r,rfl⟩;have X:=G.ext r;have u:=A.ext r;have Y:=hQ9.ext r;have Z:=W.ext r;have y:=grown_trans z (grown_of_ext (some sb) r);have HQ:=Lib.hid (And.intro Y Z);clear p0 p1 p2 p3 p4 G A hQ9 W z Y Z;obtain⟨p0,p1,p2,p3,p4⟩:=id X;rcases hv:validB H with _|_
     ·go_wp2_with fail
      go_roundw
      case rel=>exact⟨i+1,by go_num,by omega,grown_trans hg y,Lib.hid HQ.out.2⟩
      case measure=>simp[intOf];omega
     ·have hV:=valid_of hv
      clear hv;have HV:=Lib.hid hV;clear hV;go_wp2_with fail
      refine Calls.mono (l07Product_ok w5 _ H.orders _ HQ.out.1.o (λj hj=>by have:=HV.out.ord7 j hj;omega)) ?_;rintro _ _ ⟨rfl,rfl⟩;rcases aF:decide (capTo H.orders H.orders.length<=b) with _|_
      ·go_wp2_with fail
       go_roundw
       case rel=>exact⟨i+1,by go_num,by omega,grown_trans hg y,Lib.hid HQ.out.2⟩
       case measure=>simp[intOf];omega
      ·have C:LimOk b H:=λaG => .inl (by rw[<-capTo_ord aG];exact of_decide_eq_true aF)
       have aH:=Lib.hid C;clear C;obtain⟨b0,b1,b2,b3,b4⟩:=id u;have hZ:=u.all (.slice e1 m1 k1) (.slice e2 m2 k2) (.slice e3 m3 k3);obtain⟨-,z0,z1,z2,-⟩:=id hZ;have D:w.grownBy w5 (some sb):=grown_trans (grown_of_ext (some sb) ae) (grown_trans hg y);have l:Pres3 (From wr.heap.size) w5 (.slice e1 m1 k1) (.slice e2 m2 k2) (.slice e3 m3 k3) H:=HQ.out.1.mono (λk hk a=>⟨hk.1,a,rfl⟩);have HF:=Lib.hid (And.intro D (And.intro l HQ.out.2));clear hZ D l u X;go_wp2_with fail
       refine bodyPost_ret (v := .agg #[.slice e1 m1 k1,.slice e2 m2 k2,.slice e3 m3 k3]) (by simp[results,Tryz.results163,go_sem,z0,z1,z2]) rfl ?_;exact vd_ret HF.out.1 (B:=wr.heap.size) (by omega) HF.out.2.2 ay HV.out aH.out HF.out.2.1
   ·have aR:(x == 0)=false:=by simp[hx]
    obtain⟨F,T,W⟩:=HN.out;have aD:∃Q,Shp 40 Q/\Pres3 (λk=>wr.heap.size<=k/\k≠pb) wN (.slice a1 I c1) (.slice a2 J c2) (.slice K L c3) Q:=⟨Q,F.mono (by omega),T⟩;clear F T HN hx;have z:=M;have G:=R;clear M R;obtain⟨H,F,hQ9⟩:=aD;have A:=Box3.keep O z.size (z.block _ O.1 (λe=>by have:=Option.some.inj e;omega));obtain⟨p0,p1,p2,p3,p4⟩:=id G;go_wp2_with fail
    refine Calls.mono (sIsPresentation_ok wN _ H _ ⟨_,_,_,rfl,hQ9⟩) ?_;rintro e5 w5 ⟨v5,rfl,r,rfl⟩;have X:=G.ext r;have u:=A.ext r;have Y:=hQ9.ext r;have Z:=W.ext r;have y:=grown_trans z (grown_of_ext (some sb) r);have HQ:=Lib.hid (And.intro Y Z);clear p0 p1 p2 p3 p4 G A hQ9 W z Y Z;obtain⟨p0,p1,p2,p3,p4⟩:=id X;rcases hv:validB H with _|_
    ·go_wp2_with fail
     go_roundw
     case rel=>exact⟨i+1,by go_num,by omega,grown_trans hg y,Lib.hid HQ.out.2⟩
     case measure=>simp[intOf];omega
    ·have hV:=valid_of hv
     clear hv;have HV:=Lib.hid hV;clear hV;go_wp2_with fail
     refine Calls.mono (l07Product_ok w5 _ H.orders _ HQ.out.1.o (λj hj=>by have:=HV.out.ord7 j hj;omega)) ?_;rintro _ _ ⟨rfl,rfl⟩;rcases aF:decide (capTo H.orders H.orders.length<=b) with _|_
     ·go_wp2_with fail
      go_roundw
      case rel=>exact⟨i+1,by go_num,by omega,grown_trans hg y,Lib.hid HQ.out.2⟩
      case measure=>simp[intOf];omega
     ·have C:LimOk b H:=λaG => .inl (by rw[<-capTo_ord aG];exact of_decide_eq_true aF)
      have aH:=Lib.hid C;clear C;obtain⟨b0,b1,b2,b3,b4⟩:=id u;have hZ:=u.all (.slice a1 I c1) (.slice a2 J c2) (.slice K L c3);obtain⟨-,z0,z1,z2,-⟩:=id hZ;have D:w.grownBy w5 (some sb):=grown_trans (grown_of_ext (some sb) ae) (grown_trans hg y);have l:Pres3 (From wr.heap.size) w5 (.slice a1 I c1) (.slice a2 J c2) (.slice K L c3) H:=HQ.out.1.mono (λk hk a=>⟨hk.1,a,rfl⟩);have HF:=Lib.hid (And.intro D (And.intro l HQ.out.2));clear hZ D l u X;go_wp2_with fail
      refine bodyPost_ret (v := .agg #[.slice a1 I c1,.slice a2 J c2,.slice K L c3]) (by simp[results,Tryz.results163,go_sem,z0,z1,z2]) rfl ?_;exact vd_ret HF.out.1 (B:=wr.heap.size) (by omega) HF.out.2.2 ay HV.out aH.out HF.out.2.1
  ·have aN:¬((i:Int)<12):=by omega
   obtain⟨b0,b1,b2,b3,b4⟩:=id O;go_wp2_with fail
   have aI:Ext wr (wr.alloc (.cells #[.int .i64 2] 2)):=World.grownBy_alloc _ _ _;have hL:Ints Any (wr.alloc (.cells #[.int .i64 2] 2)) (.slice (some ⟨wr.heap.size,0,none⟩) 1 1) [2]:=Ints.sub (ints_litL wr [2] (by simp)) (λ_ _ _=>trivial);refine Calls.mono (l07Trivial_ok _ _ [2] _ hL (by simp)) ?_;rintro e3 w3 ⟨v3,rfl,ac,vo,vp,vc,rfl,hX3⟩;have ac:=grown_trans aI ac;have l:Pres3 (From wr.heap.size) w3 vo vp vc (trivP [2]):=hX3.p3.mono (λk hk a=>⟨Nat.le_trans aI.size hk,a,rfl⟩);obtain⟨a1,I,c1,a2,J,c2,K,L,c3,rfl,rfl,rfl⟩:=PresN3.shape ⟨trivP [2],trivP_shp (N:=6) _ (by simp),l⟩;have aJ:=O.ext ac;have a4:=az.out.ext ac;have D:w.grownBy w3 (some sb):=grown_trans (grown_of_ext (some sb) ae) (grown_trans hg (grown_of_ext (some sb) ac));clear hX3 hL aI b0 b1 b2 b3 b4;obtain⟨b0,b1,b2,b3,b4⟩:=id aJ;have hZ:=aJ.all (.slice a1 I c1) (.slice a2 J c2) (.slice K L c3);obtain⟨-,z0,z1,z2,-⟩:=id hZ;have HF:=Lib.hid (And.intro D (And.intro l a4));clear hZ D l aJ a4;go_wp2_with fail
   refine bodyPost_ret (v := .agg #[.slice a1 I c1,.slice a2 J c2,.slice K L c3]) (by simp[results,Tryz.results163,go_sem,z0,z1,z2]) rfl ?_;exact vd_ret HF.out.1 (B:=wr.heap.size) (by omega) HF.out.2.2 ay valid_triv2 (λ_ => .inr (by decide)) HF.out.2.1
theorem PresX.moved {F:Nat->Prop}{w w':World}{vo vp vc:Value}{P:Pr}(h:PresX F w vo vp vc P) {r:Nat}(b:w.grownBy w' (some r)) (i:¬F r):PresX F w' vo vp vc P:=
 h.mono (λk hk a=>⟨hk,Nat.lt_of_lt_of_le a b.size,b.block k a (λe=>i (by have:=Option.some.inj e;subst this;exact hk))⟩)
theorem Box3.moved {w w':World}{b r:Nat}{x y z:Value}(h:Box3 w b x y z) (a:w.grownBy w' (some r)) (i:b≠r):Box3 w' b x y z:=h.keep a.size (a.block _ h.1 (λe=>i (Option.some.inj e)))
def PresAL (M:Nat) (C:Pr->Prop) (B:Nat) (w':World) (v:Value):Prop:=∃(vo vp vc:Value) (Q:Pr),v=.agg #[vo,vp,vc]/\Q.orders.length<=M/\Pres3 (From B) w' vo vp vc Q/\C Q
def OrdLe (P Q:Pr):Prop:=Valid Q->ordP Q<=ordP P
theorem OrdLe.same {P Q:Pr}(h:Q.orders=P.orders):OrdLe P Q:=λ_=>by unfold ordP;rw[h];exact Int.le_refl _
theorem LimOk.le {a:Int}{P Q:Pr}(h:LimOk a P) (e:Valid P) (i:OrdLe P Q):LimOk a Q:=λj=>by
 have b:=i j;rcases h e with h|h
 ·exact .inl (Int.le_trans b h)
 ·exact .inr (Int.le_trans b h)
theorem a_ret {w b:World}{sb m M br:Nat}{x y z:Value}{Q:Pr}{F:Nat->Prop}(p:w.grownBy b (some sb)) (q:w.heap.size<=br) (hF:∀k,F k->k<b.heap.size->w.heap.size<=k/\k≠br) (i:Src m b sb) (r:m<=w.heap.size) {C:Pr->Prop}(u:Q.orders.length<=M) (hP:Pres3 F b x y z Q) (A:C Q) :
  Mut w (some sb) (DrawR m sb (PresAL M C w.heap.size)) (.returned (.agg #[x,y,z])) (((b.setCell ⟨br,0,none⟩ x).setCell ⟨br,1,none⟩ y).setCell ⟨br,2,none⟩ z):=by
 have l:=grown_set3 b br x y z;exact⟨_,rfl,grown_own p l (λj B a=>by cases B;omega),⟨x,y,z,Q,rfl,u,hP.mono (λk hk a=>⟨(hF k hk a).1,Nat.lt_of_lt_of_le a l.size,l.block k a (λe=>(hF k hk a).2 (Option.some.inj e))⟩),A⟩,i.own l (λk hk=>by cases hk;omega)⟩
theorem PresX.openPIm {F:Nat->Prop}{m:World}{vo vp vc:Value}{P:Pr}{r:Nat}(h:PresX F m vo vp vc P) (i j:Nat) (q:i<P.powers.length) (u:j<(gt P.powers i).length) (w:¬F r) :
  ∃ g cap b a,vp=.slice (some ⟨g,0,none⟩) P.powers.length cap/\F g/\g<m.heap.size/\m.cell? ⟨g,i,none⟩=some (.slice (some ⟨b,0,none⟩) (gt P.powers i).length a)/\F b/\b≠g/\b<m.heap.size /\
   m.cell? ⟨b,j,none⟩=some (.int .i64 (gt (gt P.powers i) j)) /\
   ∀l,m.grownBy l (some r)->l.frozen? ⟨b,j,none⟩=false/\∀x,PresX (λk=>F k\/l.heap.size<=k) (l.setCell ⟨b,j,none⟩ (.int .i64 x)) vo vp vc { P with powers:=P.powers.set i ((gt P.powers i).set j x) } :=by
 obtain⟨g,cap,b,a,rfl,h1,h2,h3,h4,h5,h6,h7,_,_⟩:=h.openPI i j q u;refine⟨g,cap,b,a,rfl,h1,h2,h3,h4,h5,h6,h7,λl y => ?_⟩;have A:=h.moved y w;obtain⟨B,cap',b',cap2',e1,k1,k2,z,k4,k5,k6,k7,k8,k9⟩:=A.openPI i j q u;cases e1
 have p:=y.cell h3 (by simp;intro e;subst e;exact w h1);rw[p] at z;cases z
 exact⟨k8 l (Ext.refl _),λx=>k9 l x (Ext.refl _)⟩
theorem PresX.ordNe {F:Nat->Prop}{w:World}{vo vp vc:Value}{P:Pr}(h:PresX F w vo vp vc P) (i:Nat) (l:i<P.powers.length) {g n cap b m c:Nat}(p:vp=.slice (some ⟨g,0,none⟩) n cap) (q:w.cell? ⟨g,i,none⟩=some (.slice (some ⟨b,0,none⟩) m c)):vo.ownBlock≠some b:=by
 obtain⟨Fo,Fp,Fc,h1,h2,h3,r,h5,h6⟩:=h;subst p;obtain⟨v,Gj,a,j,k,_⟩:=SlI.turn rdOwn h2 i l;rw[q] at a;cases a
 exact λe=>(r b (h1.2.1 b e)).2.1 (k b (j.2.1 b rfl)).1
theorem PresX.ordNeC {F:Nat->Prop}{w:World}{vo vp vc:Value}{P:Pr}(h:PresX F w vo vp vc P) (i k:Nat) (u:i<P.conj.length) (hk:k<(gt P.conj i).length) {g n cap e m c b y c2:Nat}(z:vc=.slice (some ⟨g,0,none⟩) n cap) (A:w.cell? ⟨g,i,none⟩=some (.slice (some ⟨e,0,none⟩) m c)) (j:w.cell? ⟨e,k,none⟩=some (.slice (some ⟨b,0,none⟩) y c2)):vo.ownBlock≠some b:=by
 obtain⟨Fo,Fp,Fc,h1,h2,B,C,h5,h6⟩:=h;subst z;obtain⟨v,Gj,q,hEl,l,_⟩:=SlI.turn (rdI rdOwn) B i u;rw[A] at q;cases q
 obtain⟨v,Hj,r,a,p,_⟩:=SlI.turn rdOwn hEl k hk;rw[j] at r;cases r
 exact λe=>(C b (h1.2.1 b e)).2.2 (l b (p b (a.2.1 b rfl)).1).1
theorem PresX.openCIm {F:Nat->Prop}{m:World}{vo vp vc:Value}{P:Pr}{r:Nat}(h:PresX F m vo vp vc P) (i k j:Nat) (z:i<P.conj.length) (hk:k<(gt P.conj i).length) (A:j<(gt (gt P.conj i) k).length) (q:¬F r) :
  ∃ g cap e a b l,vc=.slice (some ⟨g,0,none⟩) P.conj.length cap/\F g/\g<m.heap.size/\m.cell? ⟨g,i,none⟩=some (.slice (some ⟨e,0,none⟩) (gt P.conj i).length a)/\F e/\e<m.heap.size /\
   m.cell? ⟨e,k,none⟩=some (.slice (some ⟨b,0,none⟩) (gt (gt P.conj i) k).length l)/\F b/\b≠g/\b≠e/\b<m.heap.size/\m.cell? ⟨b,j,none⟩=some (.int .i64 (gt (gt (gt P.conj i) k) j)) /\
   ∀p,m.grownBy p (some r)->p.frozen? ⟨b,j,none⟩=false/\∀x,PresX (λk=>F k\/p.heap.size<=k) (p.setCell ⟨b,j,none⟩ (.int .i64 x)) vo vp vc { P with conj:=P.conj.set i ((gt P.conj i).set k ((gt (gt P.conj i) k).set j x)) } :=by
 obtain⟨g,cap,e,a,b,l,rfl,h1,h2,h3,h4,h5,h6,h7,h8,h9,h10,h11,_,_⟩:=h.openCI i k j z hk A;refine⟨g,cap,e,a,b,l,rfl,h1,h2,h3,h4,h5,h6,h7,h8,h9,h10,h11,λp u => ?_⟩;have D:=h.moved u q;obtain⟨E,cap',e',cap1',b',cap2',e1,k1,k2,B,k4,k5,C,k7,k8,k9,k10,k11,k12,k13⟩:=D.openCI i k j z hk A;cases e1
 have w:=u.cell h3 (by simp;intro e;subst e;exact q h1);rw[w] at B;cases B
 have y:=u.cell h6 (by simp;intro e;subst e;exact q h4);rw[y] at C;cases C
 exact⟨k12 p (Ext.refl _),λx=>k13 p x (Ext.refl _)⟩
set_option maxHeartbeats 16000000 in
theorem l07TurnL_ok (B0:Nat) (w:World) (sb:Nat) (pv:Value) (P:Pr) (F:Nat->Prop) (aR:B0<=w.heap.size) (hs:Src B0 w sb) (hp:PresV F w pv P) (hV:Valid P) :
  Calls Tryz.prog 111 #[.pointer (some ⟨sb,0,none⟩),pv] w (Mut w (some sb) (DrawR B0 sb (PresAL 7 (OrdLe P) w.heap.size))):=by
 have bV:=hs.lt;have hS:=hV.shp;obtain⟨vo,vp,vc,rfl,h3⟩:=hp;obtain⟨ao,co,hvo,_,_⟩:=h3.o.shape;obtain⟨ap,cp,ab,_,_⟩:=Sl.shape h3.p;obtain⟨ac,cc,ad,_,_⟩:=Sl.shape h3.c;rw[hS.p] at ab;rw[hS.c] at ad;subst hvo ab ad;obtain⟨n,hn⟩:∃n,n=P.orders.length:=⟨_,rfl⟩;rw[<-hn] at h3;rw[<-hn];have bW:n<=6:=by rw[hn];exact hS.n
 have a6:Ext w (w.alloc (.cells #[.slice ao n co,.slice ap n cp,.slice ac n cc] 28)):=World.grownBy_alloc _ _ _;have aS:(w.alloc (.cells #[.slice ao n co,.slice ap n cp,.slice ac n cc] 28)).heap.size=w.heap.size+1:=by simp
 have bx:=Box3.made w 28 (.slice ao n co) (.slice ap n cp) (.slice ac n cc);have Z:=Lib.hid (And.intro hS (And.intro hV (And.intro hn hs)));clear hS hV hn hs;go_enter Tryz.func111,Tryz.ntmps111;go_wp2_with fail
 generalize w.alloc (.cells #[.slice ao n co,.slice ap n cp,.slice ac n cc] 28)=wA at *;have ay:Ext wA (wA.alloc (.cells #[.slice none 0 0,.slice none 0 0,.slice none 0 0] 28)):=World.grownBy_alloc _ _ _;have ae:=Box3.made wA 28 (.slice none 0 0) (.slice none 0 0) (.slice none 0 0);have aT:=grown_trans a6 ay;have bz:(wA.alloc (.cells #[.slice none 0 0,.slice none 0 0,.slice none 0 0] 28)).heap.size=w.heap.size+2:=by simp[aS]
 rw[aS] at ae;generalize wA.alloc (.cells #[.slice none 0 0,.slice none 0 0,.slice none 0 0] 28)=w0 at *;have bJ:w.heap.size+2<=w0.heap.size:=by omega
 clear ay a6 bx aS bz;refine Calls.mono (l07Own_ok w0 _ P F 6 ⟨_,_,_,rfl,h3.mono (frame_of aT (λk hk _=>⟨hk,by simp⟩))⟩ Z.out.1 (by omega)) ?_;rintro e1 w1 ⟨v1,rfl,hg1,qo,qp,qc,rfl,hX1⟩;obtain⟨R,i,B,l,C,q,e1,e2,e3⟩:=hX1.shape;rw[Z.out.1.p] at e2;rw[Z.out.1.c] at e3;rw[<-Z.out.2.2.1] at e1 e2 e3;subst e1 e2 e3;obtain⟨qb,aW⟩:∃qb,qb=w1.heap.size:=⟨_,rfl⟩;have aa:Ext w1 (w1.alloc (.cells #[.slice R n i,.slice B n l,.slice C n q] 28)):=World.grownBy_alloc _ _ _;have aX:=Box3.made w1 28 (.slice R n i) (.slice B n l) (.slice C n q);rw[<-aW] at aX;have bA:=hg1.size;have a8:PresX (λk=>w0.heap.size<=k/\k≠qb) (w1.alloc (.cells #[.slice R n i,.slice B n l,.slice C n q] 28)) (.slice R n i) (.slice B n l) (.slice C n q) P:=hX1.mono (λk hk az=>⟨⟨hk,by omega⟩,Nat.lt_of_lt_of_le az aa.size,aa.block k az (by simp)⟩);have af:=grown_trans hg1 aa;have a9:=Lib.hid aW;go_wp2_with fail
 rw[<-a9.out];generalize w1.alloc (.cells #[.slice R n i,.slice B n l,.slice C n q] 28)=w2 at *;have bY:w0.heap.size<=qb:=by omega
 clear hX1 hg1 aa aW a9 bA;have a':=ae.ext af;have ag:=grown_trans aT af;have ba:=Z.out.2.2.2.ext ag;clear ae af aT h3;-- i
 refine Calls.mono (l01Next_ok B0 w2 sb n ba) ?_;rintro e3 w3 ⟨v3,rfl,ah,x,rfl,hx0,hx1,bb⟩;have bc:=a8.moved ah (λh=>by omega);have aG:=aX.moved ah (by omega);have aH:=a'.moved ah (by omega);have aI:=grown_trans (grown_of_ext (some sb) ag) ah
 have bB:0<=x/\x<=6:=by
  by_cases h:(1:Int)<n
  ·have:=hx1 h;omega
  ·have:=hx0 (by omega);omega
 have aY:=Lib.hid (And.intro bc bb);clear a8 aX a' ag ba ah bc bb;obtain⟨I,rfl⟩:=Int.eq_ofNat_of_zero_le bB.1;-- j
 go_wp2_with fail
 refine Calls.mono (l01Next_ok B0 w3 sb _ aY.out.2) ?_;rintro e4 w4 ⟨v4,rfl,hg4,y,rfl,hy0,hy1,bd⟩;have be:=aY.out.1.moved hg4 (λh=>by omega);have U:=aG.moved hg4 (by omega);have H:=aH.moved hg4 (by omega);have V:=grown_trans aI hg4
 have b6:0<=y/\y<=6:=by
  by_cases h:1<(n:Int)-1-(I:Int)
  ·have:=hy1 h;omega
  ·have:=hy0 (by omega);omega
 have ai:=Lib.hid (And.intro be bd);clear hg4 be bd aY aG aH aI hy0 hy1 hx0 hx1;obtain⟨q0,q1,q2,q3,q4⟩:=id U;by_cases b7:(n:Int)<=(I:Int)+1+y
 ·obtain ⟨b0,b1,b2,b3,b4⟩:=id H
  have hZ:=H.all (.slice R n i) (.slice B n l) (.slice C n q);obtain⟨-,z0,z1,z2,-⟩:=id hZ;have HF:=Lib.hid V;clear hZ V H U;go_wp2_with fail
  refine bodyPost_ret (v := .agg #[.slice R n i,.slice B n l,.slice C n q]) (by simp[results,Tryz.results111,go_sem,z0,z1,z2]) rfl ?_;exact a_ret HF.out (by omega) (λk hk _=>⟨by omega,by omega⟩) ai.out.2 aR (by rw[<-Z.out.2.2.1];omega) ai.out.1.p3 (OrdLe.same rfl)
 obtain⟨J,hJ⟩:∃J:Nat,(I:Int)+1+y=J:=⟨((I:Int)+1+y).toNat,by omega⟩;have b9:I<n:=by omega
 have b':J<n:=by omega
 have bM:(I:Int)<n:=by omega
 have bN:(J:Int)<n:=by omega
 have HJ:=Lib.hid hJ;go_wp2_with fail
 refine Calls.mono (l01Next_ok B0 w4 sb 3 ai.out.2) ?_;rintro e5 w5 ⟨v5,rfl,hg5,z,rfl,_,_,bf⟩;have bg:=ai.out.1.moved hg5 (λh=>by omega);have E:=U.moved hg5 (by omega);have W:=H.moved hg5 (by omega);have X:=grown_trans V hg5;have S:=Lib.hid (And.intro bg bf);clear hg5 bg bf ai U H V q0 q1 q2 q3 q4;have L:=Z.out.2.2.1;have aA:(gt P.powers I).length=n:=by rw[L];exact(Z.out.2.1.pv I (by omega)).1.1
 have aj:=Z.out.2.1.pl;have ak:=Z.out.2.1.cl;by_cases hz:z=0
 ·have bD:(z == 0)=true:=by simp[hz]
  clear hz;obtain⟨g,capg,b,capb,ab,⟨ay,aa⟩,hgl,D,⟨ae,hbq⟩,hbg,hbl,al,am⟩:=S.out.1.openPIm (r:=sb) I J (by omega) (by omega) (λh=>by omega);obtain⟨rfl,rfl⟩:B=some ⟨g,0,none⟩/\l=capg:=by cases ab;exact⟨rfl,rfl⟩
  clear ab;obtain⟨bo,oo,rfl,⟨hboB,hboq⟩,hbol,T⟩:=Ints.at S.out.1.p3.o J (by omega);rw[aA] at D;have bE:bo≠b:=λe=>S.out.1.ordNe I (by omega) rfl D (by rw[<-e];rfl);generalize gt P.orders J=oj at T;generalize gt (gt P.powers I) J=bF at al;have e0:∀w',NearS w5 sb b w'->w'.cell? ⟨qb,0,none⟩=some (.slice (some ⟨bo,oo,none⟩) n i):=λw' h=>h.cell E.2.1 (by simp;omega) (by simp;omega);have e1:∀w',NearS w5 sb b w'->w'.cell? ⟨qb,1,none⟩=some (.slice (some ⟨g,0,none⟩) n l):=λw' h=>h.cell E.2.2.1 (by simp;omega) (by simp;omega);have e2:∀w',NearS w5 sb b w'->w'.cell? ⟨g,I,none⟩=some (.slice (some ⟨b,0,none⟩) n capb):=λw' h=>h.cell D (by simp;omega) (by simp;omega);have e3:∀w',NearS w5 sb b w'->w'.cell? ⟨bo,oo+J,none⟩=some (.int .i64 oj):=λw' h=>h.cell T (by simp;omega) (by simp;omega);have aq:=Lib.hid (And.intro am aA);clear am aA aj ak L HJ hJ;clear D T;go_wp2_with fail
  go_region_held3 (λw'=>NearS w5 sb b w') (first|exact NearS.ext (grown_drew _ _)|exact NearS.of (by assumption)|exact NearS.two a (grown_set1 _ _ _ _)|assumption)
   (first
    | (go_at_call 84;refine Calls.mono (l01Next_ok B0 w5.drew sb oj (S.out.2.ext (grown_drew _ _))) ?_;rintro e6 Y ⟨v6,rfl,aL,u,rfl,hu0,hu1,ar⟩;have a:w5.grownBy Y (some sb):=grown_trans (grown_of_ext (some sb) (grown_drew _ _)) aL;have bi:=a.cell al (by simp;omega);have bj:=(aq.out.1 Y a).1))
  have au:=(aq.out.1 Y a).2 u;have hT:=grown_set1 Y b J (.int .i64 u);have bP:=a.size;have A:=(E.moved a (by omega)).moved hT (by omega);have G:=(W.moved a (by omega)).moved hT (by omega);have N:=grown_own (grown_trans X a) hT (λj hj az=>by have:=Option.some.inj hj;omega);have aM:=ar.own hT (λk hk=>by have:=Option.some.inj hk;omega);clear bi bj e0 e1 e2 e3 hT E W X hu0 hu1 ar aL;have O:=Lib.hid (And.intro au (And.intro aM N));clear au aM N;generalize Y.setCell ⟨b,J,none⟩ (.int .i64 u)=w7 at *;obtain⟨q0,q1,q2,q3,q4⟩:=id A;obtain⟨b0,b1,b2,b3,b4⟩:=id G;have hZ:=G.all (.slice (some ⟨bo,oo,none⟩) n i) (.slice (some ⟨g,0,none⟩) n l) (.slice C n q);obtain⟨-,z0,z1,z2,-⟩:=id hZ;clear hZ G A;go_wp2_with fail
  refine bodyPost_ret (v := .agg #[.slice (some ⟨bo,oo,none⟩) n i,.slice (some ⟨g,0,none⟩) n l,.slice C n q]) (by simp[results,Tryz.results111,go_sem,z0,z1,z2]) rfl ?_;exact a_ret O.out.2.2 (by omega) (λk hk _=>⟨by rcases hk with hk|hk<;>omega,by rcases hk with hk|hk<;>omega⟩) O.out.2.1 aR (by show P.orders.length<=7;rw[<-Z.out.2.2.1];omega) O.out.1.p3 (OrdLe.same rfl)
 ·have bD:(z == 0)=false:=by simp[hz]
  clear hz;have bk:=Lib.hid L;clear L;have bI:=Lib.hid (And.intro aj ak);clear aj ak aA;go_wp2_with fail
  have L:=bk.out;obtain⟨aj,ak⟩:=bI.out;refine Calls.mono (l01Next_ok B0 w5 sb _ S.out.2) ?_;rintro e6 Y ⟨v6,rfl,a,y2,rfl,hy0,hy1,ar⟩;have au:=S.out.1.moved a (λh=>by omega);have A:=E.moved a (by omega);have G:=W.moved a (by omega);have N:=grown_trans X a;have bQ:(I:Int)+1<n:=by omega
  have cb:0<=y2/\(I:Int)+1+y2<n:=by
   by_cases h:1<(n:Int)-1-(I:Int)
   ·have:=hy1 h;omega
   ·have:=hy0 (by omega);omega
  obtain⟨K,hK⟩:∃K:Nat,(I:Int)+1+y2=K:=⟨((I:Int)+1+y2).toNat,by omega⟩;obtain⟨M,hM⟩:∃M:Nat,(K:Int)-(I:Int)=(M:Int)+1:=⟨((K:Int)-(I:Int)-1).toNat,by omega⟩;have aB:IntKind.i64.wrap ((K:Int)-(I:Int))=(M:Int)+1:=by rw[hM];exact IntWalk.i64_in _ (by omega)
  have aC:IntKind.i64.wrap (M:Int)=(M:Int):=IntWalk.i64_in _ (by omega);have O:=Lib.hid (And.intro au ar);clear a au ar S E W X hy0 hy1;have aD:=(Z.out.2.1.cv I (by omega)).1;have aZ:=((Z.out.2.1.cv I (by omega)).2 M (by omega)).1.1;obtain⟨g,capg,e,cap1,b,capb,ad,⟨ay,aa⟩,hgl,D,⟨heB,heq⟩,hel,hce,⟨ae,hbq⟩,hbg,hbe,hbl,al,am⟩:=O.out.1.openCIm (r:=sb) I M J (by omega) (by rw[aD];omega) (by rw[aZ];omega) (λh=>by omega);obtain⟨rfl,rfl⟩:C=some ⟨g,0,none⟩/\q=capg:=by cases ad;exact⟨rfl,rfl⟩
  clear ad;obtain⟨bo,oo,rfl,⟨hboB,hboq⟩,hbol,T⟩:=Ints.at O.out.1.p3.o J (by omega);have bE:bo≠b:=λe=>O.out.1.ordNeC I M (by omega) (by rw[aD];omega) rfl D hce (by rw[<-e];rfl);rw[aD,<-L] at D;rw[aZ,<-L] at hce;obtain⟨m,hm⟩:∃m,m=n-1-I:=⟨_,rfl⟩;rw[<-hm] at D;have cd:(M:Int)<m:=by omega
  generalize gt P.orders J=oj at T;generalize gt (gt (gt P.conj I) M) J=bF at al;have e0:∀w',NearS Y sb b w'->w'.cell? ⟨qb,0,none⟩=some (.slice (some ⟨bo,oo,none⟩) n i):=λw' h=>h.cell A.2.1 (by simp;omega) (by simp;omega);have e1:∀w',NearS Y sb b w'->w'.cell? ⟨qb,2,none⟩=some (.slice (some ⟨g,0,none⟩) n q):=λw' h=>h.cell A.2.2.2.1 (by simp;omega) (by simp;omega);have e2:∀w',NearS Y sb b w'->w'.cell? ⟨g,I,none⟩=some (.slice (some ⟨e,0,none⟩) m cap1):=λw' h=>h.cell D (by simp;omega) (by simp;omega);have e3:∀w',NearS Y sb b w'->w'.cell? ⟨bo,oo+J,none⟩=some (.int .i64 oj):=λw' h=>h.cell T (by simp;omega) (by simp;omega);have e4:∀w',NearS Y sb b w'->w'.cell? ⟨e,M,none⟩=some (.slice (some ⟨b,0,none⟩) n capb):=λw' h=>h.cell hce (by simp;omega) (by simp;omega);have aq:=Lib.hid am;clear am aj ak HJ hJ hm hM aD aZ;clear D T hce L;have bl:=Lib.hid (And.intro aB aC);clear aB aC;go_wp2_with fail
  have aB:=bl.out.1;have aC:=bl.out.2
  go_region_held3 (λw'=>NearS Y sb b w') (first|exact NearS.ext (grown_drew _ _)|exact NearS.of (by assumption)|exact NearS.two Q (grown_set1 _ _ _ _)|assumption)
   (first
    | (go_at_call 84;refine Calls.mono (l01Next_ok B0 Y.drew sb oj (O.out.2.ext (grown_drew _ _))) ?_;rintro e7 w7 ⟨v7,rfl,aN,u,rfl,hu0,hu1,hs7⟩;have Q:Y.grownBy w7 (some sb):=grown_trans (grown_of_ext (some sb) (grown_drew _ _)) aN;have bm:=Q.cell al (by simp;omega);have bn:=(aq.out w7 Q).1))
  clear aB aC;have bp:=(aq.out w7 Q).2 u;have hT:=grown_set1 w7 b J (.int .i64 u);have bT:=Q.size;have aO:=(A.moved Q (by omega)).moved hT (by omega);have aw:=(G.moved Q (by omega)).moved hT (by omega);have aP:=grown_own (grown_trans N Q) hT (λj hj az=>by have:=Option.some.inj hj;omega);have aQ:=hs7.own hT (λk hk=>by have:=Option.some.inj hk;omega);clear bm bn e0 e1 e2 e3 e4 hT A G N hu0 hu1 hs7 aN;have a0:=Lib.hid (And.intro bp (And.intro aQ aP));clear bp aQ aP;generalize w7.setCell ⟨b,J,none⟩ (.int .i64 u)=w8 at *;obtain⟨q0,q1,q2,q3,q4⟩:=id aO;obtain⟨b0,b1,b2,b3,b4⟩:=id aw;have hZ:=aw.all (.slice (some ⟨bo,oo,none⟩) n i) (.slice B n l) (.slice (some ⟨g,0,none⟩) n q);obtain⟨-,z0,z1,z2,-⟩:=id hZ;clear hZ aw aO;go_wp2_with fail
  refine bodyPost_ret (v := .agg #[.slice (some ⟨bo,oo,none⟩) n i,.slice B n l,.slice (some ⟨g,0,none⟩) n q]) (by simp[results,Tryz.results111,go_sem,z0,z1,z2]) rfl ?_;exact a_ret a0.out.2.2 (by omega) (λk hk _=>⟨by rcases hk with hk|hk<;>omega,by rcases hk with hk|hk<;>omega⟩) a0.out.2.1 aR (by show P.orders.length<=7;rw[<-bk.out];omega) a0.out.1.p3 (OrdLe.same rfl)
theorem step_app_intH {j:Array Oper}{o:Oper}{a:Act}{K:Act->World->Prop}{Q:Exit->Act->World->Prop}{p:Prop}{w:World}(k:o.guard=none) (s x:Operand)
  (q:o.op=Op.call { callee:=Callee.builtin Builtin.append,args := #[s,x],argTypes := #[24,24] }) (B:Nat) (v:Value) (l:List Int) (y:Int) (r:a.eval s=v) (e:Own B w v l)
  (H:Nat) (hx:a.eval x=.slice (some ⟨H,0,none⟩) 1 1) (u:w.cell? ⟨H,0,none⟩=some (.int .i64 y)) (m:l.length<=1000000) (b:B<=w.heap.size)
  (h:∀i w',Own B w' i (l++[y])->w.grownBy w' v.ownBlock->K (a.put o.dst i) w') :
  if Region.wanted o (yielded j a.tmps)=true then Oper.wp Tryz.prog o a w K Q else p:=by
 refine step_app 24 2 (.int .i64 0) 8 und_ints Tryz.infoInt rfl (by decide) k s x q B v (l.map (Value.int .i64)) r e.v H (.int .i64 y) hx u rfl (by simpa using (by omega:l.length<=2000000)) b ?_;intro i w' h1 z _;exact h i w' (Own.of (by rw[List.map_append];exact h1)) z
theorem PresX.conjOwn {F:Nat->Prop}{w:World}{vo vp vc:Value}{P:Pr}(h:PresX F w vo vp vc P) (i:Nat) (a:i<P.conj.length) :
  ∃g cap z,vc=.slice (some ⟨g,0,none⟩) P.conj.length cap/\F g/\w.cell? ⟨g,i,none⟩=some z/\g<w.heap.size/\w.frozen? ⟨g,i,none⟩=false:=by
 obtain⟨Fo,Fp,Fc,h1,h2,b,h4,h5,h6⟩:=h;rcases SlI.form b with⟨_,e⟩|⟨g,cap,rfl,hFg,hgl⟩
 ·rw[e] at a;simp at a
 obtain⟨⟨z,hz⟩,hf⟩:=SlI.place b i a;exact⟨g,cap,z,rfl,h6 g hFg,hz,hgl,hf⟩
theorem step_app_rowH {k:Array Oper}{o:Oper}{a:Act}{K:Act->World->Prop}{Q:Exit->Act->World->Prop}{q:Prop}{w:World}(l:o.guard=none) (s x:Operand)
  (r:o.op=Op.call { callee:=Callee.builtin Builtin.append,args := #[s,x],argTypes := #[25,25] }) (B:Nat) (v:Value) (i:List Value) (y:a.eval s=v) (e:OwnV B 24 w v i)
  (H:Nat) (u:Value) (hx:a.eval x=.slice (some ⟨H,0,none⟩) 1 1) {a1:Option Addr}{z c1:Nat}(m:w.cell? ⟨H,0,none⟩=some u/\u=.slice a1 z c1) (p:i.length<=1000000) (b:B<=w.heap.size)
  (h:∀j w',OwnV B 24 w' j (i++[u])->w.grownBy w' v.ownBlock->(j.ownBlock=v.ownBlock\/j.ownBlock=some w.heap.size)->K (a.put o.dst j) w') :
  if Region.wanted o (yielded k a.tmps)=true then Oper.wp Tryz.prog o a w K Q else q:=
 step_app 25 24 (.slice none 0 0) 24 und_rows Tryz.infoRow rfl (by decide) l s x r B v i y e H u hx m.1 (by rw[m.2];rfl) (by omega) b h
theorem rows_app {B:Nat}{C wc r:World}{w v6 u:Value}{b:List Value}{L:List (List Int)}{y:List Int}{U:Nat->Prop}(j:OwnV B 24 r v6 (b++[u])) (D:b.length=L.length) (F:L.length<=1000000)
  (G:∀i,i<L.length->Ints (λk=>B<=k/\w.ownBlock≠some k) C (gt b i) (gt L i)) (z:Ext C wc) (p:wc.grownBy r w.ownBlock) (H:Ints U wc u y) (E:∀k,U k->B<=k/\w.ownBlock≠some k) :
  Rows2 (λk=>B<=k) r v6 (L++[y]):=by
 have l:=j.lt;rcases j.form with⟨_,h2⟩|⟨g,cap,rfl,hnc,_,_⟩
 ·simp at h2
 refine⟨some ⟨g,0,none⟩,cap,by simp[D],⟨by simp at hnc;simp;omega,by simp;omega,λh=>by cases h⟩,λi q => ?_⟩
 ·have q:i<(b++[u]).length:=by simp at q ⊢;omega
  refine⟨g,0,gt (b++[u]) i,rfl,(l g rfl).1,(l g rfl).2,by rw[Nat.zero_add];exact j.cell i q,?_⟩;by_cases m:i<b.length
  ·rw [gt_append_left _ _ _ m,gt_append_left _ _ _ (by omega)]
   exact Ints.mono (G i (by omega)) (λk hk a=>⟨hk.1,Nat.lt_of_lt_of_le a (Nat.le_trans z.size p.size),(p.block k (Nat.lt_of_lt_of_le a z.size) (λe=>hk.2 e.symm)).trans (z.block k a (by simp))⟩)
  ·have A:i=b.length:=by simp at q;omega
   subst A;rw[gt_concat,D,gt_concat];exact Ints.mono H (λk hk a=>⟨(E k hk).1,Nat.lt_of_lt_of_le a p.size,p.block k a (λe=>(E k hk).2 e.symm)⟩)
theorem PresX.putRow {F:Nat->Prop}{w b:World}{vo vp:Value}{P:Pr}{g n cap:Nat}{u:Value}{L:List (List Int)}(h:PresX F w vo vp (.slice (some ⟨g,0,none⟩) n cap) P) (i:Nat) (J:i<n) (K:P.conj.length=n) (j:Ext w b) (B:Rows2 (λk=>w.heap.size<=k) b u L) :
  ∃Q:Pr,Q.orders=P.orders/\Pres3 (λk=>F k\/w.heap.size<=k) (b.setCell ⟨g,i,none⟩ u) vo vp (.slice (some ⟨g,0,none⟩) n cap) Q:=by
 obtain⟨Fo,Fp,Fc,h1,C,m,y,z,D⟩:=h
 have l:Fc g:=by
  rcases SlI.form m with⟨e,_⟩|⟨E,c',e,hF,_⟩
  ·cases e
  ·cases e;exact hF
 have G:g<w.heap.size:=by
  rcases SlI.form m with⟨e,_⟩|⟨E,c',e,_,hl⟩
  ·cases e
  ·cases e;exact hl
 have A:=grown_set1 b g i u;have hblk:∀k,k<w.heap.size->k≠g->k<(b.setCell ⟨g,i,none⟩ u).heap.size/\(b.setCell ⟨g,i,none⟩ u).heap[k]? = w.heap[k]? :=λk hk p=>⟨Nat.lt_of_lt_of_le hk (Nat.le_trans j.size A.size),(A.block k (Nat.lt_of_lt_of_le hk j.size) (λe=>p (Option.some.inj e))).trans (j.block k hk (by simp))⟩
 have q:SlI (λF w u (x:List (List Int))=>Rows2 F w u x) 25 (λk=>Fc k/\k<w.heap.size) b (.slice (some ⟨g,0,none⟩) n cap) P.conj:=
  SlI.map (λ_ _ _ _ h=>RowsI.rows h) (rdRows3I.mono m (λk hk a=>⟨⟨hk,a⟩,Nat.lt_of_lt_of_le a j.size,j.block k a (by simp)⟩))
 have r:RdOk (λF w u (x:List (List Int))=>Rows2 F w u x):=⟨λh H=>Rows2.mono h H,λh=>by obtain⟨_,_,rfl,_⟩:=Sl.shape h;rfl⟩;have I:=SlI.putR r q B (λk hk h=>by omega) i;refine⟨⟨P.orders,P.powers,P.conj.set i L⟩,rfl,⟨?_,?_,?_⟩⟩
 ·exact Ints.mono h1.ints (λk hk a=>by
   have h:=hblk k a (λe=>(y k hk).2.2 (e▸l));exact⟨.inl (y k hk).1,h.1,h.2⟩)
 ·exact Rows2.mono (RowsI.rows C) (λk hk a=>by
   have h:=hblk k a (λe=>(z k hk).2 (e▸l));exact⟨.inl (z k hk).1,h.1,h.2⟩)
 ·exact Rows3.sub (S:=λk=>(Fc k/\k<w.heap.size)\/w.heap.size<=k) I (λk hk _=>hk.elim (λh => .inl (D k h.1)) .inr)
def BendCut (l:Pr) (m sb p:Nat) (w a:World):Prop:=∃(a1:Option Addr) (b c1:Nat) (a2:Option Addr) (e c2:Nat) (i:Option Addr) (j c3:Nat) (Q:Pr),Box3 a p (.slice a1 b c1) (.slice a2 e c2) (.slice i j c3)/\Box3 a (w.heap.size+1) (.slice none 0 0) (.slice none 0 0) (.slice none 0 0) /\
 w.grownBy a (some sb)/\Src m a sb/\Q.orders.length<=7/\OrdLe l Q/\Pres3 (λk=>w.heap.size+2<=k) a (.slice a1 b c1) (.slice a2 e c2) (.slice i j c3) Q
set_option linter.unusedSimpArgs false in
set_option maxHeartbeats 16000000 in
theorem l07BendL_ok (B0:Nat) (w:World) (sb:Nat) (pv:Value) (P:Pr) (F:Nat->Prop) (dh:B0<=w.heap.size) (hs:Src B0 w sb) (hp:PresV F w pv P) (hV:Valid P) :
  Calls Tryz.prog 164 #[.pointer (some ⟨sb,0,none⟩),pv] w (Mut w (some sb) (DrawR B0 sb (PresAL 7 (OrdLe P) w.heap.size))):=by
 have dS:=hs.lt;have hS:=hV.shp;obtain⟨vo,vp,vc,rfl,h3⟩:=hp;obtain⟨ao,co,hvo,_,_⟩:=h3.o.shape;obtain⟨ap,cp,am,_,_⟩:=Sl.shape h3.p;obtain⟨ac,cc,cq,_,_⟩:=Sl.shape h3.c;rw[hS.p] at am;rw[hS.c] at cq;subst hvo am cq;obtain⟨n,hn⟩:∃n,n=P.orders.length:=⟨_,rfl⟩;rw[<-hn] at h3;rw[<-hn];have dT:n<=6:=by rw[hn];exact hS.n
 have cs:Ext w (w.alloc (.cells #[.slice ao n co,.slice ap n cp,.slice ac n cc] 28)):=World.grownBy_alloc _ _ _;have bS:(w.alloc (.cells #[.slice ao n co,.slice ap n cp,.slice ac n cc] 28)).heap.size=w.heap.size+1:=by simp
 have dk:=Box3.made w 28 (.slice ao n co) (.slice ap n cp) (.slice ac n cc);have HH:=Lib.hid (And.intro hS (And.intro hV (And.intro hn hs)));clear hS hV hn hs;go_enter Tryz.func164,Tryz.ntmps164;go_wp2_with fail
 generalize w.alloc (.cells #[.slice ao n co,.slice ap n cp,.slice ac n cc] 28)=wA at *;have aK:Ext wA (wA.alloc (.cells #[.slice none 0 0,.slice none 0 0,.slice none 0 0] 28)):=World.grownBy_alloc _ _ _;have bn:=Box3.made wA 28 (.slice none 0 0) (.slice none 0 0) (.slice none 0 0);have bT:=grown_trans cs aK;have dl:(wA.alloc (.cells #[.slice none 0 0,.slice none 0 0,.slice none 0 0] 28)).heap.size=w.heap.size+2:=by simp[bS]
 rw[bS] at bn;generalize wA.alloc (.cells #[.slice none 0 0,.slice none 0 0,.slice none 0 0] 28)=w0 at *;have dD:w.heap.size+2<=w0.heap.size:=by omega
 clear aK cs dk bS dl;refine Calls.mono (l07Own_ok w0 _ P F 6 ⟨_,_,_,rfl,h3.mono (frame_of bT (λk hk _=>⟨hk,by simp⟩))⟩ HH.out.1 (by omega)) ?_;rintro e1 w1 ⟨v1,rfl,hg1,qo,qp,qc,rfl,hX1⟩;obtain⟨ag,Y,ax,ah,ay,an,e1,e2,e3⟩:=hX1.shape;rw[HH.out.1.p] at e2;rw[HH.out.1.c] at e3;rw[<-HH.out.2.2.1] at e1 e2 e3;subst e1 e2 e3;obtain⟨V,bU⟩:∃V,V=w1.heap.size:=⟨_,rfl⟩;have aC:Ext w1 (w1.alloc (.cells #[.slice ag n Y,.slice ax n ah,.slice ay n an] 28)):=World.grownBy_alloc _ _ _;have bV:=Box3.made w1 28 (.slice ag n Y) (.slice ax n ah) (.slice ay n an);rw[<-bU] at bV;have dn:=hg1.size;have cu:PresX (λk=>w0.heap.size<=k/\k≠V) (w1.alloc (.cells #[.slice ag n Y,.slice ax n ah,.slice ay n an] 28)) (.slice ag n Y) (.slice ax n ah) (.slice ay n an) P:=hX1.mono (λk hk D=>⟨⟨hk,by omega⟩,Nat.lt_of_lt_of_le D aC.size,aC.block k D (by simp)⟩);have bd:=grown_trans hg1 aC;have cw:=Lib.hid bU;go_wp2_with fail
 rw[<-cw.out];generalize w1.alloc (.cells #[.slice ag n Y,.slice ax n ah,.slice ay n an] 28)=w2 at *;have dV:w0.heap.size<=V:=by omega
 clear hX1 hg1 aC bU cw dn;have cx:=bn.ext bd;have be:=grown_trans bT bd;have cy:=HH.out.2.2.2.ext be;clear bn bd bT h3;refine Calls.mono (l01Next_ok B0 w2 sb 6 cy) ?_;rintro e3 l ⟨v3,rfl,bf,x,rfl,_,hx1,cz⟩;have cA:=cu.moved bf (λh=>by omega);have M:=bV.moved bf (by omega);have N:=cx.moved bf (by omega);have T:=grown_trans (grown_of_ext (some sb) be) bf;have hx:=hx1 (by omega);have bo:=HH.out.2.2.1;have cB:P.powers.length=n:=by rw[bo];exact HH.out.2.1.pl
 have cC:P.conj.length=n:=by rw[bo];exact HH.out.2.1.cl
 have dW:V<l.heap.size:=M.1;have E:=Lib.hid (And.intro cA (And.intro cz (And.intro bo (And.intro cB cC))));clear cu bV cx be cy bf cA cz hx1 bo cB cC;obtain⟨q0,q1,q2,q3,q4⟩:=id M;go_upto_block 0 with fail
 go_cut [] (λwx=>BendCut P B0 sb V w wx)
 case' rest=>
  obtain⟨a1,n1,c1,a2,n2,c2,a3,n3,c3,Q,hbQx,hbRx,cE,cF,cG,cH,cI⟩:=hcut;clear q0 q1 q2 q3 q4 M N E T;obtain⟨q0,q1,q2,q3,q4⟩:=id hbQx;obtain⟨b0,b1,b2,b3,b4⟩:=id hbRx;have hZ:=hbRx.all (.slice a1 n1 c1) (.slice a2 n2 c2) (.slice a3 n3 c3);obtain⟨-,z0,z1,z2,-⟩:=id hZ;have HF:=Lib.hid (And.intro cE (And.intro cF (And.intro cI (And.intro cG cH))));clear hZ cE cF cI cG cH;go_wp2_with fail
  refine bodyPost_ret (v := .agg #[.slice a1 n1 c1,.slice a2 n2 c2,.slice a3 n3 c3]) (by simp[results,Tryz.results164,go_sem,z0,z1,z2]) rfl ?_;exact a_ret HF.out.1 (br:=w.heap.size+1) (by omega) (λk hk _=>⟨by omega,by omega⟩) HF.out.2.1 dh HF.out.2.2.2.1 HF.out.2.2.1 HF.out.2.2.2.2
 rcases(show x=0\/x=1\/x=2\/x=3\/x=4\/x=5 by omega) with rfl|rfl|rfl|rfl|rfl|rfl
 all_goals clear hx
 ·obtain ⟨Fo,Fp,Fc,h1,h2,h3,h4,h5,h6⟩:=E.out.1
  have hO:=h1.1;have cK:∀k,(Value.slice ag n Y).ownBlock=some k->(w0.heap.size<=k/\k≠V)/\¬Fp k/\¬Fc k:=λk hk=>h4 k (h1.2.1 k hk);have dJ:l.heap.size<=l.heap.size:=Nat.le_refl _;have HO:=Lib.hid (And.intro cK (And.intro h2 (And.intro h3 (And.intro h5 h6))));clear cK h1 h2 h3 h4 h5 h6;have bp:P.orders.length<=1000000:=by have:=E.out.2.2.1;omega
  have bW:(P.orders++[2]).length=P.orders.length+1:=by simp
  go_wp2_with (first|(at_builtin;refine wp_app_intb rfl _ _ rfl 0 (.slice ag n Y) P.orders 2 rfl l hO rfl rfl bp (Nat.zero_le _) ?_;intro v5 C K H aU;have bX:Box3 C V (.slice ag n Y) (.slice ax n ah) (.slice ay n an):=M.keep H.size (H.block _ M.1 (λe=>(HO.out.1 V e.symm).1.2 rfl));have aM:=N.keep H.size (H.block _ N.1 (λe=>by have:=(HO.out.1 _ e.symm).1.1;omega));obtain⟨r0,r1,r2,r3,r4⟩:=id bX;obtain⟨a5,n5,aN,_⟩:=(K.ints (by omega)).shape;rw[bW] at aN;subst aN;have aE:=(bX.put (.slice a5 (P.orders.length+1) n5)).1;have az:=grown_set1 C V 0 (.slice a5 (P.orders.length+1) n5);have aa:=aM.moved az (by omega);have cL:=Lib.hid (And.intro aE aa);have HF:=Lib.hid (And.intro K (And.intro H (And.intro aU az)));clear K H aU az aa aE bX aM)|fail)
  obtain⟨K,H,aU,az⟩:=HF.out;have I:w.grownBy (C.setCell ⟨V,0,none⟩ (.slice a5 (P.orders.length+1) n5)) (some sb):=grown_own (grown_own T H (λj hj D=>by have:=(HO.out.1 j hj).1.1;omega)) az (λj hj D=>by have:=Option.some.inj hj;omega);have aO:=(E.out.2.1.own H (λj hj=>by have:=(HO.out.1 j hj).1.1;omega)).own az (λk hk=>by have:=Option.some.inj hk;omega)
  have bY:Pres3 (λk=>(w0.heap.size<=k/\k≠V)) (C.setCell ⟨V,0,none⟩ (.slice a5 (P.orders.length+1) n5)) (.slice a5 (P.orders.length+1) n5) (.slice ax n ah) (.slice ay n an) ⟨P.orders++[2],P.powers,P.conj⟩:=by
   have hblk:∀k,k<l.heap.size->(Value.slice ag n Y).ownBlock≠some k->k≠V->k<(C.setCell ⟨V,0,none⟩ (.slice a5 (P.orders.length+1) n5)).heap.size/\(C.setCell ⟨V,0,none⟩ (.slice a5 (P.orders.length+1) n5)).heap[k]? = l.heap[k]? :=λk hk h1 h2=>
    ⟨Nat.lt_of_lt_of_le hk (Nat.le_trans H.size az.size),(az.block k (Nat.lt_of_lt_of_le hk H.size) (λe=>h2 (Option.some.inj e))).trans (H.block k hk (λe=>h1 e.symm))⟩
   refine⟨?_,?_,?_⟩
   ·have hI:Ints (λk=>w0.heap.size<=k/\k≠V) C (.slice a5 (P.orders.length+1) n5) (P.orders++[2]):=ints_of_own K (by omega) (λk hk=>by
     rcases aU with e|e
     ·rw[e] at hk;exact(HO.out.1 k hk).1
     ·have:=e k hk;exact⟨by omega,by omega⟩)
    exact Ints.mono hI (λk hk D=>⟨hk,Nat.lt_of_lt_of_le D az.size,az.block k D (λe=>hk.2 (Option.some.inj e))⟩)
   ·exact Rows2.mono (RowsI.rows HO.out.2.1) (λk hk D=>by
     have h5:=HO.out.2.2.2.1 k hk;have h:=hblk k D (λe=>(HO.out.1 k e).2.1 hk) h5.1.2;exact⟨h5.1,h.1,h.2⟩)
   ·exact Rows3.mono (Rows3I.rows HO.out.2.2.1) (λk hk D=>by
     have h5:=HO.out.2.2.2.2 k hk;have h:=hblk k D (λe=>(HO.out.1 k e).2.2 hk) h5.2;exact⟨h5,h.1,h.2⟩)
  try go_meet
  exact⟨_,_,_,_,_,_,_,_,_,_,cL.out.1,cL.out.2,I,aO,(by simp;have:=E.out.2.2.1;omega),(by exact λh=>absurd h.pl (by show ¬P.powers.length=(P.orders++[2]).length;rw[E.out.2.2.2.1,List.length_append,<-E.out.2.2.1,List.length_singleton];omega)),bY.mono (λk hk D=>⟨by omega,D,rfl⟩)⟩
 ·by_cases Z:n=0
  ·have bZ:decide (0<n)=false:=by simp[Z]
   clear Z;go_wp2_with fail
   try go_wp2_with fail
   go_meet;exact⟨_,_,_,_,_,_,_,_,_,_,M,N,T,E.out.2.1,(by rw[<-E.out.2.2.1];omega),(by exact OrdLe.same rfl),Pres3.mono E.out.1.p3 (λk hk D=>⟨by omega,D,rfl⟩)⟩
  ·have O:0<n:=by omega
   clear Z;obtain⟨Fo,Fp,Fc,h1,h2,h3,h4,h5,h6⟩:=E.out.1;have hO:=h1.1;obtain⟨g,capg,hvo,_,aX⟩:=hO.form (by rw[<-E.out.2.2.1];exact O);obtain⟨rfl,rfl⟩:ag=some ⟨g,0,none⟩/\Y=capg:=by cases hvo;exact⟨rfl,rfl⟩
   clear hvo;have cM:=h1.2.1 g rfl;have bs:=h4 g cM;have aK:w0.heap.size<=g:=bs.1.1;have aC:g≠V:=bs.1.2;have b5:=hO.cell 0 (by rw[<-E.out.2.2.1];exact O);have cN:=hO.frozen 0;generalize gt P.orders 0=oz at b5;have HO:=Lib.hid (And.intro hO (And.intro h2 (And.intro h3 (And.intro h5 (And.intro h6 bs)))));clear h1 h2 h3 h4 h5 h6 hO bs cM;have e0:∀w',NearS l sb g w'->w'.cell? ⟨V,0,none⟩=some (.slice (some ⟨g,0,none⟩) n Y):=λw' h=>h.cell M.2.1 (by simp;omega) (by simp;omega);have hL:=ints_litL l.drew [4,1,11,0,-2] (by simp);have cO:∀y∈([4,1,11,0,-2]:List Int),-2<=y:=by simp
   have HL:=Lib.hid (And.intro hL cO);clear hL cO;have b6:(0:Int)<n:=by omega
   go_wp2_with fail
   go_region_held3 (λw'=>NearS l sb g w') (first|exact NearS.ext (grown_drew _ _)|exact NearS.ext (grown_trans (grown_drew _ _) (World.grownBy_alloc _ _ _))|exact NearS.of (by assumption)|exact NearS.two H (grown_set1 _ _ _ _)|assumption)
    (first
     | (go_at_call 113;refine Calls.mono (l01Pick_ok B0 _ sb _ [4,1,11,0,-2] _ (E.out.2.1.ext (grown_trans (grown_drew _ _) (World.grownBy_alloc _ _ _))) HL.out.1 (λk hk=>by have hk:k=l.heap.size:=hk;omega) (by simp) (by simp)) ?_;rintro e5 C ⟨v5,rfl,bG,i,hi,rfl,bh⟩;have H:l.grownBy C (some sb):=grown_trans (grown_of_ext (some sb) (grown_trans (grown_drew _ _) (World.grownBy_alloc _ _ _))) bG;have aF:=H.cell b5 (by simp;omega);have dq:=(World.frozen?_of_block (a:=⟨g,0,none⟩) (H.block g aX (λe=>by have:=Option.some.inj e;omega))).trans cN))
   have cP:=H.size;have hT:=grown_set1 C g 0 (.int .i64 (gt [4,1,11,0,-2] i));have aE:=(M.moved H (by omega)).moved hT (by omega);have aa:=(N.moved H (by omega)).moved hT (by omega);have aq:=grown_own (grown_trans T H) hT (λj hj D=>by have:=Option.some.inj hj;omega);have aO:=bh.own hT (λk hk=>by have:=Option.some.inj hk;omega);have K:Own 0 C (.slice (some ⟨g,0,none⟩) n Y) P.orders:=HO.out.1.kept H (.inr (λe=>by have:=own_blk e;omega));have ak:=(K.store 0 (gt [4,1,11,0,-2] i)).1
   have bY:Pres3 (λk=>(w0.heap.size<=k/\k≠V)) (C.setCell ⟨g,0,none⟩ (.int .i64 (gt [4,1,11,0,-2] i))) (.slice (some ⟨g,0,none⟩) n Y) (.slice ax n ah) (.slice ay n an) ⟨P.orders.set 0 (gt [4,1,11,0,-2] i),P.powers,P.conj⟩:=by
    have hblk:∀k,k<l.heap.size->g≠k->(w0.heap.size<=k/\k≠V)->k<(C.setCell ⟨g,0,none⟩ (.int .i64 (gt [4,1,11,0,-2] i))).heap.size/\(C.setCell ⟨g,0,none⟩ (.int .i64 (gt [4,1,11,0,-2] i))).heap[k]? = l.heap[k]? :=λk hk h1 h2=>
     ⟨Nat.lt_of_lt_of_le hk (Nat.le_trans H.size hT.size),(hT.block k (Nat.lt_of_lt_of_le hk H.size) (λe=>h1 (Option.some.inj e).symm)).trans (H.block k hk (λe=>by have:=Option.some.inj e;omega))⟩
    refine⟨?_,?_,?_⟩
    ·exact ints_of_own ak (by rw[List.length_set,<-E.out.2.2.1];omega) (λk hk=>by have:=own_blk hk;subst this;exact⟨aK,aC⟩)
    ·exact Rows2.mono (RowsI.rows HO.out.2.1) (λk hk D=>by
      have h5:=HO.out.2.2.2.1 k hk;have h:=hblk k D (λe=>HO.out.2.2.2.2.2.2.1 (e▸hk)) h5.1;exact⟨h5.1,h.1,h.2⟩)
    ·exact Rows3.mono (Rows3I.rows HO.out.2.2.1) (λk hk D=>by
      have h5:=HO.out.2.2.2.2.1 k hk;have h:=hblk k D (λe=>HO.out.2.2.2.2.2.2.2 (e▸hk)) h5;exact⟨h5,h.1,h.2⟩)
   clear aF dq e0 hT ak bh bG H M N T q0 q1 q2 q3 q4 b5 cN;have bH:(P.orders.set 0 (gt [4,1,11,0,-2] i)).length<=7:=by rw[List.length_set,<-E.out.2.2.1];omega
   have cQ:OrdLe P ⟨P.orders.set 0 (gt [4,1,11,0,-2] i),P.powers,P.conj⟩:=λh=>by
    have h1:gt (P.orders.set 0 (gt [4,1,11,0,-2] i)) 0=2\/gt (P.orders.set 0 (gt [4,1,11,0,-2] i)) 0=3\/gt (P.orders.set 0 (gt [4,1,11,0,-2] i)) 0=5\/gt (P.orders.set 0 (gt [4,1,11,0,-2] i)) 0=7:=h.ord 0 (by show 0<(P.orders.set 0 _).length;rw[List.length_set,<-E.out.2.2.1];exact O);exfalso
    rw[gt_set_eq _ _ _ (by rw[<-E.out.2.2.1];exact O)] at h1;have ea:i<5:=hi;obtain rfl|rfl|rfl|rfl|rfl:i=0\/i=1\/i=2\/i=3\/i=4:=by omega
    all_goals simp[gt] at h1
   have bI:=Lib.hid (And.intro bH cQ);clear bH cQ;generalize C.setCell ⟨g,0,none⟩ (.int .i64 (gt [4,1,11,0,-2] i))=w6 at *;try go_wp2_with fail
   go_meet;exact⟨_,_,_,_,_,_,_,_,_,_,aE,aa,aq,aO,bI.out.1,bI.out.2,Pres3.mono bY (λk hk D=>⟨by omega,D,rfl⟩)⟩
 ·by_cases Z:n=0
  ·have bZ:decide (0<n)=false:=by simp[Z]
   clear Z;go_wp2_with fail
   try go_wp2_with fail
   go_meet;exact⟨_,_,_,_,_,_,_,_,_,_,M,N,T,E.out.2.1,(by rw[<-E.out.2.2.1];omega),(by exact OrdLe.same rfl),Pres3.mono E.out.1.p3 (λk hk D=>⟨by omega,D,rfl⟩)⟩
  ·have O:0<n:=by omega
   clear Z;have b6:(0:Int)<n:=by omega
   have bi:=E.out.1.p3.p;obtain⟨bq,oq,ae,ce,hap,hbF,_,al,aR⟩:=Rows2.at bi 0 (by rw[E.out.2.2.2.1];exact O);obtain⟨g,capg,z,am,⟨aK,aC⟩,aX,b9,b',_⟩:=E.out.1.putP 0 (by rw[E.out.2.2.2.1];exact O) (U:=λ_=>False) (y:=[]) (u := .slice none 0 0) ⟨none,0,rfl,⟨by simp,by simp,λ_=>rfl⟩,λi hi=>by simp at hi⟩ (λ_ h=>h.elim);obtain⟨rfl,rfl⟩:ax=some ⟨g,0,none⟩/\ah=capg:=by cases am;exact⟨rfl,rfl⟩
   have bt:g=bq:=by cases hap;rfl
   have ca:oq=0:=by cases hap;rfl
   clear hap;subst bt ca;rw[Nat.zero_add] at al;have ds:(gt P.powers 0).length<=6:=HH.out.1.pv _ (gtMem (by rw[E.out.2.2.2.1];exact O));obtain⟨e,he⟩:∃e,e=gt P.powers 0:=⟨_,rfl⟩;rw[<-he] at al aR ds;clear am he b9 bi;have dt:=M.ext (grown_drew _ none);obtain⟨d0,d1,d2,d3,d4⟩:=id dt;have f1:l.drew.cell? ⟨g,0,none⟩=some (.slice ae e.length ce):=al;have bW:(e++[(0:Int)]).length=e.length+1:=by simp
   go_wp2_with fail
   have e1:∀w',Near l g w'->w'.cell? ⟨V,1,none⟩=some (.slice (some ⟨g,0,none⟩) n ah):=λw' h=>h.cell M.2.2.1 (by simp;omega);refine wp_region_held_drew (S:=λw'=>Near l g w') (by kernel_rfl) (Near.of (grown_drew _ _)) (λA => ?_);refine tk 0 ?_;refine tk 1 ?_;refine tk 2 ?_;refine tk 3 ?_;refine tk 4 ?_;have X:Ext l (l.alloc (.cells #[.int .i64 0] 2)).drew:=grown_trans (World.grownBy_alloc _ _ _) (grown_drew _ _);refine rd2 5 7 (λJ q => ?_) (λJ q => ?_)
   focus
    go_simp;refine ko q (by assumption) (λA => ?_);clear q J;refine rd2 6 7 (λJ q => ?_) (λJ q => ?_)
    focus
     go_simp;go_at_call 120;refine Calls.mono (l01Own_ok l.drew _ e _ (aR.ext (grown_drew _ _)) (by omega)) ?_;rintro e5 C ⟨v5,rfl,H,hO5d⟩;have B:Ext l C:=grown_trans (grown_drew _ _) H;have K:Own l.heap.size C v5 e:=hO5d;obtain⟨a5,c5,aN,_⟩:=(K.ints (by omega)).shape;subst aN;go_wp2_with fail
     refine ko q (Near.of B) (λA => ?_);clear q J;refine rd1 7 (λJ q => ?_);go_simp;refine ko q (Near.of (grown_trans B (World.grownBy_alloc _ _ _))) (λA => ?_);clear q J;refine rd1 8 (λJ q => ?_);refine step_app_int (by rfl) _ _ (by rfl) l.heap.size _ e 0 (by rfl) C K (by rfl) (by rfl) (by omega) B.size ?_
    rotate_left
    focus
     go_simp;refine ko q (Near.of X) (λA => ?_);clear q J;refine rd1 6 (λJ q => ?_);go_simp;go_at_call 120;refine Calls.mono (l01Own_ok (l.alloc (.cells #[.int .i64 0] 2)).drew _ e _ (aR.ext X) (by omega)) ?_;rintro e5 C ⟨v5,rfl,H,hO5d⟩;have B:Ext l C:=grown_trans X H;have du:(l.alloc (.cells #[.int .i64 0] 2)).drew.heap.size=l.heap.size+1:=(by simp:(l.alloc (.cells #[.int .i64 0] 2)).heap.size=l.heap.size+1);have K:Own l.heap.size C v5 e:=hO5d.weak (by omega);have cb:(l.alloc (.cells #[.int .i64 0] 2)).drew.cell? ⟨l.heap.size,0,none⟩=some (.int .i64 0):=(by rw[World.cell?_alloc_at _ _ _ _ rfl];rfl:(l.alloc (.cells #[.int .i64 0] 2)).cell? ⟨l.heap.size,0,none⟩=some (.int .i64 0));have cd:=H.cell cb (by simp);obtain⟨a5,c5,aN,_⟩:=(K.ints (by omega)).shape;subst aN;go_wp2_with fail
     refine ko q (Near.of B) (λA => ?_);clear q J;refine rd1 8 (λJ q => ?_);refine step_app_intH (by rfl) _ _ (by rfl) l.heap.size _ e 0 (by rfl) K l.heap.size (by rfl) cd (by omega) B.size ?_
   rotate_left 2
   focus
    go_simp;refine ko q (Near.of X) (λA => ?_);clear q J;refine rd1 5 (λJ q => ?_);have f2:(l.alloc (.cells #[.int .i64 0] 2)).drew.cell? ⟨g,0,none⟩=some (.slice ae e.length ce):=(X:Ext l (l.alloc (.cells #[.int .i64 0] 2)).drew).cell al (by simp);go_simp;refine ko q (by assumption) (λA => ?_);clear q J;refine rd1 6 (λJ q => ?_);go_simp;go_at_call 120;refine Calls.mono (l01Own_ok (l.alloc (.cells #[.int .i64 0] 2)).drew _ e _ (aR.ext X) (by omega)) ?_;rintro e5 C ⟨v5,rfl,H,hO5d⟩;have B:Ext l C:=grown_trans X H;have du:(l.alloc (.cells #[.int .i64 0] 2)).drew.heap.size=l.heap.size+1:=(by simp:(l.alloc (.cells #[.int .i64 0] 2)).heap.size=l.heap.size+1);have K:Own l.heap.size C v5 e:=hO5d.weak (by omega);have cb:(l.alloc (.cells #[.int .i64 0] 2)).drew.cell? ⟨l.heap.size,0,none⟩=some (.int .i64 0):=(by rw[World.cell?_alloc_at _ _ _ _ rfl];rfl:(l.alloc (.cells #[.int .i64 0] 2)).cell? ⟨l.heap.size,0,none⟩=some (.int .i64 0));have cd:=H.cell cb (by simp);obtain⟨a5,c5,aN,_⟩:=(K.ints (by omega)).shape;subst aN;go_wp2_with fail
    refine ko q (Near.of B) (λA => ?_);clear q J;refine rd1 8 (λJ q => ?_);refine step_app_intH (by rfl) _ _ (by rfl) l.heap.size _ e 0 (by rfl) K l.heap.size (by rfl) cd (by omega) B.size ?_
   all_goals
    intro v6 w6 ak aq;have I:Ext l w6:=grown_own B aq (λj hj D=>by have:=(K.lt j hj).1;omega);obtain⟨a6,c6,bu,_⟩:=(ak.ints (by simp;omega)).shape;rw[bW] at bu;subst bu;have r1:=I.cell al (by simp);have r2:=(World.frozen?_of_block (a:=⟨g,0,none⟩) (I.block g aX (by simp))).trans b';refine ko q (Near.of I) (λA => ?_);clear q J;refine tk 9 ?_;refine rd1 10 (λJ q => ?_);go_simp;refine ko q (Near.store I) (λA => ?_);clear q J;refine wpAnyH_done (by kernel_rfl) ?_ _;have hT:=grown_set1 w6 g 0 (.slice a6 (e.length+1) c6);have aG:=(M.ext I).moved hT (by omega);have ab:=(N.ext I).moved hT (by omega);have ad:=grown_own (grown_trans T (grown_of_ext (some sb) I)) hT (λj hj D=>by have:=Option.some.inj hj;omega);have aH:=(E.out.2.1.ext I).own hT (λk hk=>by have:=Option.some.inj hk;omega);have cR:PresX (λk=>w0.heap.size<=k/\k≠V/\k<l.heap.size) w6 (.slice ag n Y) (.slice (some ⟨g,0,none⟩) n ah) (.slice ay n an) P:=E.out.1.mono (λk hk D=>⟨⟨hk.1,hk.2,D⟩,Nat.lt_of_lt_of_le D I.size,I.block k D (by simp)⟩);have cS:Ints (λk=>l.heap.size<=k) w6 (.slice a6 (e.length+1) c6) (e++[0]):=ints_of_own ak (by omega) (λk hk=>(ak.lt k hk).1);obtain⟨g',_,_,he1,_,_,_,_,aI⟩:=cR.putP 0 (by rw[E.out.2.2.2.1];exact O) cS (λk hk h=>by omega);have cT:g'=g:=by simp only[Value.slice.injEq,Option.some.injEq,Addr.mk.injEq] at he1;exact he1.1.1.symm
    rw[cT] at aI;clear he1 cT;clear X hT cR cS ak K r1 r2;go_wp2_with fail
    go_meet;exact⟨_,_,_,_,_,_,_,_,_,_,aG,ab,ad,aH,(by show P.orders.length<=7;rw[<-E.out.2.2.1];omega),(by exact OrdLe.same rfl),aI.mono (λk hk D=>⟨by rcases hk with hk|hk<;>omega,D,rfl⟩)⟩
 ·by_cases Z:n=0
  ·have bZ:decide (0<n)=false:=by simp[Z]
   clear Z;go_wp2_with fail
   try go_wp2_with fail
   go_meet;exact⟨_,_,_,_,_,_,_,_,_,_,M,N,T,E.out.2.1,(by rw[<-E.out.2.2.1];omega),(by exact OrdLe.same rfl),Pres3.mono E.out.1.p3 (λk hk D=>⟨by omega,D,rfl⟩)⟩
  ·have O:0<n:=by omega
   clear Z;have b6:(0:Int)<n:=by omega
   have cf:(gt P.powers 0).length=n:=by rw[E.out.2.2.1];exact(HH.out.2.1.pv 0 (by rw[<-E.out.2.2.1];exact O)).1.1
   obtain⟨g,capg,b,capb,am,⟨aK,aC⟩,aX,b9,⟨bn,hbq⟩,bt,hbl,dv,hst⟩:=E.out.1.openPIm (r:=sb) 0 0 (by rw[E.out.2.2.2.1];exact O) (by rw[cf];exact O) (λh=>by omega);obtain⟨rfl,rfl⟩:ax=some ⟨g,0,none⟩/\ah=capg:=by cases am;exact⟨rfl,rfl⟩
   clear am;rw[cf] at b9;obtain⟨ec,aZ⟩:=hst l (grown_refl _ _);have aZ:=aZ 1;have hT:=grown_set1 l b 0 (.int .i64 1);have aE:=M.moved hT (by omega);have aa:=N.moved hT (by omega);have aq:=grown_own T hT (λj hj D=>by have:=Option.some.inj hj;omega);have aO:=E.out.2.1.own hT (λk hk=>by have:=Option.some.inj hk;omega);generalize gt (gt P.powers 0) 0=oz at dv;have dw:=Lib.hid (And.intro aZ (And.intro aE (And.intro aa (And.intro aq aO))));clear aZ aE aa aq aO hT hst cf;go_wp2_with fail
   go_meet;obtain⟨aZ,aE,aa,aq,aO⟩:=dw.out;exact⟨_,_,_,_,_,_,_,_,_,_,aE,aa,aq,aO,(by show P.orders.length<=7;rw[<-E.out.2.2.1];omega),(by exact OrdLe.same rfl),aZ.p3.mono (λk hk D=>⟨by rcases hk with hk|hk<;>omega,D,rfl⟩)⟩
 ·by_cases Z:n=0
  ·have bZ:decide (0<n)=false:=by simp[Z]
   clear Z;go_wp2_with fail
   try go_wp2_with fail
   go_meet;exact⟨_,_,_,_,_,_,_,_,_,_,M,N,T,E.out.2.1,(by rw[<-E.out.2.2.1];omega),(by exact OrdLe.same rfl),Pres3.mono E.out.1.p3 (λk hk D=>⟨by omega,D,rfl⟩)⟩
  ·have O:0<n:=by omega
   clear Z;have b6:(0:Int)<n:=by omega
   have bi:=E.out.1.p3.c;obtain⟨bq,oq,ae,ce,hap,hbF,_,al,aR⟩:=Rows3.at bi 0 (by rw[E.out.2.2.2.2];exact O);obtain⟨g,capg,z,am,aK,aC,aX,b'⟩:=E.out.1.conjOwn 0 (by rw[E.out.2.2.2.2];exact O);obtain⟨rfl,rfl⟩:ay=some ⟨g,0,none⟩/\an=capg:=by cases am;exact⟨rfl,rfl⟩
   have bt:g=bq:=by cases hap;rfl
   have ca:oq=0:=by cases hap;rfl
   clear hap;subst bt ca;rw[Nat.zero_add] at al;have e1:∀w',Near l g w'->w'.cell? ⟨V,2,none⟩=some (.slice (some ⟨g,0,none⟩) n an):=λw' h=>h.cell M.2.2.2.1 (by simp;omega);have e0:∀w',Near l g w'->w'.cell? ⟨V,0,none⟩=some (.slice ag n Y):=λw' h=>h.cell M.2.1 (by simp;omega);have dx:(gt P.conj 0).length<=6:=by rw[HH.out.1.cl 0 (by rw[<-E.out.2.2.1];exact O),<-E.out.2.2.1];omega
   have cg:∀x∈gt P.conj 0,x.length<=1000000:=λx hx=>by have:=HH.out.1.cv _ (gtMem (by rw[E.out.2.2.2.2];exact O)) x hx;omega
   obtain⟨R,hR⟩:∃R,R=gt P.conj 0:=⟨_,rfl⟩;rw[<-hR] at al aR dx cg;have HR:=Lib.hid (And.intro cg hR);clear am cg hR bi aK;have dz:=λw=>run_mk_ints n (by omega) w;go_wp2_with fail
   refine wp_region_held_drew (S:=λw'=>Near l g w') (by kernel_rfl) (Near.of (grown_drew _ _)) (λA => ?_);refine tk 0 ?_;refine tk 1 ?_;refine tk 2 ?_;refine tk 3 ?_;refine tk 4 ?_;refine tk 7 ?_;refine tk 8 ?_;refine tk 9 ?_;have bv:Ext l l.drew:=grown_drew _ _;have X:Ext l (l.alloc (.cells (madeCells #[.int .i64 0] n) 2)).drew:=grown_trans (World.grownBy_alloc _ _ _) (grown_drew _ _);have aJ:Ext l ((l.alloc (.cells (madeCells #[.int .i64 0] n) 2)).alloc (.cells #[.slice (some ⟨l.heap.size,0,none⟩) n n] 24)).drew:=grown_trans (World.grownBy_alloc _ _ _) (grown_trans (World.grownBy_alloc _ _ _) (grown_drew _ _))
   have ar:∀(w':World) (m:Nat),Ext l w'->w'.heap.size=l.heap.size+m->Calls Tryz.prog 183 #[.slice ae R.length ce] w' (λe5 C=>∃a5 c5 vs,e5=.returned (.slice a5 vs.length c5)/\Ext w' C/\Ext l C/\vs.length<=6/\OwnV l.heap.size 24 C (.slice a5 vs.length c5) vs/\(∀k,(Value.slice a5 vs.length c5).ownBlock=some k->l.heap.size+m<=k)/\Hid ((∀i,i<R.length->Ints (λk=>l.heap.size<=k/\(Value.slice a5 vs.length c5).ownBlock≠some k) C (gt vs i) (gt R i))/\vs.length=R.length)):=λw' m hx hm=>by
    refine Calls.mono (l01Own2_ok w' _ R _ (Rows2.ext aR hx) HR.out.1 (by omega)) ?_;rintro e5 C ⟨v5,rfl,H,vs,G,hvl,K,cU,_,dA⟩;have cV:=hx.size;have ak:OwnV l.heap.size 24 C v5 vs:=ownsRow_move K (λk hk=>⟨rfl,Nat.le_trans cV (K.lt k hk).1⟩)
    obtain ⟨a5,c5,rfl⟩:∃a c,v5=.slice a vs.length c:=by
     rcases K.form with⟨h1,h2⟩|⟨g5,cap5,h1,_⟩
     ·exact⟨_,_,by rw[h1,h2];rfl⟩
     ·exact⟨_,_,h1⟩
    exact⟨a5,c5,vs,rfl,H,grown_trans hx H,by omega,ak,λk hk=>by have:=(K.lt k hk).1;omega,Lib.hid ⟨λi hi=>Ints.sub (dA i hi).ints (λk hk _=>⟨Nat.le_trans cV (cU i k hi hk).1,(cU i k hi hk).2.1⟩),hvl⟩⟩
   have cW:l.drew.heap.size=l.heap.size+0:=rfl;have ch:(l.alloc (.cells (madeCells #[.int .i64 0] n) 2)).drew.heap.size=l.heap.size+1:=(by simp:(l.alloc (.cells (madeCells #[.int .i64 0] n) 2)).heap.size=l.heap.size+1);have bw:((l.alloc (.cells (madeCells #[.int .i64 0] n) 2)).alloc (.cells #[.slice (some ⟨l.heap.size,0,none⟩) n n] 24)).drew.heap.size=l.heap.size+2:=(by simp:((l.alloc (.cells (madeCells #[.int .i64 0] n) 2)).alloc (.cells #[.slice (some ⟨l.heap.size,0,none⟩) n n] 24)).heap.size=l.heap.size+2);have bp:∀(vs:List Value) (u:Value),(vs++[u]).length=vs.length+1:=λvs u=>by simp
   refine rd2 5 10 (λJ q => ?_) (λJ q => ?_)
   focus
    have f2:l.drew.cell? ⟨g,0,none⟩=some (.slice ae R.length ce):=(bv:Ext l l.drew).cell al (by simp);go_simp;refine ko q (Near.of bv) (λA => ?_);clear q J;refine rd2 6 10 (λJ q => ?_) (λJ q => ?_)
    focus
     go_simp;go_at_call 183;refine Calls.mono (ar _ 0 bv cW) ?_;rintro e5 C ⟨a5,c5,vs,rfl,H,B,hvl6,K,hbb,aS⟩;go_wp2_with fail
     refine ko q (Near.of B) (λA => ?_);clear q J;refine rd1 10 (λJ q => ?_);go_simp;refine ko q (Near.of (grown_trans B (World.grownBy_alloc C (.cells (madeCells #[.int .i64 0] n) 2) none))) (λA => ?_);clear q J;refine rd1 11 (λJ q => ?_);go_simp;refine ko q (Near.of (grown_trans (grown_trans B (World.grownBy_alloc C (.cells (madeCells #[.int .i64 0] n) 2) none)) (World.grownBy_alloc (C.alloc (.cells (madeCells #[.int .i64 0] n) 2)) (.cells #[.slice (some ⟨C.heap.size,0,none⟩) n n] 24) none))) (λA => ?_);clear q J;refine rd1 12 (λJ q => ?_);have au:Ints (λk=>l.heap.size<=k/\k=C.heap.size) (C.alloc (.cells (madeCells #[.int .i64 0] n) 2)) (.slice (some ⟨C.heap.size,0,none⟩) n n) (List.replicate n 0):=ints_of_own (own_mk_ints n (by omega) C) (by simp;omega) (λk hk=>by have:=own_blk hk;subst this;exact⟨by first|exact Nat.le_refl _|exact B.size,rfl⟩);have hM:Ints (λk=>l.heap.size<=k/\k=C.heap.size) ((C.alloc (.cells (madeCells #[.int .i64 0] n) 2)).alloc (.cells #[.slice (some ⟨C.heap.size,0,none⟩) n n] 24)) (.slice (some ⟨C.heap.size,0,none⟩) n n) (List.replicate n 0):=Ints.ext au (grown_trans (grown_refl _ none) (World.grownBy_alloc (C.alloc (.cells (madeCells #[.int .i64 0] n) 2)) (.cells #[.slice (some ⟨C.heap.size,0,none⟩) n n] 24) none));have W:(C.alloc (.cells (madeCells #[.int .i64 0] n) 2)).heap.size=C.heap.size+1:=by simp
     have av:((C.alloc (.cells (madeCells #[.int .i64 0] n) 2)).alloc (.cells #[.slice (some ⟨C.heap.size,0,none⟩) n n] 24)).cell? ⟨C.heap.size+1,0,none⟩=some (.slice (some ⟨C.heap.size,0,none⟩) n n):=by rw[World.cell?_alloc_at _ _ _ _ W.symm];rfl
     have hu:=av;have aw:Ext l ((C.alloc (.cells (madeCells #[.int .i64 0] n) 2)).alloc (.cells #[.slice (some ⟨C.heap.size,0,none⟩) n n] 24)):=(grown_trans (grown_trans B (World.grownBy_alloc C (.cells (madeCells #[.int .i64 0] n) 2) none)) (World.grownBy_alloc (C.alloc (.cells (madeCells #[.int .i64 0] n) 2)) (.cells #[.slice (some ⟨C.heap.size,0,none⟩) n n] 24) none));have aF:Ext C ((C.alloc (.cells (madeCells #[.int .i64 0] n) 2)).alloc (.cells #[.slice (some ⟨C.heap.size,0,none⟩) n n] 24)):=(grown_trans (grown_trans (grown_refl _ none) (World.grownBy_alloc C (.cells (madeCells #[.int .i64 0] n) 2) none)) (World.grownBy_alloc (C.alloc (.cells (madeCells #[.int .i64 0] n) 2)) (.cells #[.slice (some ⟨C.heap.size,0,none⟩) n n] 24) none))
    rotate_left
    focus
     go_simp;refine ko q (Near.of X) (λA => ?_);clear q J;refine rd2 6 11 (λJ q => ?_) (λJ q => ?_)
     focus
      go_simp;go_at_call 183;refine Calls.mono (ar _ 1 X ch) ?_;rintro e5 C ⟨a5,c5,vs,rfl,H,B,hvl6,K,hbb,aS⟩;go_wp2_with fail
      refine ko q (Near.of B) (λA => ?_);clear q J;refine rd1 11 (λJ q => ?_);go_simp;refine ko q (Near.of (grown_trans B (World.grownBy_alloc C (.cells #[.slice (some ⟨l.heap.size,0,none⟩) n n] 24) none))) (λA => ?_);clear q J;refine rd1 12 (λJ q => ?_);have au:Ints (λk=>l.heap.size<=k/\k=l.heap.size) (l.alloc (.cells (madeCells #[.int .i64 0] n) 2)) (.slice (some ⟨l.heap.size,0,none⟩) n n) (List.replicate n 0):=ints_of_own (own_mk_ints n (by omega) l) (by simp;omega) (λk hk=>by have:=own_blk hk;subst this;exact⟨by first|exact Nat.le_refl _|exact B.size,rfl⟩);have hM:Ints (λk=>l.heap.size<=k/\k=l.heap.size) (C.alloc (.cells #[.slice (some ⟨l.heap.size,0,none⟩) n n] 24)) (.slice (some ⟨l.heap.size,0,none⟩) n n) (List.replicate n 0):=Ints.ext au (grown_trans (grown_trans (grown_trans (grown_refl _ none) (grown_drew (l.alloc (.cells (madeCells #[.int .i64 0] n) 2)) none)) (H)) (World.grownBy_alloc C (.cells #[.slice (some ⟨l.heap.size,0,none⟩) n n] 24) none));have W:C.heap.size=C.heap.size:=rfl;have av:(C.alloc (.cells #[.slice (some ⟨l.heap.size,0,none⟩) n n] 24)).cell? ⟨C.heap.size,0,none⟩=some (.slice (some ⟨l.heap.size,0,none⟩) n n):=by rw[World.cell?_alloc_at _ _ _ _ W.symm];rfl
      have hu:=av;have aw:Ext l (C.alloc (.cells #[.slice (some ⟨l.heap.size,0,none⟩) n n] 24)):=(grown_trans B (World.grownBy_alloc C (.cells #[.slice (some ⟨l.heap.size,0,none⟩) n n] 24) none));have aF:Ext C (C.alloc (.cells #[.slice (some ⟨l.heap.size,0,none⟩) n n] 24)):=(grown_trans (grown_refl _ none) (World.grownBy_alloc C (.cells #[.slice (some ⟨l.heap.size,0,none⟩) n n] 24) none))
     rotate_left
     focus
      go_simp;refine ko q (Near.of aJ) (λA => ?_);clear q J;refine rd1 6 (λJ q => ?_);go_simp;go_at_call 183;refine Calls.mono (ar _ 2 aJ bw) ?_;rintro e5 C ⟨a5,c5,vs,rfl,H,B,hvl6,K,hbb,aS⟩;go_wp2_with fail
      refine ko q (Near.of B) (λA => ?_);clear q J;refine rd1 12 (λJ q => ?_);have au:Ints (λk=>l.heap.size<=k/\k=l.heap.size) (l.alloc (.cells (madeCells #[.int .i64 0] n) 2)) (.slice (some ⟨l.heap.size,0,none⟩) n n) (List.replicate n 0):=ints_of_own (own_mk_ints n (by omega) l) (by simp;omega) (λk hk=>by have:=own_blk hk;subst this;exact⟨by first|exact Nat.le_refl _|exact B.size,rfl⟩);have hM:Ints (λk=>l.heap.size<=k/\k=l.heap.size) C (.slice (some ⟨l.heap.size,0,none⟩) n n) (List.replicate n 0):=Ints.ext au (grown_trans (grown_trans (grown_trans (grown_refl _ none) (World.grownBy_alloc (l.alloc (.cells (madeCells #[.int .i64 0] n) 2)) (.cells #[.slice (some ⟨l.heap.size,0,none⟩) n n] 24) none)) (grown_drew ((l.alloc (.cells (madeCells #[.int .i64 0] n) 2)).alloc (.cells #[.slice (some ⟨l.heap.size,0,none⟩) n n] 24)) none)) (H));have W:(l.alloc (.cells (madeCells #[.int .i64 0] n) 2)).heap.size=l.heap.size+1:=by simp
      have av:((l.alloc (.cells (madeCells #[.int .i64 0] n) 2)).alloc (.cells #[.slice (some ⟨l.heap.size,0,none⟩) n n] 24)).cell? ⟨l.heap.size+1,0,none⟩=some (.slice (some ⟨l.heap.size,0,none⟩) n n):=by rw[World.cell?_alloc_at _ _ _ _ W.symm];rfl
      have hu:C.cell? ⟨l.heap.size+1,0,none⟩=some (.slice (some ⟨l.heap.size,0,none⟩) n n):=H.cell av (by simp);have aw:Ext l C:=B;have aF:Ext C C:=(grown_refl _ none)
   rotate_left 3
   focus
    go_simp;refine ko q (Near.of X) (λA => ?_);clear q J;refine rd2 5 11 (λJ q => ?_) (λJ q => ?_)
    focus
     have f2:(l.alloc (.cells (madeCells #[.int .i64 0] n) 2)).drew.cell? ⟨g,0,none⟩=some (.slice ae R.length ce):=(X:Ext l (l.alloc (.cells (madeCells #[.int .i64 0] n) 2)).drew).cell al (by simp);go_simp;refine ko q (Near.of X) (λA => ?_);clear q J;refine rd2 6 11 (λJ q => ?_) (λJ q => ?_)
     focus
      go_simp;go_at_call 183;refine Calls.mono (ar _ 1 X ch) ?_;rintro e5 C ⟨a5,c5,vs,rfl,H,B,hvl6,K,hbb,aS⟩;go_wp2_with fail
      refine ko q (Near.of B) (λA => ?_);clear q J;refine rd1 11 (λJ q => ?_);go_simp;refine ko q (Near.of (grown_trans B (World.grownBy_alloc C (.cells #[.slice (some ⟨l.heap.size,0,none⟩) n n] 24) none))) (λA => ?_);clear q J;refine rd1 12 (λJ q => ?_);have au:Ints (λk=>l.heap.size<=k/\k=l.heap.size) (l.alloc (.cells (madeCells #[.int .i64 0] n) 2)) (.slice (some ⟨l.heap.size,0,none⟩) n n) (List.replicate n 0):=ints_of_own (own_mk_ints n (by omega) l) (by simp;omega) (λk hk=>by have:=own_blk hk;subst this;exact⟨by first|exact Nat.le_refl _|exact B.size,rfl⟩);have hM:Ints (λk=>l.heap.size<=k/\k=l.heap.size) (C.alloc (.cells #[.slice (some ⟨l.heap.size,0,none⟩) n n] 24)) (.slice (some ⟨l.heap.size,0,none⟩) n n) (List.replicate n 0):=Ints.ext au (grown_trans (grown_trans (grown_trans (grown_refl _ none) (grown_drew (l.alloc (.cells (madeCells #[.int .i64 0] n) 2)) none)) (H)) (World.grownBy_alloc C (.cells #[.slice (some ⟨l.heap.size,0,none⟩) n n] 24) none));have W:C.heap.size=C.heap.size:=rfl;have av:(C.alloc (.cells #[.slice (some ⟨l.heap.size,0,none⟩) n n] 24)).cell? ⟨C.heap.size,0,none⟩=some (.slice (some ⟨l.heap.size,0,none⟩) n n):=by rw[World.cell?_alloc_at _ _ _ _ W.symm];rfl
      have hu:=av;have aw:Ext l (C.alloc (.cells #[.slice (some ⟨l.heap.size,0,none⟩) n n] 24)):=(grown_trans B (World.grownBy_alloc C (.cells #[.slice (some ⟨l.heap.size,0,none⟩) n n] 24) none));have aF:Ext C (C.alloc (.cells #[.slice (some ⟨l.heap.size,0,none⟩) n n] 24)):=(grown_trans (grown_refl _ none) (World.grownBy_alloc C (.cells #[.slice (some ⟨l.heap.size,0,none⟩) n n] 24) none))
     rotate_left
     focus
      go_simp;refine ko q (Near.of aJ) (λA => ?_);clear q J;refine rd1 6 (λJ q => ?_);go_simp;go_at_call 183;refine Calls.mono (ar _ 2 aJ bw) ?_;rintro e5 C ⟨a5,c5,vs,rfl,H,B,hvl6,K,hbb,aS⟩;go_wp2_with fail
      refine ko q (Near.of B) (λA => ?_);clear q J;refine rd1 12 (λJ q => ?_);have au:Ints (λk=>l.heap.size<=k/\k=l.heap.size) (l.alloc (.cells (madeCells #[.int .i64 0] n) 2)) (.slice (some ⟨l.heap.size,0,none⟩) n n) (List.replicate n 0):=ints_of_own (own_mk_ints n (by omega) l) (by simp;omega) (λk hk=>by have:=own_blk hk;subst this;exact⟨by first|exact Nat.le_refl _|exact B.size,rfl⟩);have hM:Ints (λk=>l.heap.size<=k/\k=l.heap.size) C (.slice (some ⟨l.heap.size,0,none⟩) n n) (List.replicate n 0):=Ints.ext au (grown_trans (grown_trans (grown_trans (grown_refl _ none) (World.grownBy_alloc (l.alloc (.cells (madeCells #[.int .i64 0] n) 2)) (.cells #[.slice (some ⟨l.heap.size,0,none⟩) n n] 24) none)) (grown_drew ((l.alloc (.cells (madeCells #[.int .i64 0] n) 2)).alloc (.cells #[.slice (some ⟨l.heap.size,0,none⟩) n n] 24)) none)) (H));have W:(l.alloc (.cells (madeCells #[.int .i64 0] n) 2)).heap.size=l.heap.size+1:=by simp
      have av:((l.alloc (.cells (madeCells #[.int .i64 0] n) 2)).alloc (.cells #[.slice (some ⟨l.heap.size,0,none⟩) n n] 24)).cell? ⟨l.heap.size+1,0,none⟩=some (.slice (some ⟨l.heap.size,0,none⟩) n n):=by rw[World.cell?_alloc_at _ _ _ _ W.symm];rfl
      have hu:C.cell? ⟨l.heap.size+1,0,none⟩=some (.slice (some ⟨l.heap.size,0,none⟩) n n):=H.cell av (by simp);have aw:Ext l C:=B;have aF:Ext C C:=(grown_refl _ none)
    rotate_left 2
    focus
     go_simp;refine ko q (Near.of aJ) (λA => ?_);clear q J;refine rd1 5 (λJ q => ?_);have f2:((l.alloc (.cells (madeCells #[.int .i64 0] n) 2)).alloc (.cells #[.slice (some ⟨l.heap.size,0,none⟩) n n] 24)).drew.cell? ⟨g,0,none⟩=some (.slice ae R.length ce):=(aJ:Ext l ((l.alloc (.cells (madeCells #[.int .i64 0] n) 2)).alloc (.cells #[.slice (some ⟨l.heap.size,0,none⟩) n n] 24)).drew).cell al (by simp);go_simp;refine ko q (Near.of aJ) (λA => ?_);clear q J;refine rd1 6 (λJ q => ?_);go_simp;go_at_call 183;refine Calls.mono (ar _ 2 aJ bw) ?_;rintro e5 C ⟨a5,c5,vs,rfl,H,B,hvl6,K,hbb,aS⟩;go_wp2_with fail
     refine ko q (Near.of B) (λA => ?_);clear q J;refine rd1 12 (λJ q => ?_);have au:Ints (λk=>l.heap.size<=k/\k=l.heap.size) (l.alloc (.cells (madeCells #[.int .i64 0] n) 2)) (.slice (some ⟨l.heap.size,0,none⟩) n n) (List.replicate n 0):=ints_of_own (own_mk_ints n (by omega) l) (by simp;omega) (λk hk=>by have:=own_blk hk;subst this;exact⟨by first|exact Nat.le_refl _|exact B.size,rfl⟩);have hM:Ints (λk=>l.heap.size<=k/\k=l.heap.size) C (.slice (some ⟨l.heap.size,0,none⟩) n n) (List.replicate n 0):=Ints.ext au (grown_trans (grown_trans (grown_trans (grown_refl _ none) (World.grownBy_alloc (l.alloc (.cells (madeCells #[.int .i64 0] n) 2)) (.cells #[.slice (some ⟨l.heap.size,0,none⟩) n n] 24) none)) (grown_drew ((l.alloc (.cells (madeCells #[.int .i64 0] n) 2)).alloc (.cells #[.slice (some ⟨l.heap.size,0,none⟩) n n] 24)) none)) (H));have W:(l.alloc (.cells (madeCells #[.int .i64 0] n) 2)).heap.size=l.heap.size+1:=by simp
     have av:((l.alloc (.cells (madeCells #[.int .i64 0] n) 2)).alloc (.cells #[.slice (some ⟨l.heap.size,0,none⟩) n n] 24)).cell? ⟨l.heap.size+1,0,none⟩=some (.slice (some ⟨l.heap.size,0,none⟩) n n):=by rw[World.cell?_alloc_at _ _ _ _ W.symm];rfl
     have hu:C.cell? ⟨l.heap.size+1,0,none⟩=some (.slice (some ⟨l.heap.size,0,none⟩) n n):=H.cell av (by simp);have aw:Ext l C:=B;have aF:Ext C C:=(grown_refl _ none)
   all_goals
    have dB:=World.ownsRow.kept K aF (by cases hv:(Value.slice a5 vs.length c5).ownBlock<;>simp);refine step_app_rowH (by rfl) _ _ (by rfl) l.heap.size _ vs (by rfl) dB _ _ (by rfl) ⟨hu,rfl⟩ (by omega) aw.size ?_;intro v6 w6 ak aq dM;have I:Ext l w6:=grown_own aw aq (λj hj D=>by have:=(K.lt j hj).1;omega);have aV:=rows_app (L:=R) (y:=List.replicate n 0) ak aS.out.2 (by omega) aS.out.1 aF aq hM (λk hk=>⟨hk.1,λe=>by have h1:=hbb k e;have h2:=(K.lt k e).2;omega⟩)
    obtain ⟨a6,c6,bu,_⟩:∃a c,v6=.slice a (vs.length+1) c/\True:=by
     rcases ak.form with⟨h1,h2⟩|⟨g5,cap5,h1,_⟩
     ·simp at h2
     ·exact⟨_,_,by rw[h1,bp],trivial⟩
    subst bu;have r1:=I.cell al (by simp);have r2:=(World.frozen?_of_block (a:=⟨g,0,none⟩) (I.block g aX (by simp))).trans b';refine ko q (Near.of I) (λA => ?_);clear q J;refine tk 13 ?_;refine rd1 14 (λJ q => ?_);go_simp;refine ko q (Near.store I) (λA => ?_);clear q J;refine wpAnyH_done (by kernel_rfl) ?_ _;clear r1 r2 dz e0 e1 ar bv X aJ bp cW ch bw;have hT:=grown_set1 w6 g 0 (.slice a6 (vs.length+1) c6);have aG:=(M.ext I).moved hT (by omega);have ab:=(N.ext I).moved hT (by omega);have ad:=grown_own (grown_trans T (grown_of_ext (some sb) I)) hT (λj hj D=>by have:=Option.some.inj hj;omega);have aH:=(E.out.2.1.ext I).own hT (λk hk=>by have:=Option.some.inj hk;omega);have aI:=E.out.1.putRow 0 O E.out.2.2.2.2 I aV;have HF:=Lib.hid (And.intro aG (And.intro ab (And.intro ad (And.intro aH aI))));clear aG ab ad aH aI hT aV;go_wp2_with fail
    go_meet;obtain⟨aG,ab,ad,aH,Q7,cX,aI⟩:=HF.out;exact⟨_,_,_,_,_,_,_,_,_,_,aG,ab,ad,aH,(by rw[cX,<-E.out.2.2.1];omega),(OrdLe.same cX),aI.mono (λk hk D=>⟨by rcases hk with hk|hk<;>omega,D,rfl⟩)⟩
 ·go_wp2_with fail
  have bJ:Ext l (l.alloc (.cells #[.int .i64 7,.int .i64 7,.int .i64 7,.int .i64 7] 2)):=World.grownBy_alloc _ _ _;have cY:Ints Any (l.alloc (.cells #[.int .i64 7,.int .i64 7,.int .i64 7,.int .i64 7] 2)) (.slice (some ⟨l.heap.size,0,none⟩) 4 4) [7,7,7,7]:=Ints.sub (ints_litL l [7,7,7,7] (by simp)) (λ_ _ _=>trivial);have cZ:(l.alloc (.cells #[.int .i64 7,.int .i64 7,.int .i64 7,.int .i64 7] 2)).heap.size=l.heap.size+1:=by simp
  refine Calls.mono (l07Trivial_ok _ _ [7,7,7,7] _ cY (by simp)) ?_;rintro e5 C ⟨v5,rfl,H,uo5,up5,uc5,rfl,hX5⟩;obtain⟨a0,a4,a7,a8,a9,a',rfl,rfl,rfl⟩:=trivX_shape hX5;have aP:=grown_trans bJ H;have cP:=aP.size;have bj:=M.ext aP;have aM:=N.ext aP;obtain⟨q0,q1,q2,q3,q4⟩:=id bj;have aT:=grown_set3 C V (.slice a0 4 a4) (.slice a7 4 a8) (.slice a9 4 a');have bK:=bj.all (.slice a0 4 a4) (.slice a7 4 a8) (.slice a9 4 a');have bL:=aM.moved aT (by omega)
  have c0:Pres3 (λk=>w.heap.size+2<=k) (((C.setCell ⟨V,0,none⟩ (.slice a0 4 a4)).setCell ⟨V,1,none⟩ (.slice a7 4 a8)).setCell ⟨V,2,none⟩ (.slice a9 4 a')) (.slice a0 4 a4) (.slice a7 4 a8) (.slice a9 4 a') (trivP [7,7,7,7]):=
   hX5.p3.mono (λk hk D=>by
    have hk:(l.alloc (.cells #[.int .i64 7,.int .i64 7,.int .i64 7,.int .i64 7] 2)).heap.size<=k:=hk;exact⟨by omega,Nat.lt_of_lt_of_le D aT.size,aT.block k D (λe=>by have:=Option.some.inj e;omega)⟩)
  clear hX5 cY cZ H bJ bj aM;have B:=grown_own (grown_trans T (grown_of_ext (some sb) aP)) aT (λj hj D=>by have:=Option.some.inj hj;omega);have bh:=(E.out.2.1.ext aP).own aT (λk hk=>by have:=Option.some.inj hk;omega);have dN:=aT.size;have HF:=Lib.hid (And.intro c0 (And.intro B bh));clear c0 B bh aT;go_wp2_with fail
  generalize ((C.setCell ⟨V,0,none⟩ (.slice a0 4 a4)).setCell ⟨V,1,none⟩ (.slice a7 4 a8)).setCell ⟨V,2,none⟩ (.slice a9 4 a')=w6 at *;refine Calls.mono (l01Next_ok B0 w6 sb 2 HF.out.2.2) ?_;rintro e7 w7 ⟨v7,rfl,ad,y,rfl,_,_,aH⟩;have aG:=bK.moved ad (by omega);have ab:=bL.moved ad (by omega);have bM:=grown_trans HF.out.2.1 ad;have aI:Pres3 (λk=>w.heap.size+2<=k) w7 (.slice a0 4 a4) (.slice a7 4 a8) (.slice a9 4 a') (trivP [7,7,7,7]):=HF.out.1.mono (λk hk D=>⟨hk,Nat.lt_of_lt_of_le D ad.size,ad.block k D (λe=>by have:=Option.some.inj e;omega)⟩);have dO:=ad.size;clear HF bK bL ad;by_cases hy:y=0
  ·have dC:(y == 0)=true:=by simp[hy]
   clear hy;go_wp2_with fail
   have bN:Ext w7 (w7.alloc (.cells #[.int .i64 2,.int .i64 2,.int .i64 2,.int .i64 2,.int .i64 2,.int .i64 2,.int .i64 2] 2)):=World.grownBy_alloc _ _ _;have c4:Ints Any (w7.alloc (.cells #[.int .i64 2,.int .i64 2,.int .i64 2,.int .i64 2,.int .i64 2,.int .i64 2,.int .i64 2] 2)) (.slice (some ⟨w7.heap.size,0,none⟩) 7 7) [2,2,2,2,2,2,2]:=Ints.sub (ints_litL w7 [2,2,2,2,2,2,2] (by simp)) (λ_ _ _=>trivial);have c7:(w7.alloc (.cells #[.int .i64 2,.int .i64 2,.int .i64 2,.int .i64 2,.int .i64 2,.int .i64 2,.int .i64 2] 2)).heap.size=w7.heap.size+1:=by simp
   refine Calls.mono (l07Trivial_ok _ _ [2,2,2,2,2,2,2] _ c4 (by simp)) ?_;rintro e8 w8 ⟨v8,rfl,bk,uo8,up8,uc8,rfl,hX8⟩;obtain⟨bz,bA,bB,bC,bD,bE,rfl,rfl,rfl⟩:=trivX_shape hX8;have aQ:=grown_trans bN bk;have dQ:=aQ.size;have bl:=aG.ext aQ;have bO:=ab.ext aQ;obtain⟨q0,q1,q2,q3,q4⟩:=id bl;have ba:=grown_set3 w8 V (.slice bz 7 bA) (.slice bB 7 bC) (.slice bD 7 bE);have bP:=bl.all (.slice bz 7 bA) (.slice bB 7 bC) (.slice bD 7 bE);have bQ:=bO.moved ba (by omega)
   have c8:Pres3 (λk=>w.heap.size+2<=k) (((w8.setCell ⟨V,0,none⟩ (.slice bz 7 bA)).setCell ⟨V,1,none⟩ (.slice bB 7 bC)).setCell ⟨V,2,none⟩ (.slice bD 7 bE)) (.slice bz 7 bA) (.slice bB 7 bC) (.slice bD 7 bE) (trivP [2,2,2,2,2,2,2]):=
    hX8.p3.mono (λk hk D=>by
     have hk:(w7.alloc (.cells #[.int .i64 2,.int .i64 2,.int .i64 2,.int .i64 2,.int .i64 2,.int .i64 2,.int .i64 2] 2)).heap.size<=k:=hk;exact⟨by omega,Nat.lt_of_lt_of_le D ba.size,ba.block k D (λe=>by have:=Option.some.inj e;omega)⟩)
   clear hX8 c4 c7 bk bN bl bO;have bk:=grown_own (grown_trans bM (grown_of_ext (some sb) aQ)) ba (λj hj D=>by have:=Option.some.inj hj;omega);have c9:=(aH.ext aQ).own ba (λk hk=>by have:=Option.some.inj hk;omega);have HF:=Lib.hid (And.intro c8 (And.intro bk (And.intro c9 (And.intro bP bQ))));clear c8 bk c9 ba bP bQ;go_wp2_with fail
   go_meet;exact⟨_,_,_,_,_,_,_,_,_,_,HF.out.2.2.2.1,HF.out.2.2.2.2,HF.out.2.1,HF.out.2.2.1,by decide,(by exact λh=>absurd h.n6 (by decide)),HF.out.1⟩
  ·have dC:(y == 0)=false:=by simp[hy]
   clear hy;go_wp2_with fail
   go_meet;exact⟨_,_,_,_,_,_,_,_,_,_,aG,ab,bM,aH,by decide,(by exact λh=>absurd h.le729 (by decide)),aI⟩
set_option maxHeartbeats 16000000 in
theorem l07DrawL_ok (N:Nat) (w:World) (sb:Nat) (j:Int) (O:N<=w.heap.size) (hs:Src N w sb) :
  Calls Tryz.prog 85 #[.pointer (some ⟨sb,0,none⟩),.int .i64 j] w (Mut w (some sb) (DrawR N sb (PresAL 7 (LimOk j) w.heap.size))):=by
 have aB:=hs.lt;have Y:=Box3.made w 28 (.slice none 0 0) (.slice none 0 0) (.slice none 0 0);have S:Ext w (w.alloc (.cells #[.slice none 0 0,.slice none 0 0,.slice none 0 0] 28)):=World.grownBy_alloc _ _ _;have ar:(w.alloc (.cells #[.slice none 0 0,.slice none 0 0,.slice none 0 0] 28)).heap.size=w.heap.size+1:=by simp
 have Z:=Lib.hid (hs.ext S);clear hs;go_enter Tryz.func85,Tryz.ntmps85;go_wp2_with fail
 generalize w.alloc (.cells #[.slice none 0 0,.slice none 0 0,.slice none 0 0] 28)=w0 at *;have av:w.heap.size+1<=w0.heap.size:=by omega
 clear ar;refine Calls.mono (l07GroupL_ok N w0 sb j (by omega) Z.out) ?_;rintro e1 W ⟨v1,rfl,E,hP1,hs1⟩;obtain⟨vo,vp,vc,Q,rfl,X,hQ,hLQ⟩:=hP1;have T:=Lib.hid hLQ;clear hLQ;obtain⟨a1,F,c1,a2,G,c2,H,I,c3,rfl,rfl,rfl⟩:=PresN3.shape ⟨Q,X.shp,hQ⟩;have q:Ext W (W.alloc (.cells #[.slice a1 F c1,.slice a2 G c2,.slice H I c3] 28)):=World.grownBy_alloc _ _ _;have U:=Box3.made W 28 (.slice a1 F c1) (.slice a2 G c2) (.slice H I c3);obtain⟨pb,V⟩:∃pb,pb=W.heap.size:=⟨_,rfl⟩;rw[<-V] at U;have aa:=E.size;have ab:Pres3 (λk=>w0.heap.size<=k/\k≠pb) (W.alloc (.cells #[.slice a1 F c1,.slice a2 G c2,.slice H I c3] 28)) (.slice a1 F c1) (.slice a2 G c2) (.slice H I c3) Q:=hQ.mono (λk hk u=>⟨⟨hk,by omega⟩,Nat.lt_of_lt_of_le u q.size,q.block k u (by simp)⟩);have ac:=Y.moved E (by omega);have ad:=ac.ext q;have ae:=hs1.ext q;have J:=grown_trans (grown_of_ext (some sb) S) (grown_trans E (grown_of_ext (some sb) q));have HP:=Lib.hid V;have l:=Lib.hid (And.intro ab (And.intro ae X));clear hQ ab ae hs1 X E Y S Z ac q;go_wp2_with fail
 rw[<-HP.out];generalize W.alloc (.cells #[.slice a1 F c1,.slice a2 G c2,.slice H I c3] 28)=w2 at *;have aD:w0.heap.size<=pb:=by omega
 clear V HP aa;refine Calls.mono (l01Next_ok N w2 sb 24 l.out.2.1) ?_;rintro e3 w3 ⟨v3,rfl,hg3,x,rfl,_,hx1,ag⟩;have y:=ad.moved hg3 (by omega);have K:=U.moved hg3 (by omega);have hQ3:Pres3 (λk=>w0.heap.size<=k/\k≠pb) w3 (.slice a1 F c1) (.slice a2 G c2) (.slice H I c3) Q:=l.out.1.mono (λk hk u=>⟨hk,Nat.lt_of_lt_of_le u hg3.size,hg3.block k u (λe=>by have:=Option.some.inj e;omega)⟩);have b:=grown_trans J hg3;have X:=l.out.2.2;have ax:=b.size;have aE:=K.1;have l:=Lib.hid (And.intro hQ3 (And.intro ag X));clear hQ3 ag X hg3 U ad J hx1;obtain⟨q0,q1,q2,q3,q4⟩:=id K;by_cases z:x=0
 ·have au:(x == 0)=true:=by simp[z]
  clear z;go_wp2_with fail
  refine Calls.mono (l07BendL_ok N w3 sb _ Q _ (by omega) l.out.2.1 ⟨_,_,_,rfl,l.out.1⟩ l.out.2.2) ?_;rintro e4 w4 ⟨v4,rfl,hg4,⟨uo,up,uc,R,rfl,A,B,C⟩,D⟩;obtain⟨y1,m1,k1,hy1⟩:∃a n c,uo=.slice a n c:=by obtain⟨a,c,e,_⟩:=B.o.shape;exact⟨_,_,_,e⟩
  obtain⟨y2,m2,k2,hy2⟩:∃a n c,up=.slice a n c:=by obtain⟨a,c,e,_⟩:=Sl.shape B.p;exact⟨_,_,_,e⟩
  obtain⟨y3,m3,k3,hy3⟩:∃a n c,uc=.slice a n c:=by obtain⟨a,c,e,_⟩:=Sl.shape B.c;exact⟨_,_,_,e⟩
  subst hy1 hy2 hy3;have m:=y.moved hg4 (by omega);have i:=grown_trans b hg4;obtain⟨b0,b1,b2,b3,b4⟩:=id m;have L:=m.all (.slice y1 m1 k1) (.slice y2 m2 k2) (.slice y3 m3 k3);obtain⟨-,z0,z1,z2,-⟩:=id L;have r:=Lib.hid (And.intro i (And.intro D (And.intro B (And.intro A (T.out.le l.out.2.2 C)))));clear L i D B A m hg4 C;go_wp2_with fail
  refine bodyPost_ret (v := .agg #[.slice y1 m1 k1,.slice y2 m2 k2,.slice y3 m3 k3]) (by simp[results,Tryz.results85,go_sem,z0,z1,z2]) rfl ?_;exact a_ret r.out.1 (br:=w.heap.size) (Nat.le_refl _) (λk hk _=>by have hk:w3.heap.size<=k:=hk;exact⟨by omega,by omega⟩) r.out.2.1 O r.out.2.2.2.1 r.out.2.2.1 r.out.2.2.2.2
 have au:(x == 0)=false:=by simp[z]
 by_cases M:x=1\/x=2
 ·rcases M with rfl|rfl
  all_goals
   clear z;go_wp2_with fail
   refine Calls.mono (l07TurnL_ok N w3 sb _ Q _ (by omega) l.out.2.1 ⟨_,_,_,rfl,l.out.1⟩ l.out.2.2) ?_;rintro e4 w4 ⟨v4,rfl,hg4,⟨uo,up,uc,R,rfl,A,B,C⟩,D⟩;obtain⟨y1,m1,k1,hy1⟩:∃a n c,uo=.slice a n c:=by obtain⟨a,c,e,_⟩:=B.o.shape;exact⟨_,_,_,e⟩
   obtain⟨y2,m2,k2,hy2⟩:∃a n c,up=.slice a n c:=by obtain⟨a,c,e,_⟩:=Sl.shape B.p;exact⟨_,_,_,e⟩
   obtain⟨y3,m3,k3,hy3⟩:∃a n c,uc=.slice a n c:=by obtain⟨a,c,e,_⟩:=Sl.shape B.c;exact⟨_,_,_,e⟩
   subst hy1 hy2 hy3;have m:=y.moved hg4 (by omega);have i:=grown_trans b hg4;obtain⟨b0,b1,b2,b3,b4⟩:=id m;have L:=m.all (.slice y1 m1 k1) (.slice y2 m2 k2) (.slice y3 m3 k3);obtain⟨-,z0,z1,z2,-⟩:=id L;have r:=Lib.hid (And.intro i (And.intro D (And.intro B (And.intro A (T.out.le l.out.2.2 C)))));clear L i D B A m hg4 C;go_wp2_with fail
   refine bodyPost_ret (v := .agg #[.slice y1 m1 k1,.slice y2 m2 k2,.slice y3 m3 k3]) (by simp[results,Tryz.results85,go_sem,z0,z1,z2]) rfl ?_;exact a_ret r.out.1 (br:=w.heap.size) (Nat.le_refl _) (λk hk _=>by have hk:w3.heap.size<=k:=hk;exact⟨by omega,by omega⟩) r.out.2.1 O r.out.2.2.2.1 r.out.2.2.1 r.out.2.2.2.2
 ·have az:(x == 1)=false:=by simp;omega
  have aA:(x == 2)=false:=by simp;omega
  clear M z;obtain⟨b0,b1,b2,b3,b4⟩:=id y;have L:=y.all (.slice a1 F c1) (.slice a2 G c2) (.slice H I c3);obtain⟨-,z0,z1,z2,-⟩:=id L;have r:=Lib.hid b;clear L b y;go_wp2_with fail
  refine bodyPost_ret (v := .agg #[.slice a1 F c1,.slice a2 G c2,.slice H I c3]) (by simp[results,Tryz.results85,go_sem,z0,z1,z2]) rfl ?_;exact a_ret r.out (br:=w.heap.size) (Nat.le_refl _) (λk hk _=>⟨by omega,by omega⟩) l.out.2.1 O (by have:=l.out.2.2.n6;omega) l.out.1 T.out
end Go.Proofs.YtoakmefajbbggaaGreat
