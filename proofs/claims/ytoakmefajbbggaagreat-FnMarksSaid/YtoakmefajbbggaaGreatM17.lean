/- Merged from templates. -/
import Derived.Test.YtoakmefajbbggaaGreatM16
import Derived.Carry
import Derived.Deep.Slices
import Derived.ChangeSame
import Derived.ChangeSlices
import Derived.JoinedOf
import Derived.JoinedAt
import Derived.JoinedCond
import Derived.ReadAgain
set_option maxRecDepth 100000
set_option maxHeartbeats 8000000
namespace Go.Proofs.YtoakmefajbbggaaGreat
open Go.RowKit
open Classical
theorem Ow (L:List (List Int)) (Q:List Int->Prop) (w:World) (lv p:Value) (F G:Nat) (H:Nat->Prop) (I:dK H w lv L)
  (a:∀w' J y O,Ext w w'->Ints O w' J y->y∈L->Calls Tryz.prog 146 #[J,p,.pointer (some ⟨F,0,none⟩),.pointer (some ⟨G,0,none⟩)] w' (fq w' λ_ v=>v=.bool (!(decide (Q y))))) :
  Calls Tryz.prog 205 #[lv,.func (.func 146) #[] #[p,.pointer (some ⟨F,0,none⟩),.pointer (some ⟨G,0,none⟩)]] w (fq w λ_ v=>∃k:Int,v=.int .i64 k/\(0<=k↔∃y∈L,¬Q y)):=by
 obtain⟨T,lc,rfl,_,_⟩:=Sl.shape I;have R:=Lib.hid a;clear a;go_enter Tryz.func205,Tryz.ntmps205;go_wp2;go_loopw [8] (λv wr=>∃k:Nat,v=.int .i64 k/\k<=L.length/\Ext w wr/\Hid (∀j,j<k->Q (gt L j))) (λv _=>L.length-(intOf v).toNat)
 case atStart=>exact⟨0,rfl,by omega,Ext.refl _,Lib.hid (λj h=>by omega)⟩
 case round=>
  obtain⟨k,rfl,hk,l,hN⟩:=hrel;by_cases i:k<L.length
  ·have K:(k:Int)<L.length:=by omega
   obtain⟨U,ol,a2,jx,hab,_,hbl,a,m⟩:=dK.at I k i;subst hab;have A:=l.cell a (by simp);have b:=R.out wr _ (gt L k) H l (Ints.ext m l) (fT i);have M:=fT i;obtain⟨r,B⟩:∃r,r=decide (Q (gt L k)):=⟨_,rfl⟩;rw[<-B] at b;have C:=Lib.hid (And.intro B M);clear B M a m;go_wp2_with fail
   refine Calls.mono b ?_;rintro V W ⟨v1,rfl,hg1,rfl⟩;clear b A;have q:=dy l hg1;cases r with
   | false=>
    have hex:∃y∈L,¬Q y:=⟨_,C.out.2,of_decide_eq_false C.out.1.symm⟩;have D:=Lib.hid hex;clear hex;go_wp2;go_ret;exact⟨_,rfl,q,(k:Int),rfl,⟨λ_=>D.out,λ_=>by omega⟩⟩
   | true=>
    have u:∀j,j<k+1->Q (gt L j):=λj N=>by
     rcases Nat.lt_succ_iff_lt_or_eq.1 N with h|h
     ·exact hN.out j h
     ·rw[h];exact of_decide_eq_true C.out.1.symm
    have E:=Lib.hid u;clear u;go_wp2;go_roundw
    case rel=>exact⟨k+1,by go_num,by omega,q,E⟩
    case measure=>simp[intOf];omega
  ·have z:¬ ∃y∈L,¬Q y:=by
    rintro⟨y,hy,hq⟩;obtain⟨j,N,e⟩:=oW hy;exact hq (by rw[<-e];exact hN.out j (by omega))
   have S:¬(k:Int)<L.length:=by omega
   have D:=Lib.hid z;clear z;go_wp2;go_ret;exact⟨_,rfl,l,-1,rfl,⟨λh=>by omega,λh=>absurd h D.out⟩⟩
theorem Ox (L:List (List Int)) (Q:List Int->Prop) (w:World) (lv p:Value) (b e:Nat) (i:Nat->Prop) (j:dK i w lv L)
  (a:∀w' l y q,Ext w w'->Ints q w' l y->y∈L->Calls Tryz.prog 146 #[l,p,.pointer (some ⟨b,0,none⟩),.pointer (some ⟨e,0,none⟩)] w' (fq w' λ_ v=>v=.bool (!(decide (Q y))))) :
  Calls Tryz.prog 145 #[lv,.func (.func 146) #[] #[p,.pointer (some ⟨b,0,none⟩),.pointer (some ⟨e,0,none⟩)]] w (fq w λ_ v=>v=.bool (!(decide (∀y∈L,Q y)))):=by
 have m:=Ow L Q w lv p b e i j a;clear a;obtain⟨u,lc,rfl,_,_⟩:=Sl.shape j;go_enter Tryz.func145,Tryz.ntmps145;go_wp2_with fail
 refine Calls.mono m ?_;rintro z A ⟨v1,rfl,hg1,k,rfl,hk⟩;have r:=Lib.hid hk;clear hk m;go_wp2;go_ret;refine⟨_,rfl,hg1,?_⟩;show Value.bool (decide (0<=k))=_
 rw[decide_eq_decide.2 r.out];by_cases h:∀y∈L,Q y
 ·rw[decide_eq_true h,decide_eq_false (λ⟨y,hy,hq⟩=>hq (h y hy))];rfl
 ·rw [decide_eq_false h]
  obtain⟨y,hy⟩:=Classical.not_forall.1 h;obtain⟨h1,h2⟩:=Classical.not_imp.1 hy;rw[decide_eq_true ⟨y,h1,h2⟩];rfl
theorem Oy (P:Pr) (hr:jH P=true) (w:World) (pv uv vv:Value) (U V:List (List Int)) (Sp Su Sv:Nat->Prop) (aF:gy Sp w pv P) (hu:dK Su w uv U) (hv:dK Sv w vv V) (hU:fO P U) (hV:fO P V) (ad:eW P<=128) :
  Calls Tryz.prog 73 #[pv,uv,vv] w (fq w λ_ v=>v=.tuple #[.int .i64 (jU P U V:Nat),.int .i64 0]):=by
 have G:=lZ hr;have a6:=G.v.n6;obtain⟨vo,vp,vc,rfl,h3⟩:=aF;have ae:=fB.box h3 28;have B:Ext w (w.alloc (.cells #[vo,vp,vc] 28)):=World.grownBy_alloc _ _ _;have aH:(w.alloc (.cells #[vo,vp,vc] 28)).heap.size=w.heap.size+1:=by simp
 have af:=dK.ext hu B;have ag:=dK.ext hv B;obtain⟨z,a,rfl,_,_⟩:=Sl.shape hu;obtain⟨av,k,rfl,_,_⟩:=Sl.shape hv;have l:Ext (w.alloc (.cells #[vo,vp,vc] 28)) ((w.alloc (.cells #[vo,vp,vc] 28)).alloc (.cells #[.slice z U.length a] 25)):=World.grownBy_alloc _ _ _
 have ah:((w.alloc (.cells #[vo,vp,vc] 28)).alloc (.cells #[.slice z U.length a] 25)).cell? ⟨w.heap.size+1,0,none⟩=some (.slice z U.length a):=by
  rw[<-aH,World.cell?_alloc_at _ _ _ _ rfl];rfl
 have N:=dK.ext af l;have O:=dK.ext ag l;have Q:=ae.ext l;have aI:((w.alloc (.cells #[vo,vp,vc] 28)).alloc (.cells #[.slice z U.length a] 25)).heap.size=w.heap.size+1+1:=by simp
 have ai:=dy B l;have aj:∀y∈V,dL P.orders y:=hV.1
 have ak:∀x∈iM P (fV P U),Zr P U x:=λx hx=>by
  have e:=uQ P (fV P U).reverse;rw[List.reverse_reverse] at e;rw[e] at hx;obtain⟨t,_,rfl⟩:=List.mem_map.1 hx;exact uT G t
 have C:(iM P (fV P U)).length<=117649:=(He P (λi hi=>by have:=G.v.gh i hi;unfold iF;omega) _ (by
  have h:=yL U P.orders.length;have e:jW U P.orders.length=fV P U:=rfl;rw[e] at h;omega) (λi hi=>(xX.1 hi).1)).1
 have H:=Lib.hid (And.intro hr (And.intro hU (And.intro hV (And.intro aj (And.intro ak C)))));clear hr aj ak C hU hV;go_enter Tryz.func73,Tryz.ntmps73;go_wp2_with fail
 generalize aJ:(w.alloc (.cells #[vo,vp,vc] 28)).alloc (.cells #[.slice z U.length a] 25)=w1 at *;clear aJ B l af ag ae;have hl:=Hf N O;rw[aI] at hl;have D:Ext w1 (w1.alloc (.cells #[.slice z U.length a,.slice av V.length k] 25)):=World.grownBy_alloc _ _ _;have al:=D.cell ah (by simp);have am:=Q.ext D;have b:=x4 P _ _ _ [U,V] Any Any am hl;generalize aM:w1.alloc (.cells #[.slice z U.length a,.slice av V.length k] 25)=w2 at *;clear aM hl;refine Calls.mono b ?_;rintro e3 w3 ⟨v3,rfl,R,r1,rfl,Hg⟩;clear b ah;obtain rfl:r1=true:=Hg.2 (by have:=H.out;simp only[List.mem_cons,List.mem_nil_iff,or_false];exact⟨this.1,λu hu=>by rcases hu with rfl|rfl;exact this.2.1;exact this.2.2.1⟩);clear Hg;have j:=dy D R
 have I:∀w',Ext w3 w'->w'.cell? ⟨w.heap.size+1,0,none⟩=some (.slice z U.length a)/\fB Any w' (.pointer (some ⟨w.heap.size,0,none⟩)) P/\dK Any w' (.slice z U.length a) U/\dK Any w' (.slice av V.length k) V:=λw' h=>
  ⟨h.cell (R.cell al (by simp)) (by simp),fB.sub (Q.ext (dy j h)) (λ_ _ _=>trivial),dK.sub (dK.ext N (dy j h)) (λ_ _ _=>trivial),dK.sub (dK.ext O (dy j h)) (λ_ _ _=>trivial)⟩
 have ao:=dy ai j;have A:=Lib.hid I;clear I Q am N O al D R j;obtain⟨c_,_⟩:=id (A.out w3 (gZ _ _));go_wp2_with fail
 refine Calls.mono (Oh P H.out.1 w3 _ _ U Any Any (A.out w3 (gZ _ _)).2.1 (A.out w3 (gZ _ _)).2.2.1 H.out.2.1 ad) ?_;rintro e4 w4 ⟨v4,rfl,E,rfl⟩;clear c_;obtain⟨c_,_⟩:=id (A.out w4 E);go_wp2_with fail
 refine Calls.mono (Oo P G w4 _ _ U Any Any (A.out w4 E).2.1 (A.out w4 E).2.2.1 H.out.2.1) ?_;rintro e5 w5 ⟨v5,rfl,mV,hO⟩;clear c_;obtain⟨T,hT⟩:∃T,T=iM P (fV P U):=⟨_,rfl⟩;have C:=H.out.2.2.2.2.2;rw[<-hT] at hO C;have S:=gY.rows (gN.iB hO (by omega));obtain⟨ta,tc,rfl,_,_⟩:=Sl.shape S;have ap:∀w',Ext w5 w'->dK Any w' (.slice ta T.length tc) T:=λw' h=>dK.sub (dK.ext S h) (λ_ _ _=>trivial);have HT:=Lib.hid (And.intro hT ap);clear hT ap S hO;have J:=dy E mV;have aq:=dy ao J;go_wp2;go_loopw [9,25] (λnv iv wr=>∃(i n:Nat),iv=.int .i64 i/\nv=.int .i64 n/\i<=T.length/\n<=i/\Ext w5 wr/\Hid (n=((T.take i).filter (λx=>decide (∀y∈V,gP P U (fW P y x)))).length)) (λ_ iv _=>T.length-(intOf iv).toNat)
 case atStart=>exact⟨0,0,rfl,rfl,by omega,by omega,Ext.refl _,Lib.hid (by simp)⟩
 case round=>
  obtain⟨i,n,rfl,rfl,hi,hni,hg,hN⟩:=hrel;by_cases W:i<T.length
  ·have a1:(i:Int)<T.length:=by omega
   obtain⟨bx,ox,ax,cx,hab,_,_,ar,X⟩:=dK.at (HT.out.2 wr hg) i W;subst hab;have hz:=H.out.2.2.2.2.1 (gt T i) (by rw[<-HT.out.1];exact fT W)
   have Y:(T.take (i+1)).filter (λx=>decide (∀y∈V,gP P U (fW P y x)))=(T.take i).filter (λx=>decide (∀y∈V,gP P U (fW P y x)))++[gt T i].filter (λx=>decide (∀y∈V,gP P U (fW P y x))):=by
    rw[je T i W,List.filter_append]
   obtain⟨x,hx⟩:∃x,x=gt T i:=⟨_,rfl⟩;rw[<-hx] at ar X hz Y;have F:Ext wr (wr.alloc (.cells #[.slice ax x.length cx] 24)):=World.grownBy_alloc _ _ _;have m:(wr.alloc (.cells #[.slice ax x.length cx] 24)).cell? ⟨wr.heap.size,0,none⟩=some (.slice ax x.length cx):=by rw[World.cell?_alloc_at _ _ _ _ rfl];rfl
   have p:=dy J (dy hg F);have K:=Ints.ext X F
   have b:=Ox V (λy=>gP P U (fW P y x)) (wr.alloc (.cells #[.slice ax x.length cx] 24)) (.slice av V.length k) (.pointer (some ⟨w.heap.size,0,none⟩)) (w.heap.size+1) wr.heap.size Any (A.out _ p).2.2.2 (λw' yv y Sy q hy aS=>
    Ov P G w' yv _ y x U _ _ z ax a cx Any Any Any Sy H.out.2.1 (A.out w' (dy p q)).2.1 (A.out w' (dy p q)).1 (A.out w' (dy p q)).2.2.1 (q.cell m (by simp)) (Ints.sub (Ints.ext K q) (λ_ _ _=>trivial)) hy (H.out.2.2.2.1 y aS) hz)
   have HS:=Lib.hid (And.intro Y (And.intro hx hz));clear Y hx hz X K m;have aT:=dy hg F;go_wp2_with fail
   generalize wr.alloc (.cells #[.slice ax x.length cx] 24)=wx at *;refine Calls.mono b ?_;rintro e6 w6 ⟨v6,rfl,qL,rfl⟩;clear b ar F p;have L:=dy aT qL;by_cases hq:∀y∈V,gP P U (fW P y x)
   ·have hd:decide (∀y∈V,gP P U (fW P y x))=true:=decide_eq_true hq
    have r:n+1=((T.take (i+1)).filter (λx=>decide (∀y∈V,gP P U (fW P y x)))).length:=by
     rw[HS.out.1,List.length_append,<-hN.out,List.filter_cons_of_pos (by simpa using hq)];rfl
    have Z:=Lib.hid r;clear r hq;rw[hd];clear hd;go_wp2;go_roundw
    case rel=>exact⟨i+1,n+1,by go_num,by go_num,by omega,by omega,L,Z⟩
    case measure=>simp[intOf];omega
   ·have hd:decide (∀y∈V,gP P U (fW P y x))=false:=decide_eq_false hq
    have r:n=((T.take (i+1)).filter (λx=>decide (∀y∈V,gP P U (fW P y x)))).length:=by
     rw[HS.out.1,List.length_append,<-hN.out,List.filter_cons_of_neg (by simpa using hq)];rfl
    have Z:=Lib.hid r;clear r hq;rw[hd];clear hd;go_wp2;go_roundw
    case rel=>exact⟨i+1,n,by go_num,rfl,by omega,by omega,L,Z⟩
    case measure=>simp[intOf];omega
  ·have aU:i=T.length:=by omega
   have M:n=jU P U V:=by
    unfold jU;rw[hN.out,aU,List.take_length,HT.out.1]
   have HF:=Lib.hid M;clear M;have aV:=dy aq hg;go_wp2;go_ret2
   exact⟨_,rfl,aV,by rw[HF.out];rfl⟩
end Go.Proofs.YtoakmefajbbggaaGreat
namespace Go.Proofs.YtoakmefajbbggaaGreat
open Go.RowKit
theorem Oz (P:Pr) (w:World) (pv:Value) (Sp:Nat->Prop) (aO:gy Sp w pv P) :
  Calls Tryz.prog 22 #[pv] w (fq w λw' v=>∃a n c,v=.tuple #[.slice a n c,.int .i64 (pz P)]/\iL w.heap.size w' (.slice a n c) (jJ P)):=by
 obtain⟨vo,vp,vc,rfl,h3⟩:=aO;have X:=fB.box h3 28;have aP:Ext w (w.alloc (.cells #[vo,vp,vc] 28)):=World.grownBy_alloc _ _ _;have M:=EX P _ _ Any X;obtain⟨Y,fN,fM,_,_,E,Z,aa,fP⟩:=X.at;simp only[Nat.zero_add] at Z aa;have al:∀w',Ext (w.alloc (.cells #[vo,vp,vc] 28)) w'->w'.cell? ⟨w.heap.size,0,none⟩=some Y/\w'.cell? ⟨w.heap.size,1,none⟩=some fN/\w'.cell? ⟨w.heap.size,2,none⟩=some fM:=λw' h=>⟨h.cell E (by simp),h.cell Z (by simp),h.cell aa (by simp)⟩;have am:∀w',Ext (w.alloc (.cells #[vo,vp,vc] 28)) w'->gy Any w' (.agg #[Y,fN,fM]) P:=λw' h=>⟨_,_,_,rfl,fA.ext fP h⟩;have HB:=Lib.hid (And.intro al am);clear al am E Z aa fP;go_enter Tryz.func22,Tryz.ntmps22;go_wp2_with fail
 generalize aQ:w.alloc (.cells #[vo,vp,vc] 28)=w0 at *;clear aQ;refine Calls.mono M ?_;rintro e1 w1 ⟨v1,rfl,H,lp,rfl,hno,hyes⟩;clear M;have O:=dy aP H;by_cases q:iC P=0
 ·obtain ⟨lb,L,rfl,hL,hA⟩:=hyes q
  obtain⟨bi,lv,mv,hX,hO,hM⟩:=hA;have hr:=(qD q).1;have G:=lZ hr;have aS:=(qD q).2;have e:=tG q hL;have y:=Co q hL;have I:=EG P G aS L hL w1 w0.heap.size lb _ lv mv Any hX (X.ext H) hO H.size;rw[<-e.1] at I;have ab:=λh=>Am (P:=P) q h;have r:=λh=>Ao (P:=P) q h;have an:=(Ae P).1;obtain⟨c,hc⟩:∃c,c=iC P:=⟨_,rfl⟩;have E:c=0:=by rw[hc];exact q
  rw[<-hc];obtain⟨F,hF⟩:∃F,F=iR P:=⟨_,rfl⟩;rw[<-hF] at I ab r y an;have Q:=Lib.hid (And.intro ab (And.intro r (And.intro y hr)));clear ab r y e hO hL hM hno hyes q hX hr hc hF;subst E;go_wp2_with fail
  refine Calls.mono I ?_;rintro e2 w2 ⟨v2,rfl,hg2,a,n,cc,za,zn,zc,rfl,R,hZ⟩;clear I hZ;have ac:=uO.rows (R.iB (by omega));clear R;obtain⟨ra,rc,Db,_,_⟩:=Sl.shape ac;cases Db
  have z:=dy O hg2;have ap:=dy H hg2;by_cases A:24<F.length
  ·have aq:(24:Int)<F.length:=by omega
   have h3:=Q.out.1 A;have H3:=Lib.hid h3;clear h3;go_wp2;refine bodyPost_ret (v := .tuple #[.slice none 0 0,.int .i64 3]) (by simp[results,Tryz.results22,go_sem]) rfl ?_;exact⟨_,rfl,z,none,0,0,by rw[H3.out.1],by rw[H3.out.2];exact gN.nil _ _ _ _⟩
  ·have aq:¬(24:Int)<F.length:=by omega
   have r:=Q.out.2.1 A;have hN:F.length<=24:=by omega
   have HK:=Lib.hid r;clear r an A;have HR:=Lib.hid ac;clear ac;obtain⟨N,B⟩:∃N,N=F.length:=⟨_,rfl⟩;have ar:(F.map (λu=>jd P u F)).length=N:=by rw[List.length_map,B]
   rw[<-B] at hN aq;rw[<-B];have HN:=Lib.hid (And.intro B ar);clear B ar;go_wp2;go_loopw [8,33] (λov iv wr=>∃(i:Nat) (v4:Value),v4=ov/\iv=.int .i64 i/\i<=N/\Ext w2 wr/\iL w2.heap.size wr v4 ((F.map (λu=>jd P u F)).take i)) (λ_ iv _=>N-(intOf iv).toNat)
   case atStart=>exact⟨0,_,rfl,rfl,by omega,Ext.refl _,gN.nil _ _ _ _⟩
   case round=>
    obtain⟨i,v4,rfl,rfl,hi,hg,hO⟩:=hrel;by_cases ad:i<N
    ·have bb:(i:Int)<N:=by omega
     have ae:i<F.length:=by rw[<-HN.out.1];exact ad
     obtain⟨bx,ox,a2,jx,hab,_,_,au,av⟩:=fU.at (fU.ext HR.out hg) i ae;subst hab;have hU:=Q.out.2.2.1 _ (fT ae);have l:=FK P F i ae;obtain⟨U,aw⟩:∃U,U=gt F i:=⟨_,rfl⟩;rw[<-aw] at au av hU l;have HU:=Lib.hid (And.intro hU l);clear hU l aw;go_wp2;clear au;obtain⟨J,rfl⟩:∃J:World,J=wr:=⟨_,rfl⟩;have ax:=dy ap hg;go_loopw [11,39] (λrv jv wr=>∃(j:Nat) (v7:Value),v7=rv/\jv=.int .i64 j/\j<=N/\Ext J wr/\Own J.heap.size wr v7 ((jd P U F).take j)) (λ_ jv _=>N-(intOf jv).toNat)
     case atStart=>exact⟨0,_,rfl,rfl,by omega,Ext.refl _,World.ownsRow_nil _ _ _ _⟩
     case round=>
      obtain⟨j,v7,rfl,rfl,hj,C,R⟩:=hrel;have S:=dy ax C;have az:=dy hg C;by_cases aA:j<N
      ·have aW:(j:Int)<N:=by omega
       have af:j<F.length:=by rw[<-HN.out.1];exact aA
       obtain⟨bm,oy,a3,Hh,hab,_,_,aB,aC⟩:=fU.at (fU.ext HR.out az) j af;cases hab
       have hV:=Q.out.2.2.1 _ (fT af);have l:=FJ P U F j af;obtain⟨V,aD⟩:∃V,V=gt F j:=⟨_,rfl⟩;rw[<-aD] at aB aC hV l;obtain⟨m,hm⟩:∃m:Int,m=((jU P U V:Nat):Int):=⟨_,rfl⟩;have p:((jd P U F).take j).length<=1000000:=by rw[List.length_take,uU];omega
       have ag:=Oy P Q.out.2.2.2 wr (.agg #[Y,fN,fM]) _ _ U V Any _ _ (HB.out.2 wr S) (dK.ext av C) aC HU.out.1 hV (by omega);rw[<-hm] at ag l;have HV:=Lib.hid (And.intro l p);clear l p hm hV aD;obtain⟨aY,mZ,ng⟩:=HB.out.1 wr S;go_wp2_with fail
       clear aY mZ ng;clear aB;refine Calls.mono ag ?_;rintro eA wA ⟨vA,rfl,gK,rfl⟩;clear ag;have ah:=R.gw gK;have T:=dy C gK;go_wp2_with (at_builtin;go_must (refine qB rfl _ _ rfl J.heap.size _ ((jd P U F).take j) m rfl wA ah rfl rfl HV.out.2 T.size ?_);intro v8 w8 aE aF)
       have aG:Ext J w8:=fu T aF (λb hb ad=>by have:=(ah.lt b hb).1;omega);rw[<-HV.out.1] at aE;clear R ah aF;go_roundw
       case rel=>exact⟨j+1,v8,rfl,by go_num,by omega,aG,aE⟩
       case measure=>simp[intOf];omega
      ·have a0:j=N:=by omega
       subst a0;have a1:(jd P U F).length=j:=by rw[uU,HN.out.1]
       have aH:Own J.heap.size wr v7 (jd P U F):=by rw[List.take_of_length_le (by omega)] at R;exact R
       have D:gf (From J.heap.size) wr v7 (jd P U F):=gf.of aH (by omega) (λk hk _=>hk);obtain⟨a7,c7,rD,_,_⟩:=D.ints.shape;subst rD;have p:((F.map (λu=>jd P u F)).take i).length<=1000000:=by rw[List.length_take];omega
       have HZ:=Lib.hid p;clear p a1 R;go_wp2_with (at_builtin;go_must (refine rA rfl _ _ rfl w2.heap.size J wr _ _ ((F.map (λu=>jd P u F)).take i) (jd P U F) rfl hO C D rfl rfl HZ.out hg.size ?_);intro v5 w5 aI aJ _)
       have aK:Ext w2 w5:=fu hg aJ (λb hb ad=>by have:=(hO.lt b hb).1;omega);rw[<-HU.out.2] at aI;clear hO D aJ aH;go_roundw
       case rel=>exact⟨i+1,v5,rfl,by go_num,by omega,aK,aI⟩
       case measure=>simp[intOf];omega
    ·have a4:i=N:=by omega
     subst a4
     have W:iL w2.heap.size wr v4 (jJ P):=by
      rw[List.take_of_length_le (by rw[HN.out.2];exact Nat.le_refl _)] at hO;rw[HK.out.2];exact hO
     have ai:iL w.heap.size wr v4 (jJ P):=W.weak z.size;have a5:=Cn P;obtain⟨ta,tc,aL,_,_⟩:=Sl.shape (gY.rows (gN.iB ai (by omega)));obtain⟨K,hK⟩:∃K,K=(jJ P).length:=⟨_,rfl⟩;rw[<-hK] at aL;subst aL;have HE:=Lib.hid ai;clear hO W ai a5 hK;go_wp2;refine bodyPost_ret (v := .tuple #[.slice ta K tc,.int .i64 0]) (by simp[results,Tryz.results22,go_sem]) rfl ?_;exact⟨_,rfl,dy z hg,_,_,_,by rw[HK.out.1],HE.out⟩
 ·have a6:=hno q
  subst a6;have e:=Al q;obtain⟨c,hc⟩:∃c,c=iC P:=⟨_,rfl⟩;rw[<-hc] at q e ⊢;have bw:(c != 0)=true:=by simpa using q
  have Q:=Lib.hid e;clear hc e hno hyes;go_wp2;refine bodyPost_ret (v := .tuple #[.slice none 0 0,.int .i64 c]) (by simp[results,Tryz.results22,go_sem]) rfl ?_;exact⟨_,rfl,O,none,0,0,by rw[Q.out.1],by rw[Q.out.2];exact gN.nil _ _ _ _⟩
def qq (P:Pr):List Nat->Nat->List Int->List Int
 | [],_,out=>out
 | i :: r,t,out=>qq P r (t/iF P i) (out.set i ((t%iF P i:Nat):Int))
theorem Hi (P:Pr) (j:Nat) (x:Int):∀(r:List Nat) (t:Nat) (out:List Int),¬j∈r->qq P r t (out.set j x)=(qq P r t out).set j x
 | [],_,_,_=>rfl
 | i :: r,t,out,h=>by
  have a:j≠i:=λe=>h (by rw[e];exact List.mem_cons_self ..);show qq P r (t/iF P i) ((out.set j x).set i _)=(qq P r (t/iF P i) (out.set i _)).set j x
  rw[List.set_comm _ _ a,Hi P j x r _ _ (λe=>h (List.mem_cons_of_mem _ e))]
theorem Hl (P:Pr):∀(r:List Nat) (t:Nat),r.Nodup->qq P r t (zeros P.orders.length)=jI P r t
 | [],_,_=>rfl
 | i :: r,t,h=>by
  obtain⟨h1,h2⟩:=List.nodup_cons.1 h;show qq P r (t/iF P i) ((zeros P.orders.length).set i _)=(jI P r (t/iF P i)).set i _
  rw[Hi P i _ r _ _ h1,Hl P r _ h2]
theorem OA (P:Pr) (U:List (List Int)):(fV P U).Nodup:=List.Pairwise.filter _ List.nodup_range
theorem OB (P:Pr) (U:List (List Int)):(fV P U).length<=P.orders.length:=by
 unfold fV;exact Nat.le_trans (List.length_filter_le _ _) (by rw[List.length_range];exact Nat.le_refl _)
theorem OC {l:List Nat}{k:Nat}(h:k<l.length):(l.take (k+1)).reverse=gt l k :: (l.take k).reverse:=by
 rw[je l k h,List.reverse_append];rfl
theorem OD (P:Pr) {l:List Nat}{k:Nat}(h:k<l.length) (t:Nat) (out:List Int):qq P (l.take (k+1)).reverse t out=qq P (l.take k).reverse (t/iF P (gt l k)) (out.set (gt l k) ((t%iF P (gt l k):Nat):Int)):=by
 rw[OC h];rfl
theorem OE {P:Pr}{U:List (List Int)}(b:iY P U) {d:Nat}(i:d<P.orders.length):(gt (lN U P.orders.length U.length) d).length=0↔¬d∈U.map dep:=by
 rcases AV P U U.length (Nat.le_refl _) d i with⟨h,h2⟩|⟨j,a,sA,k⟩
 ·rw [h]
  refine⟨λ_ l => ?_,λ_=>rfl⟩;obtain⟨z,hz,e⟩:=List.mem_map.1 l;obtain⟨j,a,rfl⟩:=oW hz;exact h2 j a e
 ·rw [k]
  refine⟨λp => ?_,λm=>absurd (List.mem_map.2 ⟨_,fT a,sA⟩) m⟩;have q:=(b.1 _ (fT a)).1.1;omega
section
variable {P:Pr}(G:ez P)
include G
theorem ez.OG {U V:List (List Int)}(e:fO P U) (i:fO P V) {x:List Int}(hx:dL P.orders x):(∀z∈fD P (gi P (λz=>z∈gW P V x)),gP P U z)↔∀y∈V,gP P U (fW P y x):=by
 have S:=G.gG e
 have j:∀z∈gW P V x,dL P.orders z:=λz a=>by
  unfold gW at a;obtain⟨y,hy,rfl⟩:=List.mem_map.1 a;exact G.oA (i.1 y hy) hx
 have R:Sub P (gi P (λz=>z∈gW P V x)):=G.qu j;constructor
 ·intro h y hy
  have h1:gi P (λz=>z∈fD P (gi P (λz=>z∈gW P V x))) (fW P y x):=by
   rw[G.oC R];exact λA k a=>a _ (by unfold gW;exact List.mem_map.2 ⟨y,hy,rfl⟩)
  exact h1 _ S h
 ·intro h z a
  refine(G.iV R).2.1 z a _ S (λt b => ?_);unfold gW at b;obtain⟨y,hy,rfl⟩:=List.mem_map.1 b;exact h y hy
open Classical in
noncomputable def oJ (P:Pr) (U V:List (List Int)) (k:Nat):Nat:=((List.range k).filter (λt=>decide (∀y∈V,gP P U (fW P y (jI P (fV P U).reverse t))))).length
omit G in
open Classical in
theorem OH {U V:List (List Int)}{k:Nat}(h:∀y∈V,gP P U (fW P y (jI P (fV P U).reverse k))):oJ P U V (k+1)=oJ P U V k+1:=by
 unfold oJ;rw[List.range_succ,List.filter_append,List.filter_cons_of_pos (by simpa using h),List.length_append];rfl
omit G in
open Classical in
theorem OI {U V:List (List Int)}{k:Nat}(h:¬ ∀y∈V,gP P U (fW P y (jI P (fV P U).reverse k))):oJ P U V (k+1)=oJ P U V k:=by
 unfold oJ;rw[List.range_succ,List.filter_append,List.filter_cons_of_neg (by simpa using h),List.length_append];rfl
omit G in
open Classical in
theorem OJ (U V:List (List Int)):oJ P U V (kY P (fV P U).reverse)=jU P U V:=by
 have e:=uQ P (fV P U).reverse;rw[List.reverse_reverse] at e;unfold oJ jU;rw[e,List.filter_map,List.length_map];rfl
omit G in
open Classical in
theorem OL (U V:List (List Int)) (k:Nat):oJ P U V k<=k:=by
 unfold oJ;exact Nat.le_trans (List.length_filter_le _ _) (by rw[List.length_range];exact Nat.le_refl _)
theorem ez.OM {U:List (List Int)}(a:fO P U):((kY P (fV P U).reverse:Nat):Int)<=eW P:=by
 have h:=FI G a;have b:=G.v.kT;rw[<-h];exact Int.ediv_le_self _ (by omega)
end
theorem OO (P:Pr) (G:ez P) (w:World) (pv Y Z:Value) (U:List (List Int)) (K:List Int->Prop) (Sp Su Sv:Nat->Prop) (S:Sub P K) (F:gy Sp w pv P) (H:dK Su w Y U) (hU:∀z∈U,dL P.orders z) (I:dK Sv w Z (fD P K)) :
  Calls Tryz.prog 156 #[pv,Y,Z] w (fq w λ_ v=>∃r:Bool,v=.bool r/\(r=true↔∀z∈U,K z)):=by
 obtain⟨vo,vp,vc,rfl,h3⟩:=F;have y:=fB.box h3 28;have a:Ext w (w.alloc (.cells #[vo,vp,vc] 28)):=World.grownBy_alloc _ _ _;obtain⟨A,fN,fM,_,_,hc0,l,m,fP⟩:=y.at;simp only[Nat.zero_add] at l m;have B:∀w',Ext (w.alloc (.cells #[vo,vp,vc] 28)) w'->w'.cell? ⟨w.heap.size,0,none⟩=some A/\w'.cell? ⟨w.heap.size,1,none⟩=some fN/\w'.cell? ⟨w.heap.size,2,none⟩=some fM:=λw' h=>⟨h.cell hc0 (by simp),h.cell l (by simp),h.cell m (by simp)⟩;have J:=Lib.hid B;clear B y;have L:=dK.ext H a;have M:=dK.ext I a;obtain⟨au,jA,rfl,_,_⟩:=Sl.shape H;obtain⟨av,pE,rfl,_,_⟩:=Sl.shape I;have HU:=Lib.hid hU;clear H I hU;go_enter Tryz.func156,Tryz.ntmps156;go_wp2;clear hc0 l m;generalize N:w.alloc (.cells #[vo,vp,vc] 28)=w0 at *;clear N;go_loopw [7] (λO wr=>∃i:Nat,O=.int .i64 i/\i<=U.length/\Ext w0 wr/\Hid (∀j,j<i->K (gt U j))) (λO _=>U.length-(intOf O).toNat)
 case atStart=>exact⟨0,by go_num,by omega,Ext.refl _,Lib.hid (λj Q=>by omega)⟩
 case round=>
  obtain⟨i,rfl,hi,e,hN⟩:=hrel;by_cases p:i<U.length
  ·have ab:(i:Int)<U.length:=by omega
   obtain⟨b,off,a2,C,hab,_,_,hc,hx⟩:=dK.at L i p;subst hab;have q:=HU.out _ (iW p);have e1:∀w',Ext wr w'->w'.cell? ⟨w.heap.size,0,none⟩=some A:=λw' h=>(J.out w' (dy e h)).1;have e2:∀w',Ext wr w'->w'.cell? ⟨w.heap.size,1,none⟩=some fN:=λw' h=>(J.out w' (dy e h)).2.1;have e3:∀w',Ext wr w'->w'.cell? ⟨w.heap.size,2,none⟩=some fM:=λw' h=>(J.out w' (dy e h)).2.2;have R:∀w',Ext wr w'->w'.cell? ⟨b,off+i,none⟩=some (.slice a2 (gt U i).length C):=λw' h=>(dy e h).cell hc (by simp);obtain⟨x,u⟩:∃x,x=gt U i:=⟨_,rfl⟩;rw[<-u] at hx q R;have T:=Lib.hid (And.intro u q);clear u q hc;go_wp2
   go_region_held3 (λw'=>Ext wr w') (first|exact fk _ _|exact Ext.refl _|assumption)
    (first
     | (go_at_call 212;refine Calls.mono (Calls.rel (w0:=wr) (by assumption) (OP P G _ _ _ _ K x Any _ _ S ⟨_,_,_,rfl,fA.ext fP (dy e (by assumption))⟩ (dK.ext M (dy e (by assumption))) (Ints.ext hx (dy e (by assumption))) T.out.2)) ?_;rintro R w4 ⟨v4,rfl,D,hs4,r,rfl,hr⟩))
   clear e1 e2 e3 R;cases r with
   | true=>
    have V:=hr.1 rfl;rw[T.out.1] at V
    have W:Hid (∀j,j<i+1->K (gt U j)):=Lib.hid (λj Q=>by
     rcases Nat.lt_succ_iff_lt_or_eq.1 Q with h|h
     ·exact hN.out j h
     ·subst h;exact V)
    clear hr V;go_wp2;go_roundw
    case rel=>exact⟨i+1,by go_num,by omega,dy e D,W⟩
    case measure=>simp[intOf];omega
   | false=>
    have E:¬ ∀z∈U,K z:=λh=>by
     have:=hr.2 (by rw[T.out.1];exact h _ (iW p));cases this
    have X:=Lib.hid E;clear hr E;go_wp2;go_ret;exact⟨_,rfl,dy a (dy e D),false,rfl,by simpa using X.out⟩
  ·have k:∀z∈U,K z:=λz hz=>by
    obtain⟨j,Q,rfl⟩:=oW hz;exact hN.out j (by omega)
   have am:¬(i:Int)<U.length:=by omega
   have HY:=Lib.hid k;clear k hN;go_wp2;go_ret
   first|exact⟨_,rfl,dy a e,true,rfl,by simpa using HY.out⟩|exact⟨_,rfl,dy a e,.inr ⟨rfl,HY.out⟩⟩
theorem OQ (P:Pr) (G:ez P) (w:World) (pv uv:Value) (U:List (List Int)) (Sp Su:Nat->Prop) (O:gy Sp w pv P) (Q:dK Su w uv U) (R:fO P U) :
  Calls Tryz.prog 216 #[pv,uv] w (fq w λw' v=>Own w.heap.size w' v (fL (fV P U))):=by
 have hP:=G.v;have S:=hP.n6;obtain⟨h1,_,_⟩:=G.iV (G.gG R);rw[<-R.2] at h1;have V:=G.lz R;have k:=λd (hd:d<P.orders.length)=>OE h1 hd;have l:=Dc U P.orders.length U.length;obtain⟨vo,vp,vc,rfl,h3⟩:=O;have y:=fB.box h3 28;have q:Ext w (w.alloc (.cells #[vo,vp,vc] 28)):=World.grownBy_alloc _ _ _;have W:=dK.ext Q q;obtain⟨au,jA,rfl,_,_⟩:=Sl.shape Q;obtain⟨X,fN,fM,_,_,hc0,z,A,fP⟩:=y.at;simp only[Nat.zero_add] at z A;have a:=Ho P hP (w.alloc (.cells #[vo,vp,vc] 28)) (.agg #[X,fN,fM]) _ U Any Su ⟨_,_,_,rfl,fP⟩ W h1 (by omega);obtain⟨T,hT⟩:∃T,T=lN U P.orders.length U.length:=⟨_,rfl⟩;obtain⟨N,Y⟩:∃N,N=P.orders.length:=⟨_,rfl⟩;rw[<-hT] at a k l;rw[<-Y] at k l S;have J:=Lib.hid (And.intro k (And.intro l Y));clear k l hT Y y Q h1 V;go_enter Tryz.func216,Tryz.ntmps216;go_wp2_with fail
 clear hc0 z A;generalize Z:w.alloc (.cells #[vo,vp,vc] 28)=w0 at *;clear Z;refine Calls.mono a ?_;rintro e1 B ⟨tv,rfl,C,Dd⟩;clear a;obtain⟨ta,tc,D,_,_⟩:=Sl.shape Dd;rw[J.out.2.1] at D;subst D;have HT:=Lib.hid Dd;clear Dd;go_wp2;go_loopw [6,7] (λov dv wr=>∃(d:Nat) (K:Value),K=ov/\dv=.int .i64 (d:Int)/\d<=N/\Ext B wr/\Own B.heap.size wr K (fL (jW U d))) (λ_ dv _=>N-(intOf dv).toNat)
 case atStart=>exact⟨0,_,rfl,rfl,by omega,World.grownBy_alloc _ _ _,B1 (Nat.le_refl _) rfl⟩
 case round=>
  obtain⟨d,K,rfl,rfl,hd,E,hO⟩:=hrel;by_cases r:d<N
  ·have ak:(d:Int)<N:=by omega
   obtain⟨bb,off,a2,jx,hab,_,_,hc,_⟩:=dK.at (dK.ext HT.out E) d (by rw[J.out.2.1];exact r);subst hab;have b:=J.out.1 d r;have m:=yL U d;obtain⟨L,hL⟩:∃L,L=(gt T d).length:=⟨_,rfl⟩;rw[<-hL] at hc b;clear hL;by_cases u:d∈U.map dep
   ·have F:(L:Int)≠0:=by
     have:L≠0:=λe=>(b.1 e) u;omega
    have i:=G6 u;have M:=Lib.hid i;clear i b u m;have hb:((L:Int) == 0)=false:=by simpa using F
    clear F;go_wp2;go_roundw
    case rel=>exact⟨d+1,_,rfl,by go_num,by omega,E,by rw[M.out];exact hO⟩
    case measure=>simp[intOf];omega
   ·obtain rfl:L=0:=b.2 u
    have i:fL (jW U (d+1))=fL (jW U d)++[(d:Int)]:=by rw[G5 u];unfold fL;rw[List.map_append];rfl
    have H:(fL (jW U d)).length<=1000000:=by rw[iE];omega
    have M:=Lib.hid (And.intro i H);clear i H b u m;go_wp2_with (at_builtin;go_must (refine qB rfl _ _ rfl B.heap.size _ (fL (jW U d)) (d:Int) rfl wr hO rfl rfl M.out.2 E.size ?_);intro v5 w5 I ab)
    have ac:Ext B w5:=fu E ab (λj hj r=>by have:=(hO.lt j hj).1;omega);rw[<-M.out.1] at I;go_roundw
    case rel=>exact⟨d+1,_,rfl,by go_num,by omega,ac,I⟩
    case measure=>simp[intOf];omega
  ·have ad:d=N:=by omega
   have p:Own B.heap.size wr K (fL (fV P U)):=by
    have e:fV P U=jW U d:=by rw[ad,J.out.2.2];rfl
    rw[e];exact hO
   have ae:=dy q (dy C E);have af:=(dy q C).size;have HX:=Lib.hid (p.weak af);clear p hO;go_wp2;go_ret;exact⟨_,rfl,ae,HX.out⟩
theorem OS (P:Pr) (G:ez P) (w:World) (pv F:Value) (U:List (List Int)) (I H:Nat->Prop) (r:gy I w pv P) (u:dK H w F U) (p:fO P U) :
  Calls Tryz.prog 155 #[pv,F] w (fq w λ_ v=>v=.int .i64 ((kY P (fV P U).reverse:Nat):Int)):=by
 have hP:=G.v;have k:eW P<=729:=hP.mO;have z:=hP.kT;obtain⟨h1,_,_⟩:=G.iV (G.gG p);rw[<-p.2] at h1;have A:=G.lz p;have B:=hP.n6;have J:=ry hP h1 U.length (Nat.le_refl _);have q:=FI G p;obtain⟨vo,vp,vc,rfl,h3⟩:=r;have l:=fB.box h3 28;have m:Ext w (w.alloc (.cells #[vo,vp,vc] 28)):=World.grownBy_alloc _ _ _;have C:=dK.ext u m;obtain⟨K,jA,rfl,_,_⟩:=Sl.shape u;obtain⟨a,fN,fM,_,_,hc0,b,e,fP⟩:=l.at;simp only[Nat.zero_add] at b e;have i:∀w',Ext (w.alloc (.cells #[vo,vp,vc] 28)) w'->Calls Tryz.prog 91 #[.agg #[a,fN,fM]] w' (fq w' λ_ v=>v=.int .i64 (eW P)):=λw' h=>rX w' _ P Any hP ⟨_,_,_,rfl,fA.ext fP h⟩;have j:∀w',Ext (w.alloc (.cells #[vo,vp,vc] 28)) w'->Calls Tryz.prog 211 #[.agg #[a,fN,fM],.slice K U.length jA] w' (fq w' λ_ v=>v=.int .i64 (fJ P U U.length)):=λw' h=>AW P hP w' _ _ U Any H ⟨_,_,_,rfl,fA.ext fP h⟩ (dK.ext C h) h1 (by omega);obtain⟨x,hx⟩:∃x,x=eW P:=⟨_,rfl⟩;obtain⟨y,hy⟩:∃y,y=fJ P U U.length:=⟨_,rfl⟩;rw[<-hx] at k z q i;rw[<-hy] at J q j;have L:(y == 0)=false:=by simp;omega
 have M:¬y=0:=by omega
 have Q:x.tdiv y=x/y:=Int.tdiv_eq_ediv_of_nonneg (by omega);have N:0<=x/y:=Int.ediv_nonneg (by omega) (by omega);have O:x/y<=x:=Int.ediv_le_self _ (by omega);have R:IntKind.i64.wrap (x/y)=x/y:=IntWalk.i64_in _ (by omega);have D:=Lib.hid (And.intro q (And.intro i j));clear hx hy q i j l u h1 A B;go_enter Tryz.func155,Tryz.ntmps155;go_wp2;generalize E:w.alloc (.cells #[vo,vp,vc] 28)=w0 at *;clear E;have f1:∀w',Ext w0 w'->w'.cell? ⟨w.heap.size,0,none⟩=some a:=λw' h=>h.cell hc0 (by simp);have f2:∀w',Ext w0 w'->w'.cell? ⟨w.heap.size,1,none⟩=some fN:=λw' h=>h.cell b (by simp);have f3:∀w',Ext w0 w'->w'.cell? ⟨w.heap.size,2,none⟩=some fM:=λw' h=>h.cell e (by simp);clear hc0 b e
 go_region_held3 (λw'=>Ext w0 w') (first|exact fk _ _|assumption)
  (first
   | (go_at_call 211;refine Calls.mono (Calls.rel (w0:=w0) (by assumption) (D.out.2.2 _ (by assumption))) ?_;rintro S T ⟨V,rfl,hgB,_,rfl⟩)
   | (go_at_call 91;refine Calls.mono (Calls.rel (w0:=w0) (by assumption) (D.out.2.1 _ (by assumption))) ?_;rintro W X ⟨Y,rfl,gK,_,rfl⟩))
 clear f1 f2 f3;go_wp2;go_ret;exact⟨_,rfl,dy m hgB,by rw[D.out.1];rfl⟩
theorem Hp {q:Nat}(h:q<=1000000):IntKind.i64.wrap (q:Int)=(q:Int):=IntWalk.i64_in _ (by omega)
theorem OT {P:Pr}(G:ez P) {i:Nat}(a:i<P.orders.length):gt P.orders i=((iF P i:Nat):Int)/\2<=iF P i/\iF P i<=7:=by
 have b:=G.v.gh i a;unfold iF;omega
theorem OU (P:Pr) (G:ez P) (w:World) (pv uv:Value) (U:List (List Int)) (t0:Nat) (Sp Su:Nat->Prop) (ay:gy Sp w pv P) (hu:dK Su w uv U) (hU:fO P U) (ht:t0<=1000000) :
  Calls Tryz.prog 158 #[pv,uv,.int .i64 (t0:Int)] w (fq w λw' v=>Own w.heap.size w' v (jI P (fV P U).reverse t0)):=by
 have hP:=G.v;have aX:=hP.n6;have aA:=OB P U;have C:∀k,k<(fV P U).length->gt (fV P U) k<P.orders.length:=λk hk=>(xX.1 (fT hk)).1;have a:qq P (fV P U).reverse t0 (zeros P.orders.length)=jI P (fV P U).reverse t0:=Hl P _ t0 ((List.reverse_perm _).nodup_iff.2 (OA P U));obtain⟨vo,vp,vc,rfl,h3⟩:=ay;have aa:=fB.box h3 28;have D:Ext w (w.alloc (.cells #[vo,vp,vc] 28)):=World.grownBy_alloc _ _ _;have aB:=dK.ext hu D;obtain⟨au,jA,rfl,_,_⟩:=Sl.shape hu;obtain⟨H,fN,fM,_,_,hc0,I,J,fP⟩:=aa.at;simp only[Nat.zero_add] at I J;obtain⟨F,hF⟩:∃F,F=fV P U:=⟨_,rfl⟩;obtain⟨E,ab⟩:∃E,E=jI P (fV P U).reverse t0:=⟨_,rfl⟩;have ac:∀w',Ext (w.alloc (.cells #[vo,vp,vc] 28)) w'->w'.cell? ⟨w.heap.size,0,none⟩=some H/\w'.cell? ⟨w.heap.size,1,none⟩=some fN/\w'.cell? ⟨w.heap.size,2,none⟩=some fM:=λw' h=>⟨h.cell hc0 (by simp),h.cell I (by simp),h.cell J (by simp)⟩;have K:=De P hP (w.alloc (.cells #[vo,vp,vc] 28)) (.agg #[H,fN,fM]) Any ⟨_,_,_,rfl,fP⟩
 have i:∀w',Ext (w.alloc (.cells #[vo,vp,vc] 28)) w'->Calls Tryz.prog 216 #[.agg #[H,fN,fM],.slice au U.length jA] w' (fq w' λaC v=>Own w'.heap.size aC v (fL F)):=λw' h=>by
  rw[hF];exact OQ P G w' _ _ U Any Su ⟨_,_,_,rfl,fA.ext fP h⟩ (dK.ext aB h) hU
 rw[<-ab] at a ⊢;rw[<-hF] at aA C a;obtain⟨ao,co,nN,_,_⟩:=fP.o.shape;subst nN;have y:=fP.o;have ad:(zeros P.orders.length).length=P.orders.length:=by simp[zeros]
 have z:=Lib.hid (And.intro ac (And.intro a (And.intro C (And.intro y (And.intro ad i)))));clear ac a C aa hu hF ab y fP ad i;go_enter Tryz.func158,Tryz.ntmps158;go_wp2_with fail
 clear hc0 I J;generalize aD:w.alloc (.cells #[vo,vp,vc] 28)=w0 at *;clear aD;refine Calls.mono K ?_;rintro L V ⟨ov,rfl,p,M⟩;clear K;obtain⟨aE,mZ,ng⟩:=z.out.1 V p;go_wp2_with fail
 clear aE mZ ng;refine Calls.mono (z.out.2.2.2.2.2 V p) ?_;rintro N w2 ⟨fv,rfl,hg2,O⟩;have aF:=M.gw hg2;have Q:Ints (λk=>V.heap.size<=k) w2 fv (fL F):=iD O (by rw[iE];omega) (λk hk=>(O.lt k hk).1);obtain⟨fa,fc,i,_,_⟩:=Q.shape;rw[iE] at i;subst i;have a2:=p.size
 have ae:∀w',World.grownBy w2 w' ov.ownBlock->Ints (λk=>V.heap.size<=k) w' (.slice fa F.length fc) (fL F):=λw' h=>
  Ints.mono Q (iQ h (λk hk af=>⟨hk,λe=>by have:=(M.lt k e).2;have hk:V.heap.size<=k:=hk;omega⟩))
 have ag:=dy p hg2;have R:=M.lt;clear O Q;have ah:=Lib.hid (And.intro ae R);clear ae R;have A:P.orders.length<=(zeros P.orders.length).length/\(zeros P.orders.length).length<=P.orders.length:=by rw[z.out.2.2.2.2.1];exact⟨Nat.le_refl _,Nat.le_refl _⟩
 go_wp2;go_loopw [2,9] (λtv iv wr=>∃(k t:Nat) (X:List Int),tv=.int .i64 (t:Int)/\iv=.int .i64 ((k:Int)-1)/\k<=F.length/\t<=1000000/\Ext w0 wr/\World.grownBy w2 wr ov.ownBlock/\Own w0.heap.size wr ov X/\P.orders.length<=X.length/\X.length<=P.orders.length/\Hid (qq P (F.take k).reverse t X=E)) (λ_ iv _=>(intOf iv+1).toNat)
 case atStart=>exact⟨F.length,t0,_,rfl,rfl,Nat.le_refl _,ht,ag,by cases hb:ov.ownBlock<;>exact gZ _ _,aF,A.1,A.2,Lib.hid (by rw[List.take_length];exact z.out.2.1)⟩
 case round=>
  obtain⟨k,t,X,rfl,rfl,hk,aH,hg,S,hO,hX1,Vl,hX⟩:=hrel;by_cases af:0<k
  ·obtain ⟨j,rfl⟩:∃j,k=j+1:=⟨k-1,by omega⟩
   have q:j<F.length:=by omega
   have hd:=z.out.2.2.1 j q;obtain⟨ai,aj,ak⟩:=OT G hd;have l:=OD P q t X;rw[hX.out] at l;obtain⟨fb,fo,hab,OV,Np,m⟩:=Ints.at (ah.out.1 wr S) j (by rw[iE];exact q);have r:gt (fL F) j=((gt F j:Nat):Int):=jM _ _ _ q;rw[r] at m;obtain⟨ob,oo,Df,_,tB,b⟩:=Ints.at z.out.2.2.2.1 (gt F j) hd;rw[ai] at b;obtain⟨d,al⟩:∃d,d=gt F j:=⟨_,rfl⟩;rw[<-al] at m b hd l aj ak;obtain⟨o,am⟩:∃o,o=iF P d:=⟨_,rfl⟩;rw[<-am] at b l aj ak;obtain⟨g,cap,rfl,hbl,OW⟩:=hO.form (by omega);have R:=(ah.out.2 g rfl).2;cases hab
   cases Df
   clear al am ai r;obtain⟨an,hg3⟩:=hO.store d ((t:Int)%(o:Int));have u:Ext w0 (wr.setCell ⟨g,d,none⟩ (.int .i64 ((t:Int)%(o:Int)))):=fu hg hg3 (λj hj af=>by have:=Option.some.inj hj;omega);have B:World.grownBy w2 (wr.setCell ⟨g,d,none⟩ (.int .i64 ((t:Int)%(o:Int)))) (some g):=dy S hg3;have a4:V.heap.size<=fb:=OV;have c1:wr.drew.cell? ⟨g,d,none⟩=some (.int .i64 (gt X d)):=hO.cell d (by omega);have f1:wr.drew.frozen? ⟨g,d,none⟩=false:=hO.frozen d;have c2:wr.drew.cell? ⟨ob,oo+d,none⟩=some (.int .i64 (o:Int)):=hg.cell b (by simp);have c3:wr.drew.cell? ⟨fb,fo+j,none⟩=some (.int .i64 (d:Int)):=m;have c4:wr.drew.cell? ⟨w.heap.size,0,none⟩=some (.slice (some ⟨ob,oo,none⟩) P.orders.length co):=(z.out.1 wr hg).1;have c5:(wr.setCell ⟨g,d,none⟩ (.int .i64 ((t:Int)%(o:Int)))).cell? ⟨ob,oo+d,none⟩=some (.int .i64 (o:Int)):=u.cell b (by simp);have c6:(wr.setCell ⟨g,d,none⟩ (.int .i64 ((t:Int)%(o:Int)))).cell? ⟨fb,fo+j,none⟩=some (.int .i64 (d:Int)):=hg3.cell m (by simp;omega);have c7:(wr.setCell ⟨g,d,none⟩ (.int .i64 ((t:Int)%(o:Int)))).cell? ⟨w.heap.size,0,none⟩=some (.slice (some ⟨ob,oo,none⟩) P.orders.length co):=(z.out.1 _ u).1;have hm:(t:Int)%(o:Int)=((t%o:Nat):Int):=rfl;have hq:(t:Int)/(o:Int)=((t/o:Nat):Int):=rfl;have T:t/o<=1000000:=Nat.le_trans (Nat.div_le_self _ _) aH;have L:(t:Int).tmod (o:Int)=(t:Int)%(o:Int):=Int.tmod_eq_emod_of_nonneg (by omega);have N:(t:Int).tdiv (o:Int)=(t:Int)/(o:Int):=Int.tdiv_eq_ediv_of_nonneg (by omega);have W:IntKind.i64.wrap ((t:Int)/(o:Int))=(t:Int)/(o:Int):=by rw[hq];exact Hp T
   have Y:IntKind.i64.wrap ((t:Int)%(o:Int))=(t:Int)%(o:Int):=by rw[hm];exact Hp (Nat.le_trans (Nat.le_of_lt (Nat.mod_lt t (show 0<o by omega))) (by omega))
   have HE:=Lib.hid (And.intro L (And.intro N (And.intro W Y)));have Z:=Lib.hid (And.intro l (And.intro an (And.intro B (And.intro u (And.intro hm (And.intro hq T))))));clear l an B u hm hq T hg3 hO S L N W Y m b;have ap:((j+1:Nat):Int)-1=(j:Int):=by omega
   rw[ap];clear ap;have a5:(j:Int)<F.length:=by omega
   have K:((o:Int) == 0)=false:=by simp;omega
   have aS:¬(o:Int)=0:=by omega
   have aT:¬o=0:=by omega
   have a6:d<X.length:=by omega
   go_wp2;obtain⟨L,N,W,Y⟩:=HE.out;go_still_tail 16,(by kernel_rfl)
   change wpList _ _ _ _ _ wr.drew;clear L N W Y c2 c3 c4;go_wp2;clear c1 f1;generalize wr.setCell ⟨g,d,none⟩ (.int .i64 ((t:Int)%(o:Int)))=wx at *;obtain⟨L,N,W,Y⟩:=HE.out;go_quiet (fail)
   clear L N W Y c5 c6 c7;rename_i nq _;have r:Ext w0 (wx.drewN (1+nq)):=dy Z.out.2.2.2.1 (iI _ _ _);go_wp2;go_roundw
   case rel=>exact⟨j,t/o,X.set d (((t%o:Nat):Int)),by rw[<-Z.out.2.2.2.2.2.1],by go_num,by omega,Z.out.2.2.2.2.2.2,r,dy Z.out.2.2.1 (iI _ _ _),Z.out.2.1,by rw[List.length_set];omega,by rw[List.length_set];omega,Lib.hid Z.out.1.symm⟩
   case measure=>simp[intOf]
  ·have aN:k=0:=by omega
   subst aN;have a:X=E:=by rw[<-hX.out];rfl
   subst a;have aO:=dy D hg;have aP:=D.size;have HE:=Lib.hid (hO.weak aP);clear hO hX;go_wp2;go_ret;exact⟨_,rfl,aO,HE.out⟩
theorem OX (P:Pr) (hr:jH P=true) (w:World) (pv uv vv:Value) (U V:List (List Int)) (Sp Y Sv:Nat->Prop) (aq:gy Sp w pv P) (hu:dK Y w uv U) (hv:dK Sv w vv V) (D:fO P U) (hV:fO P V) (aN:eW P<=128) :
  Calls Tryz.prog 76 #[pv,uv,vv] w (fq w λ_ v=>v=.tuple #[.int .i64 (jU P U V:Nat),.int .i64 0]):=by
 have G:=lZ hr;have hP:=G.v;have ax:=hP.n6;have aT:=G.lz D;have aU:=G.lz hV;have ay:=G.OM D;have S:=G.gG D;obtain⟨vo,vp,vc,rfl,h3⟩:=aq;have ab:=fB.box h3 28;have I:Ext w (w.alloc (.cells #[vo,vp,vc] 28)):=World.grownBy_alloc _ _ _;have j:=dK.ext hu I;have J:=dK.ext hv I;obtain⟨au,e,rfl,_,_⟩:=Sl.shape hu;obtain⟨av,pE,rfl,_,_⟩:=Sl.shape hv;obtain⟨b,fN,fM,_,_,hc0,K,L,fP⟩:=ab.at;simp only[Nat.zero_add] at K L;have af:∀w',Ext (w.alloc (.cells #[vo,vp,vc] 28)) w'->w'.cell? ⟨w.heap.size,0,none⟩=some b/\w'.cell? ⟨w.heap.size,1,none⟩=some fN/\w'.cell? ⟨w.heap.size,2,none⟩=some fM:=λw' h=>⟨h.cell hc0 (by simp),h.cell K (by simp),h.cell L (by simp)⟩;have l:∀w',Ext (w.alloc (.cells #[vo,vp,vc] 28)) w'->gy Any w' (.agg #[b,fN,fM]) P:=λw' h=>⟨_,_,_,rfl,fA.ext fP h⟩;have M:∀w',Ext (w.alloc (.cells #[vo,vp,vc] 28)) w'->Calls Tryz.prog 155 #[.agg #[b,fN,fM],.slice au U.length e] w' (fq w' λ_ v=>v=.int .i64 ((kY P (fV P U).reverse:Nat):Int)):=λw' h=>OS P G w' _ _ U Any Y (l w' h) (dK.ext j h) D;have m:∀w',Ext (w.alloc (.cells #[vo,vp,vc] 28)) w'->∀t:Nat,t<=1000000->Calls Tryz.prog 158 #[.agg #[b,fN,fM],.slice au U.length e,.int .i64 (t:Int)] w' (fq w' λp v=>Own w'.heap.size p v (jI P (fV P U).reverse t)):=λw' h t ht=>OU P G w' _ _ U t Any Y (l w' h) (dK.ext j h) D ht
 have ag:∀w',Ext (w.alloc (.cells #[vo,vp,vc] 28)) w'->∀(x:List Int) (cv:Value),dL P.orders x->dK Any w' cv (fD P (gi P (λz=>z∈gW P V x)))->Calls Tryz.prog 156 #[.agg #[b,fN,fM],cv,.slice au U.length e] w' (fq w' λ_ v=>∃r:Bool,v=.bool r/\(r=true↔∀y∈V,gP P U (fW P y x))):=λw' h x cv hx az=>by
  have R:Sub P (gi P (λz=>z∈gW P V x)):=G.qu (λz hz=>by
   unfold gW at hz;obtain⟨y,hy,rfl⟩:=List.mem_map.1 hz;exact G.oA (hV.1 y hy) hx)
  have aA:dK Y w' (.slice au U.length e) (fD P (gP P U)):=by rw[<-D.2];exact dK.ext j h
  refine Calls.mono (OO P G w' _ cv _ _ (gP P U) Any Any Y S (l w' h) az (λz hz=>R.vec z ((G.iV R).2.1 z hz)) aA) ?_;rintro e1 w1 ⟨v1,rfl,q,r,rfl,hr1⟩;exact⟨_,rfl,q,r,rfl,hr1.trans (G.OG D hV hx)⟩
 have ah:∀w',Ext (w.alloc (.cells #[vo,vp,vc] 28)) w'->∀(x:List Int) (xv:Value),dL P.orders x->Ints Any w' xv x->Calls Tryz.prog 157 #[.agg #[b,fN,fM],.slice av V.length pE,xv] w' (fq w' λp v=>dK Any p v (fD P (gi P (λz=>z∈gW P V x)))):=λw' h x xv hx aE=>L8 P G w' _ _ _ V x Any Sv Any (l w' h) (dK.ext J h) hV.1 (by omega) aE hx;have ai:=OY P (w.alloc (.cells #[vo,vp,vc] 28)) (.agg #[b,fN,fM]) _ _ U V Any Y Sv ⟨_,_,_,rfl,fP⟩ j J;obtain⟨N,E⟩:∃N,N=kY P (fV P U).reverse:=⟨_,rfl⟩;have aj:∀t,dL P.orders (jI P (fV P U).reverse t):=λt=>(uT G t).1;have u:=OJ (P:=P) U V;rw[<-E] at ay M u;have i:=Lib.hid (And.intro af (And.intro M (And.intro m (And.intro ag (And.intro ah (And.intro aj (And.intro u ax)))))));clear af M m ag ah aj u E ab hu hv j J fP l S;go_enter Tryz.func76,Tryz.ntmps76;go_wp2_with fail
 clear hc0 K L;generalize aF:w.alloc (.cells #[vo,vp,vc] 28)=w0 at *;clear aF;refine Calls.mono ai ?_;rintro e1 w1 ⟨v1,rfl,q,r1,rfl,hr1⟩;clear ai;obtain rfl:r1=true:=hr1.2 ⟨hr,D,hV⟩;clear hr1;obtain⟨O,mZ,ng⟩:=i.out.1 w1 q;go_wp2_with fail
 clear O mZ ng;refine Calls.mono (i.out.2.1 w1 q) ?_;rintro e2 w2 ⟨v2,rfl,hg2,rfl⟩;have ak:=dy q hg2;have aG:¬(128:Int)<(N:Int):=by omega
 go_wp2;clear aG;go_loopw [8,9] (λnv tv wr=>∃(t n:Nat),nv=.int .i64 (n:Int)/\tv=.int .i64 (t:Int)/\t<=N/\n<=t/\Ext w0 wr/\Hid (n=oJ P U V t)) (λ_ tv _=>N-(intOf tv).toNat)
 case atStart=>exact⟨0,0,rfl,rfl,by omega,by omega,ak,Lib.hid (by have:=OL (P:=P) U V 0;omega)⟩
 case round=>
  obtain⟨t,n,rfl,rfl,ht,hnt,hg,E⟩:=hrel;obtain⟨O,mZ,ng⟩:=i.out.1 wr hg;go_wp2_with fail
  clear O mZ ng;refine Calls.mono (i.out.2.1 wr hg) ?_;rintro e3 Q ⟨v3,rfl,hg3,rfl⟩;have a:=dy hg hg3;by_cases aX:t<N
  ·have aR:(t:Int)<N:=by omega
   have A:=OH (P:=P) (U:=U) (V:=V) (k:=t);have T:=OI (P:=P) (U:=U) (V:=V) (k:=t);have W:=i.out.2.2.2.2.2.1 t;have al:=i.out.2.2.1;obtain⟨x,hx⟩:∃x,x=jI P (fV P U).reverse t:=⟨_,rfl⟩;have m:∀w',Ext w0 w'->Calls Tryz.prog 158 #[.agg #[b,fN,fM],.slice au U.length e,.int .i64 (t:Int)] w' (fq w' λp v=>Own w'.heap.size p v x):=λw' h=>by rw[hx];exact al w' h t (by omega)
   rw[<-hx] at A T W;have Z:=Lib.hid (And.intro A (And.intro T (And.intro W m)));clear A T W m al hx;have e1:∀w',Ext Q w'->w'.cell? ⟨w.heap.size,0,none⟩=some b:=λw' h=>(i.out.1 w' (dy a h)).1;have e2:∀w',Ext Q w'->w'.cell? ⟨w.heap.size,1,none⟩=some fN:=λw' h=>(i.out.1 w' (dy a h)).2.1;have e3:∀w',Ext Q w'->w'.cell? ⟨w.heap.size,2,none⟩=some fM:=λw' h=>(i.out.1 w' (dy a h)).2.2;go_wp2
   go_region_held3 (λw'=>Ext Q w') (first|exact fk _ _|exact Ext.refl _|assumption)
    (first
     | (go_at_call 156;refine Calls.mono (Calls.rel (w0:=Q) (by assumption) (i.out.2.2.2.1 _ (dy a (by assumption)) x _ Z.out.2.2.1 am)) ?_;rintro eD wD ⟨vD,rfl,yx,_,r,rfl,C⟩)
     | (go_at_call 157;refine Calls.mono (Calls.rel (w0:=Q) (by assumption) (i.out.2.2.2.2.1 _ (dy a (by assumption)) x _ Z.out.2.2.1 an)) ?_;rintro eC wC ⟨vC,rfl,p6,_,am⟩;obtain⟨ac,cc,p8,_,_⟩:=Sl.shape am;subst p8)
     | (go_at_call 158;refine Calls.mono (Calls.rel (w0:=Q) (by assumption) (Z.out.2.2.2 _ (dy a (by assumption)))) ?_;rintro eE wE ⟨vE,rfl,tW,_,OZ⟩;have an:Ints Any wE vE x:=iD OZ (by have:=Z.out.2.2.1.1;have:=i.out.2.2.2.2.2.2.2;omega) (λ_ _=>trivial);obtain⟨ae,ce,jZ,_,_⟩:=an.shape;subst jZ))
   clear e1 e2 e3;have F:=dy a yx;cases r with
   | true=>
    have h1:=Z.out.1 (C.1 rfl);have B:n+1=oJ P U V (t+1):=by rw[h1,<-E.out]
    have X:=Lib.hid B;clear B h1 C E;go_wp2;go_roundw
    case rel=>exact⟨t+1,n+1,by go_num,by go_num,by omega,by omega,F,X⟩
    case measure=>simp[intOf];omega
   | false=>
    have h1:=Z.out.2.1 (λhh=>by have:=C.2 hh;cases this);have B:n=oJ P U V (t+1):=by rw[h1,<-E.out]
    have X:=Lib.hid B;clear B h1 C E;go_wp2;go_roundw
    case rel=>exact⟨t+1,n,rfl,by go_num,by omega,by omega,F,X⟩
    case measure=>simp[intOf];omega
  ·have aI:t=N:=by omega
   have H:n=jU P U V:=by rw[E.out,aI,i.out.2.2.2.2.2.2.1]
   have HF:=Lib.hid H;clear H;have aJ:=dy I a;have a2:¬(t:Int)<(N:Int):=by omega
   go_wp2;go_ret2
   exact⟨_,rfl,aJ,by rw[HF.out];rfl⟩
theorem Hq (w:World):dK Any w (.slice none 0 0) []:=⟨none,0,rfl,⟨by simp,by simp,λ_=>rfl⟩,λi a=>by simp at a⟩
theorem O0 (P:Pr) (w:World) (pv:Value) (Sp:Nat->Prop) (aX:gy Sp w pv P) :
  Calls Tryz.prog 23 #[pv] w (fq w λw' v=>∃a n c,v=.tuple #[.slice a n c,.int .i64 (pz P)]/\dK Any w' (.slice a n c) (jJ P)):=by
 obtain⟨vo,vp,vc,rfl,h3⟩:=aX;have ao:=fB.box h3 28;have aY:Ext w (w.alloc (.cells #[vo,vp,vc] 28)):=World.grownBy_alloc _ _ _;obtain⟨A,fN,fM,_,_,O,ab,ac,fP⟩:=ao.at;simp only[Nat.zero_add] at ab ac;have ap:∀w',Ext (w.alloc (.cells #[vo,vp,vc] 28)) w'->w'.cell? ⟨w.heap.size,0,none⟩=some A/\w'.cell? ⟨w.heap.size,1,none⟩=some fN/\w'.cell? ⟨w.heap.size,2,none⟩=some fM:=λw' h=>⟨h.cell O (by simp),h.cell ab (by simp),h.cell ac (by simp)⟩;have aq:∀w',Ext (w.alloc (.cells #[vo,vp,vc] 28)) w'->gy Any w' (.agg #[A,fN,fM]) P:=λw' h=>⟨_,_,_,rfl,fA.ext fP h⟩;have HB:=Lib.hid (And.intro ap aq);clear ap aq ao;have ar:=K4 P _ (.agg #[A,fN,fM]) Any ⟨_,_,_,rfl,fP⟩;clear fP;go_enter Tryz.func23,Tryz.ntmps23;go_wp2_with fail
 clear O ab ac;generalize aZ:w.alloc (.cells #[vo,vp,vc] 28)=w0 at *;clear aZ;refine Calls.mono ar ?_;rintro e1 w1 ⟨v1,rfl,Q,rfl⟩;clear ar;have S:=dy aY Q;by_cases B:iC P=0
 ·have hr := (qD B).1
  have G:=lZ hr;have au:=(qD B).2;have y:=λh=>Am (P:=P) B h;have l:=λh=>Ao (P:=P) B h;have av:=λL (T:jO P L)=>Co B T;have aw:=λL (T:jO P L)=>(tG B T).1;have ax:=(Ae P).1;have ay:=K6 P G w1 _ Any au (HB.out.2 w1 Q);obtain⟨c,hc⟩:∃c,c=iC P:=⟨_,rfl⟩;have O:c=0:=by rw[hc];exact B
  rw[<-hc];have R:=Lib.hid (And.intro y (And.intro l (And.intro av (And.intro aw hr))));clear y l av aw B hr hc;subst O;obtain⟨a4,mZ,ng⟩:=HB.out.1 w1 Q;go_wp2_with fail
  clear a4 mZ ng;refine Calls.mono ay ?_;rintro e2 w2 ⟨v2,rfl,hg2,fv,zv,rfl,L,T,C,hZ⟩;clear ay;have D:=R.out.2.2.1 L T;rw[<-R.out.2.2.2.1 L T] at C
  obtain ⟨za,zn,zc,O1⟩:∃a n c,zv=.slice a n c:=by
   obtain⟨a,c,e,_⟩:=(hZ.ints (by rw[iE];have:=(xM P L L.length);have:=G.zQ au T;omega)).shape;exact⟨_,_,_,e⟩
  subst O1;clear hZ T;obtain⟨F,hF⟩:∃F,F=iR P:=⟨_,rfl⟩;have y:=R.out.1;have l:=R.out.2.1;rw[<-hF] at C D ax y l;obtain⟨ra,rc,Db,_,_⟩:=Sl.shape C;subst Db;have HD:=Lib.hid (And.intro y (And.intro l (And.intro D R.out.2.2.2.2)));clear y l D hF R;have W:=dy S hg2;have aA:=dy Q hg2;by_cases E:24<F.length
  ·have aB:(24:Int)<F.length:=by omega
   have h3:=HD.out.1 E;have H3:=Lib.hid h3;clear h3;go_wp2;refine bodyPost_ret (v := .tuple #[.slice none 0 0,.int .i64 3]) (by simp[results,Tryz.results23,go_sem]) rfl ?_;exact⟨_,rfl,W,none,0,0,by rw[H3.out.1],by rw[H3.out.2];exact Hq _⟩
  ·have aB:¬(24:Int)<F.length:=by omega
   have l:=HD.out.2.1 E;have hN:F.length<=24:=by omega
   have HK:=Lib.hid l;clear l ax E;have HR:=Lib.hid C;clear C;obtain⟨N,H⟩:∃N,N=F.length:=⟨_,rfl⟩;have aC:(F.map (λu=>jd P u F)).length=N:=by rw[List.length_map,H]
   rw[<-H] at hN aB;rw[<-H];have HN:=Lib.hid (And.intro H aC);clear H aC;go_wp2;go_loopw [7,8] (λov iv wr=>∃(i:Nat) (v4:Value),v4=ov/\iv=.int .i64 i/\i<=N/\Ext w2 wr/\iL w2.heap.size wr v4 ((F.map (λu=>jd P u F)).take i)) (λ_ iv _=>N-(intOf iv).toNat)
   case atStart=>exact⟨0,_,rfl,rfl,by omega,World.grownBy_alloc _ _ _,⟨[],λ_ _=>False,rfl,World.ownsRow_lit w2 #[] 0 (Nat.le_refl _) (by decide) rfl,by simp,by simp,by simp⟩⟩
   case round=>
    obtain⟨i,v4,rfl,rfl,hi,hg,hO⟩:=hrel;by_cases ad:i<N
    ·have bm:(i:Int)<N:=by omega
     have ae:i<F.length:=by rw[<-HN.out.1];exact ad
     obtain⟨bx,ox,a2,X,hab,_,_,af,aD⟩:=fU.at (fU.ext HR.out hg) i ae;subst hab;have hU:=HD.out.2.2.1 _ (fT ae);have p:=FK P F i ae;obtain⟨U,aE⟩:∃U,U=gt F i:=⟨_,rfl⟩;rw[<-aE] at af aD hU p;have HU:=Lib.hid (And.intro hU (And.intro p af));clear hU p aE af;go_wp2;obtain⟨M,rfl⟩:∃M:World,M=wr:=⟨_,rfl⟩;have aF:=dy aA hg;go_loopw [9,10] (λrv jv wr=>∃(j:Nat) (v7:Value),v7=rv/\jv=.int .i64 j/\j<=N/\Ext M wr/\Own M.heap.size wr v7 ((jd P U F).take j)) (λ_ jv _=>N-(intOf jv).toNat)
     case atStart=>exact⟨0,_,rfl,rfl,by omega,World.grownBy_alloc _ _ _,World.ownsRow_lit M #[] 0 (Nat.le_refl _) (by decide) rfl⟩
     case round=>
      obtain⟨j,v7,rfl,rfl,hj,z,hR⟩:=hrel;have r:=dy aF z;have aI:=dy hg z;by_cases aJ:j<N
      ·have a':(j:Int)<N:=by omega
       have ag:j<F.length:=by rw[<-HN.out.1];exact aJ
       obtain⟨bt,oy,a3,Y,hab,_,_,ah,aK⟩:=fU.at (fU.ext HR.out aI) j ag;cases hab
       have hV:=HD.out.2.2.1 _ (fT ag);have p:=FJ P U F j ag;obtain⟨V,aL⟩:∃V,V=gt F j:=⟨_,rfl⟩;rw[<-aL] at ah aK hV p;obtain⟨m,hm⟩:∃m:Int,m=((jU P U V:Nat):Int):=⟨_,rfl⟩;rw[<-hm] at p;have q:((jd P U F).take j).length<=1000000:=by rw[List.length_take,uU];omega
       have aM:∀w',Ext wr w'->Calls Tryz.prog 76 #[.agg #[A,fN,fM],.slice a2 U.length X,.slice a3 V.length Y] w' (fq w' λ_ v=>v=.tuple #[.int .i64 m,.int .i64 0]):=λw' h=>by
        rw[hm];exact OX P HD.out.2.2.2 w' _ _ _ U V Any _ _ (HB.out.2 w' (dy r h)) (dK.ext aD (dy z h)) (dK.ext aK h) HU.out.1 hV (by omega)
       have HV:=Lib.hid (And.intro p (And.intro q aM));clear p q hm hV aL aM;have f1:∀w',Ext wr w'->w'.cell? ⟨w.heap.size,0,none⟩=some A:=λw' h=>(HB.out.1 w' (dy r h)).1;have f2:∀w',Ext wr w'->w'.cell? ⟨w.heap.size,1,none⟩=some fN:=λw' h=>(HB.out.1 w' (dy r h)).2.1;have f3:∀w',Ext wr w'->w'.cell? ⟨w.heap.size,2,none⟩=some fM:=λw' h=>(HB.out.1 w' (dy r h)).2.2;have f4:∀w',Ext wr w'->w'.cell? ⟨bx,ox+i,none⟩=some (.slice a2 U.length X):=λw' h=>(dy z h).cell HU.out.2.2 (by simp);have f5:∀w',Ext wr w'->w'.cell? ⟨bx,ox+j,none⟩=some (.slice a3 V.length Y):=λw' h=>h.cell ah (by simp);clear ah;go_wp2
       go_region_held3 (λw'=>Ext wr w') (first|exact fk _ _|exact Ext.refl _|assumption)
        (first
         | (go_at_call 76;refine Calls.mono (Calls.rel (w0:=wr) (by assumption) (HV.out.2.2 _ (by assumption))) ?_;rintro eA wA ⟨vA,rfl,gK,_,rfl⟩))
       clear f1 f2 f3 f4 f5;have ai:=hR.gw gK;have Z:=dy z gK;go_wp2_with (at_builtin;go_must (refine qB rfl _ _ rfl M.heap.size _ ((jd P U F).take j) m rfl wA ai rfl rfl HV.out.2.1 Z.size ?_);intro v8 w8 aN aO)
       have aP:Ext M w8:=fu Z aO (λb hb ad=>by have:=(ai.lt b hb).1;omega);rw[<-HV.out.1] at aN;clear hR ai aO;go_roundw
       case rel=>exact⟨j+1,v8,rfl,by go_num,by omega,aP,aN⟩
       case measure=>simp[intOf];omega
      ·have be:j=N:=by omega
       subst be;have bf:(jd P U F).length=j:=by rw[uU,HN.out.1]
       have aQ:Own M.heap.size wr v7 (jd P U F):=by rw[List.take_of_length_le (by omega)] at hR;exact hR
       have I:gf (From M.heap.size) wr v7 (jd P U F):=gf.of aQ (by omega) (λk hk _=>hk);obtain⟨a7,c7,rD,_,_⟩:=I.ints.shape;subst rD;have q:((F.map (λu=>jd P u F)).take i).length<=1000000:=by rw[List.length_take];omega
       have HZ:=Lib.hid q;clear q bf hR;go_wp2_with (at_builtin;go_must (refine rA rfl _ _ rfl w2.heap.size M wr _ _ ((F.map (λu=>jd P u F)).take i) (jd P U F) rfl hO z I rfl rfl HZ.out hg.size ?_);intro v5 w5 aR aS _)
       have aT:Ext w2 w5:=fu hg aS (λb hb ad=>by have:=(hO.lt b hb).1;omega);rw[<-HU.out.2.1] at aR;clear hO I aS aQ;go_roundw
       case rel=>exact⟨i+1,v5,rfl,by go_num,by omega,aT,aR⟩
       case measure=>simp[intOf];omega
    ·have bg:i=N:=by omega
     subst bg
     have aa:iL w2.heap.size wr v4 (jJ P):=by
      rw[List.take_of_length_le (by rw[HN.out.2];exact Nat.le_refl _)] at hO;rw[HK.out.2];exact hO
     have bh:=Cn P;have aj:dK Any wr v4 (jJ P):=dK.sub (gY.rows (gN.iB aa (by omega))) (λ_ _ _=>trivial);obtain⟨ta,tc,aU,_,_⟩:=Sl.shape aj;obtain⟨K,hK⟩:∃K,K=(jJ P).length:=⟨_,rfl⟩;rw[<-hK] at aU;subst aU;have HE:=Lib.hid aj;clear hO aa aj bh hK;go_wp2;refine bodyPost_ret (v := .tuple #[.slice ta K tc,.int .i64 0]) (by simp[results,Tryz.results23,go_sem]) rfl ?_;exact⟨_,rfl,dy W hg,_,_,_,by rw[HK.out.1],HE.out⟩
 ·have J:=Al B
  obtain⟨c,hc⟩:∃c,c=iC P:=⟨_,rfl⟩;rw[<-hc] at B J ⊢;have bF:(c != 0)=true:=by simpa using B
  have R:=Lib.hid J;clear hc J;go_wp2;refine bodyPost_ret (v := .tuple #[.slice none 0 0,.int .i64 c]) (by simp[results,Tryz.results23,go_sem]) rfl ?_;exact⟨_,rfl,S,none,0,0,by rw[R.out.1],by rw[R.out.2];exact Hq _⟩
end Go.Proofs.YtoakmefajbbggaaGreat
namespace Go.Proofs.YtoakmefajbbggaaGreat
open Go.RowKit
attribute [local go_sem ↓] Go.wp_at_zero Go.wp_at_succ
theorem O2 (w:World) (cv:Value) (b:List Int) (S:Nat->Prop) (i:Bytes S w cv b) :
  Calls Tryz.prog 7 #[cv] w λe w'=>e=.returned (.bool (decide (4096<b.length)))/\w=w':=by
 obtain⟨a,cap,rfl,_,hlen⟩:=Sl.shape i;go_enter Tryz.func7,Tryz.ntmps7;by_cases h:4096<b.length
 ·have j:(4096:Int)<(b.length:Nat):=by omega
  go_wp2;go_ret;exact⟨kP (by simp[h]),rfl⟩
 ·have j:¬(4096:Int)<(b.length:Nat):=by omega
  go_wp2;go_ret;exact⟨kP (by simp),rfl⟩
end Go.Proofs.YtoakmefajbbggaaGreat
namespace Go.Proofs.YtoakmefajbbggaaGreat
open Go.RowKit
theorem Ints.AX {S:Nat->Prop}{w w':World}{v:Value}{xs:List Int}(h:Ints S w v xs) (a:Ext w w'):Ints Any w' v xs:=Ints.sub (Ints.ext h a) (λ_ _ _=>trivial)
theorem Hr (v1 u:Value) (e j:List Int) (w:World) (B C:Nat->Prop) (h1:Ints B w v1 e) (y:Ints C w u j) :
  Calls Tryz.prog 11 #[v1,u] w (fq w λ_ v=>v=.bool (jk e j)):=by
 obtain⟨a,cap,rfl,_,_⟩:=h1.shape;obtain⟨a2,jx,rfl,_,_⟩:=y.shape;by_cases m:e.length=j.length
 ·have D:((e.length:Int) != (j.length:Int))=false:=by simp[m]
  have E:e.length<=j.length/\j.length<=e.length:=by omega
  have q:=Lib.hid m;clear m;go_enter Tryz.func11,Tryz.ntmps11;go_wp2;go_loopw [5] (λi wr=>∃k:Nat,i=.int .i64 k/\k<=e.length/\Ext w wr/\∀i,i<k->gt e i=gt j i) (λi _=>e.length-(intOf i).toNat)
  case atStart=>exact⟨0,rfl,by omega,Ext.refl _,λi z=>by omega⟩
  case round=>
   obtain⟨k,rfl,hk,p,hz⟩:=hrel;have A:=Lib.hid hz;clear hz;by_cases r:k<e.length
   ·obtain ⟨b,off,rfl,_,_,hc⟩:=Ints.at (h1.ext p) k r
    obtain⟨b2,off2,rfl,_,_,hc2⟩:=Ints.at (y.ext p) k (by omega);by_cases hx:gt e k=gt j k
    ·have F:(gt e k != gt j k)=false:=by simp[hx]
     have l:=Lib.hid hx;clear hx;go_wp2;go_quiet (fail)
     go_wp2;go_roundw
     case rel=>exact⟨k+1,by go_num,by omega,dy p (iI _ _ _),λi z=>by
      rcases Nat.lt_or_ge i k with h1|h1
      ·exact A.out i h1
      ·have:i=k:=by omega
       rw[this,l.out]⟩
     case measure=>simp[intOf];omega
    ·have F:(gt e k != gt j k)=true:=by simp[hx]
     have l:=Lib.hid hx;clear hx;go_wp2;go_quiet (fail)
     go_wp2;go_ret;exact jt (dy p (iI _ _ _)) (by rw[uy (hx:=l.out)])
   ·go_wp2
    go_ret;exact jt p (by rw[kC.2 (mg q.out (λi z=>A.out i (by omega)))])
 ·have D:((e.length:Int) != (j.length:Int))=true:=by simp;omega
  have q:=Lib.hid m;clear m;go_enter Tryz.func11,Tryz.ntmps11;go_wp2;go_ret;exact jt (Ext.refl _) (by rw[lu.2 (λh=>q.out (by rw[h]))])
theorem O3 (v1 B:Value) (j l:List (List Int)) (w:World) (I J:Nat->Prop) (h1:dK I w v1 j) (C:dK J w B l) :
  Calls Tryz.prog 24 #[v1,B] w (fq w λ_ v=>v=.bool (jk j l)):=by
 obtain⟨a,cap,rfl,_,_⟩:=Sl.shape h1;obtain⟨a2,jx,rfl,_,_⟩:=Sl.shape C;by_cases q:j.length=l.length
 ·have K:((j.length:Int) != (l.length:Int))=false:=by simp[q]
  have L:j.length<=l.length/\l.length<=j.length:=by omega
  have z:=Lib.hid q;clear q;go_enter Tryz.func24,Tryz.ntmps24;go_wp2;go_loopw [5] (λi wr=>∃k:Nat,i=.int .i64 k/\k<=j.length/\Ext w wr/\∀i,i<k->gt j i=gt l i) (λi _=>j.length-(intOf i).toNat)
  case atStart=>exact⟨0,rfl,by omega,Ext.refl _,λi D=>by omega⟩
  case round=>
   obtain⟨k,rfl,hk,r,hz⟩:=hrel;have E:=Lib.hid hz;clear hz;by_cases A:k<j.length
   ·obtain ⟨b,off,M,c1,rfl,_,_,hc,u⟩:=dK.at (dK.ext h1 r) k A
    obtain⟨b2,off2,N,c2,rfl,_,_,hc2,y⟩:=dK.at (dK.ext C r) k (by omega);have F:∀w',Ext wr w'->w'.cell? ⟨b,off+k,none⟩=some (.slice M (gt j k).length c1):=λw' h=>h.cell hc (by simp);have G:∀w',Ext wr w'->w'.cell? ⟨b2,off2+k,none⟩=some (.slice N (gt l k).length c2):=λw' h=>h.cell hc2 (by simp);clear hc hc2;have H:k<l.length:=by omega
    go_wp2;cases hx:jk (gt j k) (gt l k) with
    | true=>
     have m:=Lib.hid hx
     go_region_held3 (λw'=>Ext wr w') (first|exact fk _ _|assumption)
      (first
       | (go_at_call 11;refine Calls.mono (Calls.rel (w0:=wr) (by assumption) (Hr _ _ _ _ _ Any Any ((Ints.AX u (by assumption))) (Ints.AX y (by assumption)))) ?_;rintro O Q ⟨R,rfl,p,iZ,rfl⟩))
     clear F G;go_wp2;go_roundw
     case rel=>exact⟨k+1,by go_num,by omega,dy r p,λi D=>by
      rcases Nat.lt_or_ge i k with h1|h1
      ·exact E.out i h1
      ·have:i=k:=by omega
       rw[this];exact kC.1 m.out⟩
     case measure=>simp[intOf];omega
    | false=>
     have m:=Lib.hid hx
     go_region_held3 (λw'=>Ext wr w') (first|exact fk _ _|assumption)
      (first
       | (go_at_call 11;refine Calls.mono (Calls.rel (w0:=wr) (by assumption) (Hr _ _ _ _ _ Any Any (Ints.AX u (by assumption)) (Ints.AX y (by assumption)))) ?_;rintro O Q ⟨R,rfl,p,iZ,rfl⟩))
     clear F G;go_wp2;go_ret;exact jt (dy r p) (by rw[uy (hx:=lu.1 m.out)])
   ·go_wp2
    go_ret;exact jt r (by rw[kC.2 (mg z.out (λi D=>E.out i (by omega)))])
 ·have K:((j.length:Int) != (l.length:Int))=true:=by simp;omega
  have z:=Lib.hid q;clear q;go_enter Tryz.func24,Tryz.ntmps24;go_wp2;go_ret;exact jt (Ext.refl _) (by rw[lu.2 (λe=>z.out (by rw[e]))])
theorem O4 (P:Pr) (G:ez P) (w:World) (p D E:Value) (U:List (List Int)) (H:List Int->Prop) (F I J:Nat->Prop) (S:Sub P H) (K:fB F w p P) (L:dK I w D U) (M:dK J w E (fD P H)) (N:∀x∈U,dL P.orders x) :
  Calls Tryz.prog 81 #[p,D,E] w (fq w λ_ v=>∃r:Bool,v=.bool r/\(r=true↔∀x∈U,H x)):=by
 obtain⟨pb,po,rfl⟩:=K.shape;obtain⟨W,jA,rfl,_,Mq⟩:=Sl.shape L;obtain⟨X,pE,j,_,_⟩:=Sl.shape M;obtain⟨O,a⟩:∃O,O=(fD P H).length:=⟨_,rfl⟩;rw[<-a] at j;subst j;have T:=Lib.hid N;clear N;have Y:=Lib.hid a;clear a;go_enter Tryz.func81,Tryz.ntmps81;go_wp2;go_loopw [8,11] (λ_ u wr=>∃(i:Nat),u=.int .i64 i/\i<=U.length/\Ext w wr/\Hid (∀k,k<i->H (gt U k))) (λ_ u _=>U.length-(intOf u).toNat)
 case atStart=>exact⟨0,rfl,by omega,gZ _ _,Lib.hid (λk hk=>by omega)⟩
 case round=>
  obtain⟨i,rfl,hi,hg,hH⟩:=hrel;by_cases e:i<U.length
  ·obtain ⟨b,off,ax,l6,rfl,F4,hbl,hcb,Hs⟩:=dK.at L i e
   have z:=hg.cell hcb (by simp);have l:=Ints.ext Hs hg;have A:=K.ext hg;have B:=dK.ext M hg;have q:dL P.orders (gt U i):=T.out _ (iW e);have C:(i:Int)<(U.length:Nat):=by omega
   clear hcb Hs;obtain⟨x,hx⟩:∃x,x=gt U i:=⟨_,rfl⟩;rw[<-hx] at z l q;have Q:=Lib.hid hx;clear hx;go_wp2_with fail
   refine Calls.mono (FR P G wr _ _ _ H x F J I S A B l q) ?_;rintro Z w1 ⟨v1,rfl,hg1,r,rfl,hr⟩;have R:=Lib.hid hr;clear hr;cases r with
   | true=>
    go_wp2;go_roundw
    case rel=>exact⟨i+1,by go_num,by omega,dy hg hg1,Lib.hid (λk hk=>by
     rcases Nat.lt_or_ge k i with h|h
     ·exact hH.out k h
     ·have:k=i:=by omega
      subst this;rw[<-Q.out];have:=R.out;simpa using this)⟩
    case measure=>simp[intOf];omega
   | false=>
    go_wp2;go_ret
    exact ⟨_,rfl,dy hg hg1,false,rfl,by
     constructor
     ·intro h;cases h
     ·intro h
      have:=R.out.2 (by rw[Q.out];exact h _ (iW e));cases this⟩
  ·have V:i=U.length:=by omega
   have C:¬(i:Int)<(U.length:Nat):=by omega
   go_wp2;go_ret
   exact ⟨_,rfl,hg,.inr ⟨rfl,λy hy=>by
    obtain⟨m,hm,rfl⟩:=oW hy;exact hH.out m (by omega)⟩⟩
theorem O5 (P:Pr) (hr:jH P=true) (w:World) (pv uv vv:Value) (U V:List (List Int)) (Sp Su Sv:Nat->Prop) (af:gy Sp w pv P) (H:dK Su w uv U) (hv:dK Sv w vv V) (hU:fO P U) (hV:fO P V) (I:∀x,gU P V x->gU P U x) :
  Calls Tryz.prog 27 #[pv,uv,vv] w (fq w λ_ v=>v=.tuple #[.int .i64 (j9 P (gU P U)/j9 P (gU P V)),.int .i64 0]):=by
 have G:=lZ hr;have aC:=G.v.n6;obtain⟨vo,vp,vc,rfl,h3⟩:=af;have J:=fB.box h3 28;have p:Ext w (w.alloc (.cells #[vo,vp,vc] 28)):=World.grownBy_alloc _ _ _;have q:(w.alloc (.cells #[vo,vp,vc] 28)).heap.size=w.heap.size+1:=by simp
 have K:=dK.ext H p;have L:=dK.ext hv p;obtain⟨au,j,rfl,_,_⟩:=Sl.shape H;obtain⟨av,pE,rfl,_,_⟩:=Sl.shape hv;have r:Ext (w.alloc (.cells #[vo,vp,vc] 28)) ((w.alloc (.cells #[vo,vp,vc] 28)).alloc (.cells #[.slice au U.length j,.slice av V.length pE] 25)):=World.grownBy_alloc _ _ _;have hl:=Hf K L;have b:=x4 P _ _ _ [U,V] Any Any (J.ext r) hl;rw[q] at b;clear hl H hv;have aw:U.length<=P.orders.length:=G.lz hU;have ax:V.length<=P.orders.length:=G.lz hV;have k:=Lib.hid (And.intro hr (And.intro hU (And.intro hV I)));clear hr hU hV I;go_enter Tryz.func27,Tryz.ntmps27;go_wp2_with fail
 refine Calls.mono b ?_;rintro e1 w1 ⟨v1,rfl,gK,r1,rfl,hr1⟩;clear b;obtain rfl:r1=true:=hr1.2 (by have:=k.out;simp only[List.mem_cons,List.mem_nil_iff,or_false];exact⟨this.1,λu H=>by rcases H with rfl|rfl;exact this.2.1;exact this.2.2.1⟩);clear hr1;have a:=dy r gK;have HS:=Lib.hid q;clear q;generalize aj:(w.alloc (.cells #[vo,vp,vc] 28))=w0 at *;clear aj r gK;have z:=J.ext a;have A:=dK.ext K a;have B:=dK.ext L a;have e:=G.gG k.out.2.1;have C:=G.gG k.out.2.2.1;have D:U=fD P (gU P U):=k.out.2.1.2;have M:V=fD P (gU P V):=k.out.2.2.1.2;have N:=G.iV e;have O:=G.iV C;have l:dK Su w1 (.slice au U.length j) (fD P (gU P U)):=D▸A;have Q:=G.Cp e;have R:=G.Cp C;have S:=G.Mc e;have m:=Lib.hid (And.intro N (And.intro O (And.intro D (And.intro M (And.intro l (And.intro Q (And.intro R S)))))));clear N O D M l Q R S e C;go_wp2_with fail
 refine Calls.mono (O4 P G w1 _ _ _ V (gU P U) Any Sv Su (G.gG k.out.2.1) z B m.out.2.2.2.2.1 k.out.2.2.1.1) ?_;rintro e2 w2 ⟨v2,rfl,i,r2,rfl,hr2⟩;obtain rfl:r2=true:=hr2.2 (λx hx=>k.out.2.2.2 x (qa hx));clear hr2;have E:=z.ext i;have T:=dK.ext A i;have W:=dK.ext B i;clear z A B;have X:iY P U:=by have:=m.out.1.1;rw[<-m.out.2.2.1] at this;exact this
 have Y:iY P V:=by have:=m.out.2.1.1;rw[<-m.out.2.2.2.1] at this;exact this
 have Z:fJ P U U.length=j9 P (gU P U):=by unfold j9;rw[<-m.out.2.2.1]
 have aa:fJ P V V.length=j9 P (gU P V):=by unfold j9;rw[<-m.out.2.2.2.1]
 have HQ:=Lib.hid (And.intro X (And.intro Y (And.intro Z aa)));clear X Y Z aa;go_wp2_with fail
 refine Calls.mono (AU P G.v w2 _ _ U Any Su E T HQ.out.1 (by omega)) ?_;rintro e3 w3 ⟨v3,rfl,F,rfl⟩;rw[HQ.out.2.2.1];have ak:=E.ext F;have al:=dK.ext W F;clear E T W;go_wp2_with fail
 refine Calls.mono (AU P G.v w3 _ _ V Any Sv ak al HQ.out.2.1 (by omega)) ?_;rintro e4 w4 ⟨v4,rfl,am,rfl⟩;rw[HQ.out.2.2.2];obtain⟨x,hx⟩:∃x,x=j9 P (gU P U):=⟨_,rfl⟩;obtain⟨y,hy⟩:∃y,y=j9 P (gU P V):=⟨_,rfl⟩;have hb:=m.out.2.2.2.2.2;rw[<-hx,<-hy] at hb ⊢;have aG:y≠0:=by omega
 have aH:x.tdiv y=x/y:=Int.tdiv_eq_ediv_of_nonneg (by omega);have an:0<=x/y/\x/y<=729:=⟨Int.ediv_nonneg (by omega) (by omega),Int.le_trans (Int.ediv_le_self _ (by omega)) (by omega)⟩;have aI:IntKind.i64.wrap (x/y)=x/y:=IntWalk.i64_in _ (by omega);have HB:=Lib.hid (And.intro hx hy);clear hb an hx hy;go_wp2;go_ret2
 exact⟨_,rfl,dy p (dy a (dy i (dy F am))),by show _=_;rw[<-HB.out.1,<-HB.out.2];rfl⟩
end Go.Proofs.YtoakmefajbbggaaGreat
namespace Go.Proofs.YtoakmefajbbggaaGreat
open Go.RowKit
attribute [local go_sem ↓] Go.wp_at_zero Go.wp_at_succ
theorem O6 (w:World) (cv:Value) (X:List Int) (S:Nat->Prop) (hb:Bytes S w cv X) :
  Calls Tryz.prog 4 #[cv] w (fq w λ_ v=>v=.bool true):=by
 obtain⟨ca,cc,rfl,_,_⟩:=Sl.shape hb;go_enter Tryz.func4,Tryz.ntmps4;go_wp2_with fail
 refine Calls.mono (O2 w _ X S hb) ?_;rintro _ _ ⟨rfl,rfl⟩;by_cases aw:4096<X.length
 ·have hd:decide (4096<X.length)=true:=by simp[aw]
  rw[hd];go_wp2;go_ret;exact⟨_,rfl,gZ _ _,rfl⟩
 have bR:X.length<=4096:=by omega
 have hd:decide (4096<X.length)=false:=by simp[aw]
 rw[hd];clear hd aw;go_wp2_with fail
 refine Calls.mono (Od w _ X S hb) ?_;rintro e1 w1 ⟨v1,rfl,hg1,vo,vp,vc,P,rfl,Vm,hP⟩;obtain⟨a1,Y,c1,hy1⟩:∃a n c,vo=.slice a n c:=by obtain⟨a,c,e,_⟩:=hP.o.shape;exact⟨_,_,_,e⟩
 obtain⟨a2,Z,c2,hy2⟩:∃a n c,vp=.slice a n c:=by obtain⟨a,c,e,_⟩:=Sl.shape hP.p;exact⟨_,_,_,e⟩
 obtain⟨a3,n3,c3,kX⟩:∃a n c,vc=.slice a n c:=by obtain⟨a,c,e,_⟩:=Sl.shape hP.c;exact⟨_,_,_,e⟩
 subst hy1 hy2 kX;have ax:Ext w1 (w1.alloc (.cells #[.slice a1 Y c1,.slice a2 Z c2,.slice a3 n3 c3] 28)):=World.grownBy_alloc _ _ _;have hX:=fG.made w1 28 (.slice a1 Y c1) (.slice a2 Z c2) (.slice a3 n3 c3);have aM:=hP.ext ax;have b:=dy hg1 ax;have aN:=Bytes.ext hb b;have ae:=Lib.hid (And.intro aM (And.intro b aN));clear aM  b aN ax hP  hg1 hb;obtain⟨pb,ay⟩:∃pb,pb=w1.heap.size:=⟨_,rfl⟩;rw[<-ay] at hX;have HP:=Lib.hid ay;clear ay;go_wp2_with fail
 rw[<-HP.out];generalize w1.alloc (.cells #[.slice a1 Y c1,.slice a2 Z c2,.slice a3 n3 c3] 28)=w2 at *;clear HP
 have aq:∀w',Ext w2 w'->fG w' pb (.slice a1 Y c1) (.slice a2 Z c2) (.slice a3 n3 c3)/\gy (From w.heap.size) w' (.agg #[.slice a1 Y c1,.slice a2 Z c2,.slice a3 n3 c3]) P/\Bytes S w' (.slice ca X.length cc) X:=
  λw' h=>⟨hX.ext h,⟨_,_,_,rfl,ae.out.1.ext h⟩,Bytes.ext ae.out.2.2 h⟩
 have I:=Lib.hid aq;clear aq hX;have b:=gZ w2 none;have bd:=Cn P;have be:=LR P;have bf:=LS P;obtain⟨Q,mZ,ng,yN,_⟩:=id (I.out w2 b).1;go_wp2_with fail
 clear Q mZ ng yN;refine Calls.mono (Oz P w2 _ _ (I.out w2 b).2.1) ?_;rintro e3 w3 ⟨v3,rfl,nh,aa,an,ac,rfl,aP⟩;replace b:=dy b nh
 have aQ:dK Any w3 (.slice aa an ac) (jJ P):=dK.sub (gY.rows (gN.iB aP (by omega))) (λ_ _ _=>trivial);have aR:∀w',Ext w3 w'->dK Any w' (.slice aa an ac) (jJ P):=λw' h=>dK.ext aQ h;have HR:=Lib.hid aR;clear aQ aR;have q:=gZ w3 none;clear aP;clear nh;obtain⟨Q,mZ,ng,yN,_⟩:=id (I.out w3 b).1;go_wp2_with fail
 clear Q mZ ng yN;refine Calls.mono (O0 P w3 _ _ (I.out w3 b).2.1) ?_;rintro e4 w4 ⟨v4,rfl,nh,ta,tn,tc,rfl,Ht⟩;replace b:=dy b nh
 replace q:=dy q nh
 have R:dK Any w4 (.slice ta tn tc) (jJ P):=Ht;have aS:∀w',Ext w4 w'->dK Any w' (.slice ta tn tc) (jJ P):=λw' h=>dK.ext R h;have HT:=Lib.hid aS;clear R aS;have af:=gZ w4 none;clear Ht;clear nh;go_wp2_with fail
 refine Calls.mono (O3 _ _ (jJ P) (jJ P) w4 Any Any (HR.out w4 q) (HT.out w4 af)) ?_;rintro e5 w5 ⟨v5,rfl,nh,rfl⟩;replace b:=dy b nh
 replace q:=dy q nh
 replace af:=dy af nh
 rw[show jk (jJ P) (jJ P)=true from kC.2 rfl];clear HT af;clear nh;by_cases hz:pz P=0
 case neg=>
  have bS:(pz P != 0)=true:=by simpa using hz
  clear hz;generalize pz P=cc at *;go_wp2;go_ret;exact⟨_,rfl,dy ae.out.2.1 b,rfl⟩
 rw[hz];obtain⟨F,C⟩:=MQ hz;clear hz;have hr:=C.r;have G:=lZ hr;have bT:=G.v.n6;have bU:=G.v.kT;have bH:eW P<=729:=G.v.mO;have aV:=C.lc;have aW:=C.f;have aX:=C.le;obtain⟨N,hN⟩:∃N,N=F.length:=⟨_,rfl⟩;have az:(jJ P).length=N:=by rw[C.t,List.length_map,hN]
 obtain rfl:N=an:=by
  obtain⟨a,c,e,_⟩:=Sl.shape (HR.out _ q);cases e;exact az.symm
 have bI:N<=24:=by omega
 have HM:=Lib.hid (And.intro C (And.intro hN az));clear C az hN aX;obtain⟨Q,mZ,ng,yN,_⟩:=id (I.out w5 b).1;go_wp2_with fail
 clear Q mZ ng yN;refine Calls.mono (LU P w5 _ _ (I.out w5 b).2.1) ?_;rintro e6 M ⟨v6,rfl,nh,fa,fn,fc,za,zn,zc,rfl,aY,O7⟩;replace b:=dy b nh
 replace q:=dy q nh
 rw[aV];have aZ:fU Any M (.slice fa fn fc) (iR P):=fU.sub (uO.rows (gT.iB aY (by omega))) (λ_ _ _=>trivial);have a0:∀w',Ext M w'->fU Any w' (.slice fa fn fc) (iR P):=λw' h=>fU.ext aZ h;have HQ:=Lib.hid a0;clear aZ a0;have a4:=gZ M none;rw[aW] at HQ
 obtain rfl:N=fn:=by
  obtain⟨a,c,e,_⟩:=Sl.shape (HQ.out _ a4);cases e;exact HM.out.2.1
 clear aY O7 aV aW bd be bf;clear nh;obtain⟨wk,rfl⟩:∃wk:World,wk=M:=⟨_,rfl⟩;go_wp2;go_loopw [11] (λiv wr=>∃i:Nat,iv=.int .i64 (i:Int)/\i<=N/\Ext wk wr) (λiv _=>N-(intOf iv).toNat)
 case atStart=>exact⟨0,rfl,by omega,gZ _ _⟩
 case round=>
  obtain⟨i,rfl,hi,hg⟩:=hrel;obtain⟨J,rfl⟩:∃J:World,J=wr:=⟨_,rfl⟩;have u:=dy b hg;by_cases ag:i<N
  ·have bL:(i:Int)<N:=by omega
   have bW:(0:Int)<N:=by omega
   have bX:0<N:=by omega
   have D:i<F.length:=by rw[<-HM.out.2.1];exact ag
   have C:=HM.out.1;have T:=C.sub i D;have ah:=C.dg i D;have y:=C.col i D;have K:=λj (hj:j<N)=>C.MP i j D (by rw[<-HM.out.2.1];exact hj);have E:=C.rl i D;have V:=λj (h1:i<j) (h2:j<N)=>C.mU i j h1 (by rw[<-HM.out.2.1];exact h2);rw[<-HM.out.2.1] at E;obtain⟨rb,ro,ua,uc,hab,_,_,aB,hx⟩:=fU.at (HQ.out J (dy a4 hg)) i D;subst hab;obtain⟨mb,mo,ma,mc,Df,_,_,ai,hm⟩:=dK.at (HR.out J (dy q hg)) i (by rw[HM.out.2.2];exact ag);subst Df;rw[E] at ai hm;obtain⟨U,aC⟩:∃U,U=gt F i:=⟨_,rfl⟩;rw[<-aC] at aB hx T ah y K V;obtain⟨Tr,R⟩:∃Tr,Tr=gt (jJ P) i:=⟨_,rfl⟩;rw[<-R] at hm K E;obtain⟨nb,no,O8,_,_,aj⟩:=Ints.at hm i (by rw[E];exact ag);subst O8;obtain⟨bq,O9,Hu,_,_,ak⟩:=Ints.at hm 0 (by rw[E];omega);obtain⟨rfl,rfl⟩:nb=bq/\no=O9:=by cases Hu;exact⟨rfl,rfl⟩
   rw[K i ag] at aj;rw[K 0 (by omega),Nat.add_zero] at ak;obtain⟨d,hd⟩:∃d:Int,d=((jU P U U:Nat):Int):=⟨_,rfl⟩;obtain⟨e0,aD⟩:∃e0:Int,e0=((jU P U (gt F 0):Nat):Int):=⟨_,rfl⟩;rw[<-aC,<-hd] at aj;rw[<-aD] at ak;rw[<-hd] at ah;rw[<-aD] at y;obtain⟨so,aE⟩:∃so,so=fJ P U U.length:=⟨_,rfl⟩;rw[<-aE] at y;have SN:=G.xZ (G.gG T);have a6:=G.r8 SN;have bZ:(fD P (kF P (gU P U))).length<=P.orders.length:=G.ru SN
   have a7:∀x,gU P U x->gU P (fD P (kF P (gU P U))) x:=λx hx=>by
    have e:gU P (fD P (kF P (gU P U)))=kF P (gU P U):=G.oC SN;rw[e];exact G.FQ (G.gG T) x hx
   have O:=Lib.hid (And.intro T (And.intro ah (And.intro y (And.intro a6 (And.intro a7 (And.intro aE (And.intro hm (And.intro K (And.intro V E)))))))));clear T ah y a6 SN a7 aE hm K V E aC hd aD Hu R C D;have z:∀w',Ext J w'->w'.cell? ⟨pb,0,none⟩=some (.slice a1 Y c1):=λw' h=>(I.out w' (dy u h)).1.2.1;have A:∀w',Ext J w'->w'.cell? ⟨pb,1,none⟩=some (.slice a2 Z c2):=λw' h=>(I.out w' (dy u h)).1.2.2.1;have B:∀w',Ext J w'->w'.cell? ⟨pb,2,none⟩=some (.slice a3 n3 c3):=λw' h=>(I.out w' (dy u h)).1.2.2.2.1;have L:∀w',Ext J w'->w'.cell? ⟨rb,ro+i,none⟩=some (.slice ua U.length uc):=λw' h=>h.cell aB (by simp);have W:∀w',Ext J w'->w'.cell? ⟨mb,mo+i,none⟩=some (.slice (some ⟨nb,no,none⟩) N mc):=λw' h=>h.cell ai (by simp);have al:∀w',Ext J w'->w'.cell? ⟨nb,no+i,none⟩=some (.int .i64 d):=λw' h=>h.cell aj (by simp);have am:∀w',Ext J w'->w'.cell? ⟨nb,no,none⟩=some (.int .i64 e0):=λw' h=>h.cell ak (by simp);have k:=Lib.hid (And.intro z (And.intro A (And.intro B (And.intro L (And.intro W (And.intro al am))))));clear W al am aB aj ak;go_wp2;clear ai
   go_region_held3 (λw'=>Ext J w') (first|exact fk _ _|assumption)
    (first
     | (go_at_call 26;refine Calls.mono (Calls.rel (w0:=J) (by assumption) (Mt P hr _ _ _ U _ _ (I.out _ (dy u (by assumption))).2.1 (dK.ext hx (by assumption)) O.out.1)) ?_;rintro e6 M ⟨v6,rfl,H,_,k1,k2,k3,rfl,a8⟩))
   clear z A B L;have a9:dK Any M (.slice k1 k2 k3) (fD P (kF P (gU P U))):=dK.sub (gY.rows (gN.iB a8 (by omega))) (λ_ _ _=>trivial);have bt:=Lib.hid a9;clear a9 a8;have z:∀w',Ext M w'->w'.cell? ⟨pb,0,none⟩=some (.slice a1 Y c1):=λw' h=>k.out.1 w' (dy H h);have A:∀w',Ext M w'->w'.cell? ⟨pb,1,none⟩=some (.slice a2 Z c2):=λw' h=>k.out.2.1 w' (dy H h);have B:∀w',Ext M w'->w'.cell? ⟨pb,2,none⟩=some (.slice a3 n3 c3):=λw' h=>k.out.2.2.1 w' (dy H h);have L:∀w',Ext M w'->w'.cell? ⟨rb,ro+i,none⟩=some (.slice ua U.length uc):=λw' h=>k.out.2.2.2.1 w' (dy H h);go_wp2
   go_region_held3 (λw'=>Ext M w') (first|exact fk _ _|assumption)
    (first
     | (go_at_call 27;refine Calls.mono (Calls.rel (w0:=M) (by assumption) (O5 P hr _ _ _ _ _ U _ _ _ (I.out _ (dy u (dy H (by assumption)))).2.1 (dK.ext bt.out (by assumption)) (dK.ext hx (dy H (by assumption))) O.out.2.2.2.1 O.out.1 O.out.2.2.2.2.1)) ?_;rintro e7 w7 ⟨v7,rfl,mS,_,rfl⟩))
   clear z A B L;rw[<-O.out.2.1];have m:=dy H mS;have z:∀w',Ext w7 w'->w'.cell? ⟨pb,0,none⟩=some (.slice a1 Y c1):=λw' h=>k.out.1 w' (dy m h);have A:∀w',Ext w7 w'->w'.cell? ⟨pb,1,none⟩=some (.slice a2 Z c2):=λw' h=>k.out.2.1 w' (dy m h);have B:∀w',Ext w7 w'->w'.cell? ⟨pb,2,none⟩=some (.slice a3 n3 c3):=λw' h=>k.out.2.2.1 w' (dy m h);have L:∀w',Ext w7 w'->w'.cell? ⟨rb,ro+i,none⟩=some (.slice ua U.length uc):=λw' h=>k.out.2.2.2.1 w' (dy m h);go_wp2
   go_region_held3 (λw'=>Ext w7 w') (first|exact fk _ _|assumption)
    (first
     | (go_at_call 28;refine Calls.mono (Calls.rel (w0:=w7) (by assumption) (Og P hr _ _ _ U _ _ (I.out _ (dy u (dy m (by assumption)))).2.1 (dK.ext hx (dy m (by assumption))) O.out.1)) ?_;rintro e8 w8 ⟨v8,rfl,p5,_,rfl⟩))
   clear z A B L;rw[<-O.out.2.2.2.2.2.1];have l:=dy m p5;have z:∀w',Ext w8 w'->w'.cell? ⟨pb,0,none⟩=some (.slice a1 Y c1):=λw' h=>k.out.1 w' (dy l h);have A:∀w',Ext w8 w'->w'.cell? ⟨pb,1,none⟩=some (.slice a2 Z c2):=λw' h=>k.out.2.1 w' (dy l h);have B:∀w',Ext w8 w'->w'.cell? ⟨pb,2,none⟩=some (.slice a3 n3 c3):=λw' h=>k.out.2.2.1 w' (dy l h);have W:∀w',Ext w8 w'->w'.cell? ⟨mb,mo+i,none⟩=some (.slice (some ⟨nb,no,none⟩) N mc):=λw' h=>k.out.2.2.2.2.1 w' (dy l h);have al:∀w',Ext w8 w'->w'.cell? ⟨nb,no+i,none⟩=some (.int .i64 d):=λw' h=>k.out.2.2.2.2.2.1 w' (dy l h);have am:∀w',Ext w8 w'->w'.cell? ⟨nb,no,none⟩=some (.int .i64 e0):=λw' h=>k.out.2.2.2.2.2.2 w' (dy l h);go_wp2;have bu:IntKind.i64.wrap (e0*so)=eW P:=by rw[O.out.2.2.1];exact IntWalk.i64_in _ (by omega)
   go_region_held3 (λw'=>Ext w8 w') (first|exact fk _ _|assumption)
    (first
     | (go_at_call 29;refine Calls.mono (Calls.rel (w0:=w8) (by assumption) (Mw P hr _ _ _ (I.out _ (dy u (dy l (by assumption)))).2.1)) ?_;rintro e9 w9 ⟨v9,rfl,a',_,rfl⟩))
   clear z A B bu al am;have av:=dy l a';have bv:=Lib.hid W;clear W;go_wp2;go_loopw [18] (λjv wr=>∃j:Nat,jv=.int .i64 (j:Int)/\i<j/\j<=N/\Ext w9 wr) (λjv _=>N-(intOf jv).toNat)
   case atStart=>exact⟨i+1,by go_num,by omega,by omega,gZ _ _⟩
   case round=>
    obtain⟨j,rfl,hij,hj,ao⟩:=hrel;by_cases aF:j<N
    ·have bP:(j:Int)<N:=by omega
     obtain⟨qb,qo,Hv,_,_,Pa⟩:=Ints.at (Ints.ext O.out.2.2.2.2.2.2.1 (dy av ao)) j (by rw[O.out.2.2.2.2.2.2.2.2.2];exact aF);obtain⟨rfl,rfl⟩:nb=qb/\no=qo:=by cases Hv;exact⟨rfl,rfl⟩
     rw[O.out.2.2.2.2.2.2.2.1 j aF,O.out.2.2.2.2.2.2.2.2.1 j hij aF] at Pa;have ai:=bv.out wr (dy a' ao);clear Hv;go_wp2;go_roundw
     case rel=>exact⟨j+1,by go_num,by omega,by omega,ao⟩
     case measure=>simp[intOf];omega
    ·have bx:¬(j:Int)<(N:Int):=by omega
     go_wp2;go_roundw
     case rel=>exact⟨i+1,by go_num,by omega,dy hg (dy av ao)⟩
     case measure=>simp[intOf];omega
  ·have bx:¬(i:Int)<(N:Int):=by omega
   go_wp2;go_ret;exact⟨_,rfl,dy ae.out.2.1 u,rfl⟩
end Go.Proofs.YtoakmefajbbggaaGreat
namespace Go.Proofs.YtoakmefajbbggaaGreat
open Go.RowKit Go.ChangeShapes Go.WideShapes Go.Deep
section
variable {H:Type}{enc:TypeId × Value->H}{W:World}{sp:Nat->Bool}
theorem Pb {α:Type} [Inhabited α] {El:World->Value->α->Prop}{t e:TypeId}(w:Tryz.prog.underlying t=some (.slice e)) (z:Tryz.prog.cellsOf e=1)
  (r:∀n c x,DataW.trod enc Tryz.prog W 0 sp true n e [c]=some x->∃y,El W c y) {q:Nat}{c:Value}{x:DataW H × List MemPlace}(h:DataW.trod enc Tryz.prog W 0 sp true q t [c]=some x) :
  ∃xs:List α,Sl El Any W c xs:=by
 rcases open_slice1 w z h with⟨k,_⟩|⟨a,len,cap,m,n,V,D,Pl,k,_,hl,hm,u,_,hx⟩
 ·cases k
  exact⟨[],none,0,rfl,⟨by simp,by simp,λ_=>rfl⟩,λi l=>by simp at l⟩
 ·cases k
  have A:len<=m:=by rw[u];split<;>omega
  obtain⟨Z,hZ⟩:=choose_lt (α:=α) (n:=len) (p:=λi y=>El W (V i) y) (λi l=>r n (V i) _ (hx i (by omega)).2);refine⟨(List.range len).map Z,some a,cap,by simp,⟨by simpa using hl,by simp;unfold maxLen at hm;omega,λh=>by cases h⟩,λi l => ?_⟩;simp only[List.length_map,List.length_range] at l;obtain⟨h1,h2⟩:=hx i (by omega);obtain⟨b,off,spot⟩:=a
  have B:spot=none:=by
   have C:=(hx 0 (by omega)).1;exact World.cell?_spot (by simpa [Addr.add] using C)
  subst B
  have j:W.cell? ⟨b,off+i,none⟩=some (V i):=by
   have e:(⟨b,off,none⟩:Addr).add i=⟨b,off+i,none⟩:=by
    unfold Addr.add;split
    ·rename_i h;subst h;rfl
    ·rfl
   rw[<-e];exact h1
  refine⟨b,off,V i,rfl,trivial,World.block_lt_of_cell? W _ j,j,?_⟩;have:gt ((List.range len).map Z) i=Z i:=by simp[gt,l]
  rw[this];exact hZ i l
end
end Go.Proofs.YtoakmefajbbggaaGreat
namespace Go.Proofs.YtoakmefajbbggaaGreat
open Go.RowKit Go.ChangeShapes Go.WideShapes Go.ChangeAt
theorem ownB:ownKnob Tryz.prog.godebug=none:=by kernel_rfl
theorem Pc:laidOutB Tryz.prog=true:=by kernel_rfl
theorem Pd:Tryz.prog.underlying 5=some (.int .u8):=by kernel_rfl
theorem Hw:Tryz.prog.underlying 22=some (.slice 5):=by kernel_rfl
theorem Pe:Tryz.prog.cellsOf 5=1:=by kernel_rfl
theorem Pf {H:Type}{enc:TypeId × Value->H}{W:World}{sp:Nat->Bool}{n:Nat}{c:Value}{x:DataW H × List MemPlace}(h:DataW.trod enc Tryz.prog W 0 sp true n 5 [c]=some x):∃y,Ay W c y:=by
 cases n with
 | zero=>simp[DataW.trod] at h
 | succ n=>
  unfold DataW.trod at h;rw[Pd] at h;cases c<;>simp at h
  rename_i k z;obtain⟨⟨rfl,hz⟩,_⟩:=h
  have a:0<=z/\z<=255:=by
   have b:=hz;simp[Lit.wf,IntKind.min,IntKind.max,IntKind.signed,IntKind.bits] at b
   omega
  exact⟨z,rfl,a⟩
theorem Pg {H:Type}{enc:TypeId × Value->H}{W:World}{sp:Nat->Bool}{n:Nat}{c:Value}{x:DataW H × List MemPlace}(h:DataW.trod enc Tryz.prog W 0 sp true n 22 [c]=some x):∃l,Bytes Any W c l:=
 Pb (El:=Ay) Hw Pe (λ_ _ _ h=>Pf h) h
end Go.Proofs.YtoakmefajbbggaaGreat
namespace Go.Proofs.YtoakmefajbbggaaGreat.RowMkOf
open Go.RowKit Go.ChangeShapes Go.WideShapes Go.ChangeAt
theorem lifted (os:Os) (a:os.Started) (H:Type) (enc:TypeId × Value->H) :
  ReturnsInHanded {} Tryz.checked os 4 .any (Rows.fnMarksSpec.pre6 enc Tryz.prog Tryz.f4 Rows.fnMarksRow.domain false) (Rows.fnMarksSpec.post enc Tryz.prog Tryz.f4 false true false false):=by
 refine returnsInHanded_of_change (C:=Tryz.checked) (s:=Rows.fnMarksSpec) ownB a (by kernel_rfl) Tryz.func4
  (ChangeSpec.witness6 (enc:=enc) (C:=Tryz.checked) (s:=Rows.fnMarksSpec) false ⟨#[],#[.slice none 0 0],[]⟩ 8 (by kernel_rfl) (by kernel_rfl) (by kernel_rfl) (by kernel_rfl) (by kernel_rfl)) ?_
 intro W base args B gs before i u _ _;have j:=u;obtain⟨p,q,Hx,hV,rfl,_,_⟩:=u;have w:DataW.TrodAll enc Tryz.prog W 0 (λ_=>true) true Tryz.f4.params.toList args.toList B p:=Hx;rw[Tryz.params4] at w;obtain⟨v0,Vn,d0,Vo,m,q0,hargs,rfl,rfl,h0,r0⟩:=trodAll_cons w;obtain⟨rfl,rfl,rfl⟩:=trodAll_nil r0;obtain rfl:args = #[v0]:=by cases args;simp_all
 obtain⟨rfl,rfl⟩:=trodVars_none hV;have k:Value.okWide Tryz.prog W .any base 22 v0:=i 0 _ _ (by rw[Tryz.params4];rfl) rfl;obtain⟨y,z,c0,rfl⟩:=okWide_slice Hw k;obtain⟨f0,BZ⟩:=h0;obtain⟨l,hP⟩:=Pg (c := .slice y z c0) BZ;have r:∀x∈m,x.block<W.heap.size:=λx hx=>by simpa using j.lt x (by simpa using hx)
 clear Hx;simp only[List.append_nil] at j;refine(O6 W (.slice y z c0) l Any hP).mono λe D ⟨v,he,hg,hv⟩ => ?_;subst he;subst hv;have A:Below W.heap.size W D:=hg.below;have b:=Below.trod Pc (by kernel_rfl) (of_decide_eq_true (by kernel_rfl)) ⟨f0,BZ⟩ A r;exact⟨_,rfl,[d0],[],m,[],m,[],j,trodAll_mk1 (shut_bool Tryz.underlying4 _),trodAll_mk1 b,rfl,A.frame _,λh=>by cases h⟩
theorem c0:Rows.fnMarksRow.wf (OpenSpec.ofChange Rows.fnMarksSpec)=true:=by kernel_rfl
theorem c1:laidOutB Tryz.pinned.checked.prog=true:=by kernel_rfl
theorem c2:mapsRowed Tryz.pinned.checked.prog=true:=by kernel_rfl
theorem c3:Tryz.f4.params.all (Tryz.pinned.checked.prog.readableRec ·)=true:=by kernel_rfl
theorem c4:namedTie Tryz.pinned.checked.prog Rows.fnMarksRow.named Rows.fnMarksSpec.vars=true:=by kernel_rfl
theorem c5:(Rows.fnMarksRow.stops == [])=true:=by kernel_rfl
theorem c6:(Tryz.pinned.checked.prog.stops == [])=true:=by kernel_rfl
theorem c7:(Rows.fnMarksRow.knobs == [])=true:=by kernel_rfl
theorem c8:(Tryz.pinned.checked.prog.stopKnobs == [])=true:=by kernel_rfl
theorem c9:(Rows.fnMarksRow.inPlace == Tryz.pinned.checked.prog.inPlace 4)=true:=by kernel_rfl
theorem c10:(Rows.fnMarksRow.unfollowed == Tryz.pinned.checked.prog.unfollowed 4)=true:=by kernel_rfl
theorem c11:(Rows.fnMarksRow.recurses == Tryz.pinned.checked.prog.recurses 4)=true:=by kernel_rfl
theorem c12:(Rows.fnMarksRow.named == Tryz.pinned.checked.prog.varsNamed 4)=true:=by kernel_rfl
theorem c13:(Rows.fnMarksRow.maps == (Tryz.f4.params.toList++Rows.fnMarksSpec.plain.varTypes Tryz.pinned.checked.prog).any (Tryz.pinned.checked.prog.mapsRec ·))=true:=by kernel_rfl
theorem c14:(Rows.fnMarksRow.ifaces == (Tryz.f4.params.toList++Rows.fnMarksSpec.plain.varTypes Tryz.pinned.checked.prog).any (Tryz.pinned.checked.prog.ifacesRec ·))=true:=by kernel_rfl
theorem c15:(Rows.fnMarksRow.mapsOut == Tryz.pinned.checked.prog.mapsAmong Tryz.f4.resultTypes.toList)=true:=by kernel_rfl
theorem c16:(Rows.fnMarksRow.loops == (Tryz.f4.params.toList++Rows.fnMarksSpec.plain.varTypes Tryz.pinned.checked.prog).any (Tryz.pinned.checked.prog.loopsFrom ·))=true:=by kernel_rfl
theorem c17:(Rows.fnMarksRow.wideKeys == (Tryz.f4.params.toList++Rows.fnMarksSpec.plain.varTypes Tryz.pinned.checked.prog++Tryz.f4.resultTypes.toList).any (Tryz.pinned.checked.prog.wideKeysFrom ·))=true:=by kernel_rfl
theorem c18:Rows.fnMarksSpec.vars.all (Tryz.pinned.checked.prog.varReadable ·)=true:=by kernel_rfl
theorem c19:Tryz.f4.resultTypes.all (λt=>Tryz.pinned.checked.prog.readableRec t && decide (t<Tryz.pinned.checked.prog.types.size))=true:=by kernel_rfl
theorem c20:(Rows.fnMarksRow.ifacesOut == Tryz.f4.resultTypes.toList.any (Tryz.pinned.checked.prog.ifacesRec ·))=true:=by kernel_rfl
theorem Ph:(Rows.fnMarksRow.loopsOut == Tryz.f4.resultTypes.toList.any (Tryz.pinned.checked.prog.loopsFrom ·))=true:=by kernel_rfl
theorem Pj:(Rows.fnMarksRow.plainKeys == Tryz.pinned.checked.prog.plainKeys)=true:=by kernel_rfl
theorem Pk:Rows.fnMarksRow.shortTexts.isNone=true:=by kernel_rfl
theorem Pm:Tryz.pinned.checked.prog.stopsHeard=true:=by kernel_rfl
theorem Pn:Tryz.pinned.checked.prog.mayEnter=true:=by kernel_rfl
theorem Po:(Rows.fnMarksRow.lifted == Tryz.pinned.checked.prog.liftsFinal)=true:=by kernel_rfl
theorem Pp:(Tryz.pinned.checked.prog.make == some Rows.fnMarksRow.make)=true:=by kernel_rfl
theorem Pq:(Rows.fnMarksRow.kinds == (if Rows.fnMarksRow.domain.isEmpty then [] else Tryz.f4.params.toList.map λt=>match Tryz.pinned.checked.prog.underlying t with|some (.int k)=>some k|_=>none))=true:=by kernel_rfl
theorem Pt:(Rows.fnMarksRow.pinned == Rows.fnMarksRow.pinnedBy)=true:=by kernel_rfl
theorem Pu:(Rows.fnMarksRow.veiled == (Tryz.f4.params.toList++Rows.fnMarksSpec.plain.varTypes Tryz.pinned.checked.prog++Tryz.f4.resultTypes.toList).any (Tryz.pinned.checked.prog.veiledRec ·))=true:=by kernel_rfl
theorem Pv:Rows.fnMarksRow.veiledFits Tryz.pinned.checked.prog Tryz.f4.params.toList (Tryz.f4.params.toList++Rows.fnMarksSpec.plain.varTypes Tryz.pinned.checked.prog++Tryz.f4.resultTypes.toList)=true:=by kernel_rfl
set_option maxRecDepth 1000000 in
theorem facts:joinedFacts Tryz.pinned.checked.prog 4 Tryz.f4 Rows.fnMarksSpec Rows.fnMarksRow=true:=
 Bool.and_eq_true_iff.2 ⟨Bool.and_eq_true_iff.2 ⟨Bool.and_eq_true_iff.2 ⟨Bool.and_eq_true_iff.2 ⟨Bool.and_eq_true_iff.2 ⟨Bool.and_eq_true_iff.2 ⟨Bool.and_eq_true_iff.2 ⟨Bool.and_eq_true_iff.2 ⟨Bool.and_eq_true_iff.2 ⟨Bool.and_eq_true_iff.2 ⟨Bool.and_eq_true_iff.2 ⟨Bool.and_eq_true_iff.2 ⟨Bool.and_eq_true_iff.2 ⟨Bool.and_eq_true_iff.2 ⟨Bool.and_eq_true_iff.2 ⟨Bool.and_eq_true_iff.2 ⟨Bool.and_eq_true_iff.2 ⟨Bool.and_eq_true_iff.2 ⟨Bool.and_eq_true_iff.2 ⟨Bool.and_eq_true_iff.2 ⟨Bool.and_eq_true_iff.2 ⟨Bool.and_eq_true_iff.2 ⟨Bool.and_eq_true_iff.2 ⟨Bool.and_eq_true_iff.2 ⟨Bool.and_eq_true_iff.2 ⟨Bool.and_eq_true_iff.2 ⟨Bool.and_eq_true_iff.2 ⟨Bool.and_eq_true_iff.2 ⟨Bool.and_eq_true_iff.2 ⟨Bool.and_eq_true_iff.2 ⟨Bool.and_eq_true_iff.2 ⟨c0,c1⟩,c2⟩,c3⟩,c4⟩,c5⟩,c6⟩,c7⟩,c8⟩,c9⟩,c10⟩,c11⟩,c12⟩,c13⟩,c14⟩,c15⟩,c16⟩,c17⟩,c18⟩,c19⟩,c20⟩,Ph⟩,Pj⟩,Pk⟩,Pm⟩,Pn⟩,Po⟩,Pp⟩,Pq⟩,Pt⟩,Pu⟩,Pv⟩
theorem proved:Rows.FnMarksSaid:=
 OpenClaim.holds_of_wide 4 Tryz.f4 rfl rfl rfl rfl rfl rfl rfl ⟨rfl,rfl,rfl,rfl,rfl⟩ rfl rfl rfl rfl rfl (by kernel_rfl) Tryz.func4 facts
  (of_decide_eq_true (by kernel_rfl)) (by unfold Func.isWrapper;first|(rw[if_pos (by decide +kernel)];kernel_rfl)|(rw[if_neg (by decide +kernel)];exact⟨rfl,rfl⟩))
  (λos a H enc _=>lifted os a H enc)
#print axioms proved
end Go.Proofs.YtoakmefajbbggaaGreat.RowMkOf
