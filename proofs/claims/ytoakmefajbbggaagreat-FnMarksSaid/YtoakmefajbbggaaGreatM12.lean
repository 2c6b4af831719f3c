/- Merged from templates. -/
import Derived.Test.YtoakmefajbbggaaGreatM11
import Derived.Lib.AppendZeros
set_option maxRecDepth 100000
set_option maxHeartbeats 8000000
namespace Go.Proofs.YtoakmefajbbggaaGreat
open Go.RowKit
def mJ (P:Pr) (has:List Int->Prop) (k:Nat) (y:List Int):Prop:=y∈(jf P).take k/\has y
theorem Mg (P:Pr) (has:List Int->Prop):mJ P has 0=λ_=>False:=by
 funext y;unfold mJ;simp
theorem Mh {P:Pr}{has:List Int->Prop}{k:Nat}(hk:k<(jf P).length) (h:has (gt (jf P) k)):mJ P has (k+1)=λy=>mJ P has k y\/y∈[gt (jf P) k]:=
 funext λy=>propext (by
  unfold mJ;rw[List.take_add_one,List.getElem?_eq_getElem hk,List.mem_append,gM _ _ hk];simp only[Option.toList_some,List.mem_singleton];constructor
  ·rintro ⟨h1|h1,h2⟩
   ·exact .inl ⟨h1,h2⟩
   ·exact .inr h1
  ·rintro (⟨h1,h2⟩|h1)
   ·exact⟨.inl h1,h2⟩
   ·exact⟨.inr h1,by rw[h1,<-gM _ _ hk];exact h⟩)
theorem Mi {P:Pr}{has:List Int->Prop}{k:Nat}(hk:k<(jf P).length) (h:¬has (gt (jf P) k)):mJ P has (k+1)=mJ P has k:=
 funext λy=>propext (by
  unfold mJ;rw[List.take_add_one,List.getElem?_eq_getElem hk,List.mem_append];simp only[Option.toList_some,List.mem_singleton];constructor
  ·rintro ⟨h1|h1,h2⟩
   ·exact⟨h1,h2⟩
   ·rw[h1,<-gM _ _ hk] at h2;exact absurd h2 h
  ·rintro ⟨h1,h2⟩
   exact⟨.inl h1,h2⟩)
theorem Mj {P:Pr}(hP:Valid P) (has:List Int->Prop):mJ P has (jf P).length=λy=>dL P.orders y/\has y:=
 funext λy=>propext (by
  unfold mJ;rw[List.take_length]
  have a:y∈jf P↔dL P.orders y:=by
   unfold jf;rw[List.mem_map];constructor
   ·rintro ⟨k,hk,rfl⟩
    exact rz hP _ (by omega)
   ·intro h
    have b:=oB hP h;exact⟨(num P y).toNat,by rw[List.mem_range];omega,by rw[show(((num P y).toNat:Nat):Int)=num P y by omega];exact uX hP h⟩
  rw[a])
theorem Mk {P:Pr}(hP:Valid P) {has:List Int->Prop}{k:Nat} : ∀y,mJ P has k y->dL P.orders y:=λy h=>by
 have:=List.mem_of_mem_take h.1;unfold jf at this;rw[List.mem_map] at this;obtain⟨j,hj,rfl⟩:=this;exact rz hP _ (by omega)
theorem Ml (P:Pr) (G:ez P) (w:World) (p c1 c2:Value) (has:List Int->Prop) (Sp:Nat->Prop) (U:fB Sp w p P)
  (hc:∀(w':World) (xv:Value) (X:List Int) (Sx:Nat->Prop),Ext w w'->Ints Sx w' xv X->dL P.orders X->Calls Tryz.prog 79 #[xv,c1,c2] w' (fq w' λ_ v=>∃r:Bool,v=.bool r/\(r=true↔has X))) :
  Calls Tryz.prog 78 #[p,.func (.func 79) #[] #[c1,c2]] w (fq w λw' v=>iL w.heap.size w' v (fD P (gi P (λy=>dL P.orders y/\has y)))):=by
 have hP:=G.v;have au:=hP.n6;have V:eW P<=729:=hP.mO;have W:=hP.kT;obtain⟨pb,po,rfl⟩:=U.shape;have HC:=Lib.hid hc;clear hc;go_enter Tryz.func78,Tryz.ntmps78;go_wp2_with fail
 refine Calls.mono (B9 P w _ Sp (λ_=>False) U au) ?_;rintro e1 R ⟨v1,rfl,Y,sb,gb,rfl,C⟩;have aN:=C.tab.lt;have aO:=C.sB;have aP:=C.slt;go_wp2_with fail
 refine Calls.mono (B4 P hP R _ Sp (U.ext Y)) ?_;rintro e2 Z ⟨v2,rfl,hg2,hE⟩;have av:(jf P).length=(eW P).toNat:=by simp[jf]
 have J:dK (λk=>R.heap.size<=k) Z v2 (jf P):=gY.rows (gN.iB hE (by omega));obtain⟨aE,aa,jZ,_,_⟩:=Sl.shape J;subst jZ;obtain⟨N,hN⟩:∃N,N=(jf P).length:=⟨_,rfl⟩;rw[<-hN];rw[<-hN] at J;have aw:N<=729:=by omega
 have ab:=C.kept (p9:=λ_=>False) hg2.size (λk hk _=>hg2.block k hk (by simp)) (λ_ _ h=>h)
 have ac:Ind P (gi P (mJ P has 0)) (gt (List.replicate P.orders.length ([]:List Int))):=by
  rw[Mg,G.Aa];exact G.Ab
 have ad:=dy Y hg2;have aS:R.heap.size<=Z.heap.size:=hg2.size;have HN:=Lib.hid (And.intro hN ac);clear hN ac av hE V W C;go_wp2;go_loopw [13] (λiv wr=>∃(k:Nat) (t:List (List Int)),iv=.int .i64 k/\k<=N/\Z.grownBy wr (some gb)/\kW w.heap.size (λ_=>False) wr sb gb (.pointer (some ⟨pb,po,none⟩)) P.orders.length t/\Hid (Ind P (gi P (mJ P has k)) (gt t))) (λiv _=>N-(intOf iv).toNat)
 case atStart=>exact⟨0,_,rfl,by omega,gZ _ _,ab,Lib.hid HN.out.2⟩
 case round=>
  clear ab;obtain⟨k,t,rfl,hk,hg,C,S⟩:=hrel;have b:Ext w wr:=fu ad hg (λj T l=>by cases T;omega);by_cases l:k<N
  ·have aI:(k:Int)<N:=by omega
   have D:k<(jf P).length:=by rw[<-HN.out.1];exact l
   have K:dK (λk=>R.heap.size<=k) wr (.slice aE N aa) (jf P):=dK.mono J (iQ hg (λj T _=>⟨T,λe=>by cases e;omega⟩));rw[HN.out.1] at K;obtain⟨bx,ox,a2,m,hab,_,_,ae,L⟩:=dK.at K k D;subst hab;have M:dL P.orders (gt (jf P) k):=Mk hP (has:=λ_=>True) (k:=(jf P).length) _ ⟨by rw[List.take_length];exact fT D,trivial⟩;obtain⟨x,hx⟩:∃x,x=gt (jf P) k:=⟨_,rfl⟩;rw[<-hx] at ae L M;have q:=Mh (has:=has) D;have O:=Mi (has:=has) D;rw[<-hx] at q O;have HX:=Lib.hid (And.intro M (And.intro q O));clear M q O hx;have u:=HC.out wr _ x _ b L HX.out.1;go_wp2_with fail
   refine Calls.mono u ?_;rintro e3 E ⟨v3,rfl,a,r,rfl,hr⟩;clear u ae;have z:Z.grownBy E (some gb):=dy hg (fH _ a);have Q:=C.kept (p9:=λ_=>False) a.size (λk hk _=>a.block k hk (by simp)) (λ_ _ h=>h);have aV:R.heap.size<=E.heap.size:=by have:=z.size;omega
   have af:=dy b a;have ag:=Ints.ext L a;cases r with
   | false=>
    have ah:Ind P (gi P (mJ P has (k+1))) (gt t):=by
     rw[HX.out.2.2 (λh=>by have:=hr.2 h;cases this)];exact S.out
    have az:=Lib.hid ah;clear ah hr S;go_wp2;go_roundw
    case rel=>exact⟨k+1,t,by go_num,by omega,z,Q,az⟩
    case measure=>simp[intOf];omega
   | true=>
    have A:=HX.out.2.1 (hr.1 rfl);have aA:=Lib.hid A;clear A hr;have B:Ext E (E.alloc (.cells #[.slice a2 x.length m] 24)):=World.grownBy_alloc _ _ _;have F:=Q.kept (p9:=λ_=>False) B.size (λk hk _=>B.block k hk (by simp)) (λ_ _ h=>h)
    have H:dK (λk=>¬(k=gb\/k=sb)) (E.alloc (.cells #[.slice a2 x.length m] 24)) (.slice (some ⟨E.heap.size,0,none⟩) 1 1) [x]:=by
     refine⟨some ⟨E.heap.size,0,none⟩,1,rfl,⟨by simp,by simp,λh=>by cases h⟩,λi hi=>⟨E.heap.size,0,.slice a2 x.length m,rfl,by omega,by simp,?_,?_⟩⟩
     ·have:i=0:=by simpa using hi
      subst this;rw[World.cell?_alloc_at _ _ _ _ rfl];rfl
     ·have:i=0:=by simpa using hi
      subst this
      exact Ints.sub (Ints.ext ag B) (λj T _=>by
       have T:R.heap.size<=j:=T;omega)
    have ai:∀y∈[x],dL P.orders y:=λy hy=>by rw[List.mem_singleton.1 hy];exact HX.out.1
    have HL:=Lib.hid (And.intro H ai);clear H ai;have I:=dy af B;go_wp2_with fail
    refine Calls.mono (Ca P G _ sb gb w.heap.size _ _ [x] t (gi P (mJ P has k)) (U.mono (λk _ l=>⟨by omega,Nat.lt_of_lt_of_le l I.size,I.block k l (by simp)⟩)) F S.out HL.out.2 HL.out.1 (by simp)) ?_;rintro e5 w5 ⟨t5,g5,rfl,aj,hs5,hA,_,_⟩
    have ak:Ind P (gi P (mJ P has (k+1))) (gt t5):=by
     rw[aA.out,<-zY];exact hA
    have aB:=Lib.hid ak;clear ak hA;have al:Z.grownBy w5 (some gb):=dy (dy z (fH _ B)) aj;clear S C Q F aj K;go_wp2;go_roundw
    case rel=>exact⟨k+1,t5,by go_num,by omega,al,hs5,aB⟩
    case measure=>simp[intOf];omega
  ·have aC:k=N:=by omega
   have am:Ind P (gi P (λy=>dL P.orders y/\has y)) (gt t):=by
    have:=S.out;rw[aC,HN.out.1,Mj hP] at this;exact this
   have aD:=Lib.hid am;clear am S;go_wp2_with fail
   refine Calls.mono (Cb P G wr sb gb w.heap.size _ t _ _ _ (U.ext b) C aD.out) ?_;rintro e3 E ⟨v3,rfl,a,hO⟩;go_wp2;go_ret;exact⟨_,rfl,dy b a,hO.weak b.size⟩
def kF (P:Pr) (H:List Int->Prop) (x:List Int):Prop:=dL P.orders x/\∀y,H y->H (fW P y x)
theorem Mm {P:Pr}{H:List Int->Prop}(S:Sub P H):gi P H=H:=
 funext λ_=>propext ⟨λh=>h H S (λ_ h=>h),λh=>qa h⟩
theorem ez.Mn {P:Pr}(G:ez P) {H:List Int->Prop}(S:Sub P H) {x:List Int}(h:kF P H x) (k:Nat):kF P H (pw P x k):=by
 induction k with
 | zero=>exact⟨G.jP,λy hy=>by rw[FN,G.uY (S.vec y hy)];exact hy⟩
 | succ k a=>exact⟨G.kf h.1 _,λy hy=>by rw[FO,<-G.uZ (S.vec y hy) (G.kf h.1 k) h.1];exact h.2 _ (a.2 y hy)⟩
theorem ez.xZ {P:Pr}(G:ez P) {H:List Int->Prop}(S:Sub P H):Sub P (kF P H):=
 ⟨λ_ h=>h.1,⟨G.jP,λy hy=>by rw[G.uY (S.vec y hy)];exact hy⟩,
  λx z hx a=>⟨G.gz hx.1 a.1,λy hy=>by rw[<-G.uZ (S.vec y hy) hx.1 a.1];exact a.2 _ (hx.2 y hy)⟩,
  λx hx=>by obtain⟨k,hk⟩:=G.Cs hx.1;rw[hk];exact G.Mn S hx k⟩
theorem ez.Mo {P:Pr}(G:ez P) {H:List Int->Prop}(S:Sub P H):(λx=>dL P.orders x/\∀y∈fD P H,H (fW P y x))=kF P H:=by
 have a:=G.iV S;refine funext λ_=>propext ⟨λh=>⟨h.1,λy hy => ?_⟩,λh=>⟨h.1,λy hy=>h.2 y (a.2.1 y hy)⟩⟩;have h1:gi P (λz=>z∈fD P H) y:=by rw[G.oC S];exact hy
 exact(h1 _ (G.FP S h.1) (λz b=>⟨S.vec z (a.2.1 z b),h.2 z b⟩)).2
theorem ez.FQ {P:Pr}(_G:ez P) {H:List Int->Prop}(S:Sub P H) (x:List Int) (hx:H x):kF P H x:=
 ⟨S.vec x hx,λy hy=>by unfold fW;exact S.mul _ _ (S.inv _ hx) (S.mul _ _ hy hx)⟩
theorem Mp (P:Pr) (G:ez P) (w:World) (p N I O:Value) (U:List (List Int)) (X:List Int) (H:List Int->Prop) (J Q R T:Nat->Prop) (S:Sub P H) (K:fB J w p P) (V:dK Q w N U) (W:dK R w I (fD P H)) (hx:Ints T w O X) (Y:∀x∈U,dL P.orders x) (Z:dL P.orders X) :
  Calls Tryz.prog 80 #[p,N,I,O] w (fq w λ_ v=>∃r:Bool,v=.bool r/\(r=true↔∀y∈U,H (fW P y X))):=by
 have hP:=G.v;have ad:=hP.n6;obtain⟨pb,po,rfl⟩:=K.shape;obtain⟨au,jA,rfl,_,Mq⟩:=Sl.shape V;obtain⟨av,nv,pE,Mr⟩:∃a n c,I=Value.slice a n c:=by obtain⟨a,c,e,_⟩:=Sl.shape W;exact⟨_,_,_,e⟩
 subst Mr;obtain⟨ax,l6,rfl,_,_⟩:=hx.shape;have F:=Lib.hid (And.intro Y Z);clear Y Z;go_enter Tryz.func80,Tryz.ntmps80;go_wp2;go_loopw [13] (λL wr=>∃(i:Nat),L=.int .i64 i/\i<=U.length/\Ext w wr/\Hid (∀k,k<i->H (fW P (gt U k) X))) (λL _=>U.length-(intOf L).toNat)
 case atStart=>exact⟨0,rfl,by omega,gZ _ _,Lib.hid (λk hk=>by omega)⟩
 case round=>
  obtain⟨i,rfl,hi,l,hH⟩:=hrel;by_cases q:i<U.length
  ·have aa:(i:Int)<U.length:=by omega
   obtain⟨b,off,ay,nM,rfl,_,_,hc,hy⟩:=dK.at V i q;have D:=l.cell hc (by simp);have u:=F.out.1 _ (fT q);obtain⟨y,z⟩:∃y,y=gt U i:=⟨_,rfl⟩;rw[<-z] at D hy u;have E:=Lib.hid (And.intro z u);clear z u hc;go_wp2_with fail
   refine Calls.mono (u5 P hP wr _ _ _ y X J Q T (K.ext l) (Ints.ext hy l) (hx.ext l) E.out.2 F.out.2) ?_;rintro eC wC ⟨vC,rfl,p6,A⟩;rw[G.Ar E.out.2 F.out.2] at A;have B:=G.oA E.out.2 F.out.2;have C:=A.ints (by rw[B.1];omega);obtain⟨aC,nC,Ap,p8⟩:∃a n c,vC=Value.slice a n c:=by obtain⟨a,c,e,_⟩:=C.shape;exact⟨_,_,_,e⟩
   subst p8;have M:=Lib.hid B;clear B A D;have j:=dy l p6;go_wp2_with fail
   refine Calls.mono (FR P G wC _ _ _ H (fW P y X) J R _ S (K.ext j) (dK.ext W j) C M.out) ?_;rintro eM wM ⟨vM,rfl,tL,r,rfl,hr⟩;have HR:=Lib.hid hr;clear hr C;cases r with
   | true=>
    go_wp2;go_roundw
    case rel=>exact⟨i+1,by go_num,by omega,dy j tL,Lib.hid (λk hk=>by
     rcases Nat.lt_succ_iff_lt_or_eq.1 hk with h|h
     ·exact hH.out k h
     ·rw[h,<-E.out.1];exact HR.out.1 (by simp))⟩
    case measure=>simp[intOf];omega
   | false=>
    go_wp2;go_ret
    exact ⟨_,rfl,dy j tL,false,rfl,by
     constructor
     ·intro h;cases h
     ·intro h
      have:=HR.out.2 (by rw[E.out.1];exact h _ (fT q));cases this⟩
  ·have ag:i=U.length:=by omega
   have HF:=Lib.hid (show ∀y∈U,H (fW P y X) from λy hy=>by
    obtain⟨m,hm,rfl⟩:=oW hy;exact hH.out m (by omega))
   go_wp2;go_ret
   first
    | exact⟨_,rfl,l,true,rfl,by simpa using HF.out⟩
    | exact⟨_,rfl,l,.inr ⟨rfl,HF.out⟩⟩
theorem Ms (P:Pr) (G:ez P) (w:World) (p i j:Value) (c2:Nat) (H:List Int->Prop) (X:List Int) (m k q:Nat->Prop) (S:Sub P H) (u:fB m w p P) (l:dK k w i (fD P H)) (C:w.cell? ⟨c2,0,none⟩=some i) (hx:Ints q w j X) (z:dL P.orders X) :
  Calls Tryz.prog 79 #[j,p,.pointer (some ⟨c2,0,none⟩)] w (fq w λ_ v=>∃r:Bool,v=.bool r/\(r=true↔∀y∈fD P H,H (fW P y X))):=by
 have b:=Mp P G w p i i j (fD P H) X H m k k q S u l l hx (λy hy=>S.vec y ((G.iV S).2.1 y hy)) z;obtain⟨pb,po,rfl⟩:=u.shape;obtain⟨D,nu,jA,pX⟩:∃a n c,i=Value.slice a n c:=by obtain⟨a,c,e,_⟩:=Sl.shape l;exact⟨_,_,_,e⟩
 subst pX;obtain⟨E,l6,rfl,_,_⟩:=hx.shape;have A:=Lib.hid b;clear b;go_enter Tryz.func79,Tryz.ntmps79;go_wp2_with fail
 refine Calls.mono A.out ?_;rintro F I ⟨v1,rfl,hg1,r,rfl,hr⟩;have B:=Lib.hid hr;clear hr;go_wp2;go_ret;exact⟨_,rfl,hg1,r,rfl,B.out⟩
theorem Mt (P:Pr) (L:jH P=true) (w:World) (pv V:Value) (U:List (List Int)) (Z M:Nat->Prop) (N:gy Z w pv P) (B:dK M w V U) (O:fO P U) :
  Calls Tryz.prog 26 #[pv,V] w (fq w λw' v=>∃a n c,v=.tuple #[.slice a n c,.int .i64 0]/\iL w.heap.size w' (.slice a n c) (fD P (kF P (gU P U)))):=by
 have G:=lZ L;have aa:=G.v.n6;obtain⟨vo,vp,vc,rfl,h3⟩:=N;have l:=fB.box h3 28;have m:Ext w (w.alloc (.cells #[vo,vp,vc] 28)):=World.grownBy_alloc _ _ _;obtain⟨k,b,rfl,_,_⟩:=Sl.shape B;have p:(w.alloc (.cells #[vo,vp,vc] 28)).heap.size=w.heap.size+1:=by simp
 have q:Ext (w.alloc (.cells #[vo,vp,vc] 28)) ((w.alloc (.cells #[vo,vp,vc] 28)).alloc (.cells #[.slice k U.length b] 25)):=World.grownBy_alloc _ _ _
 have C:((w.alloc (.cells #[vo,vp,vc] 28)).alloc (.cells #[.slice k U.length b] 25)).cell? ⟨w.heap.size+1,0,none⟩=some (.slice k U.length b):=by
  rw[<-p,World.cell?_alloc_at _ _ _ _ rfl];rfl
 have D:((w.alloc (.cells #[vo,vp,vc] 28)).alloc (.cells #[.slice k U.length b] 25)).heap.size=w.heap.size+1+1:=by simp
 have E:=l.ext q;have r:=dy m q;have F:=dK.ext B r;have W:=Ct F;have z:Ext ((w.alloc (.cells #[vo,vp,vc] 28)).alloc (.cells #[.slice k U.length b] 25)) (((w.alloc (.cells #[vo,vp,vc] 28)).alloc (.cells #[.slice k U.length b] 25)).alloc (.cells #[.slice k U.length b] 25)):=World.grownBy_alloc _ _ _;have j:=x4 P _ _ _ [U] Any Any (E.ext z) W;rw[D] at j;have S:=G.gG O;have A:=Lib.hid (And.intro L (And.intro O S));clear L W B p l m q D O;go_enter Tryz.func26,Tryz.ntmps26;go_wp2_with fail
 refine Calls.mono j ?_;rintro e1 Y ⟨v1,rfl,gK,r1,rfl,hr1⟩;clear j;obtain rfl:r1=true:=hr1.2 (by have:=A.out;simp only[List.mem_cons,List.mem_nil_iff,or_false];exact⟨this.1,λu B=>by subst B;exact this.2.1⟩);clear hr1;have i:=dy z gK;generalize (w.alloc (.cells #[vo,vp,vc] 28)).alloc (.cells #[.slice k U.length b] 25)=w0 at *;clear z gK;have H:=E.ext i;have I:=i.cell C (by simp)
 have J:dK M Y (.slice k U.length b) (fD P (gU P U)):=by
  have h:=dK.ext F i;have e:fD P (gU P U)=U:=A.out.2.1.2.symm;rw[e];exact h
 have K:=G.Mo A.out.2.2;have Q:=Ml P G Y (.pointer (some ⟨w.heap.size,0,none⟩)) (.pointer (some ⟨w.heap.size,0,none⟩)) (.pointer (some ⟨w.heap.size+1,0,none⟩)) (λx=>∀y∈fD P (gU P U),gU P U (fW P y x)) Any H (λw' xv X Sx R hx hX=>Ms P G w' _ _ xv (w.heap.size+1) (gU P U) X Any M Sx A.out.2.2 (H.ext R) (dK.ext J R) (R.cell I (by simp)) hx hX);rw[K,Mm (G.xZ A.out.2.2)] at Q;have HE:=Lib.hid Q;clear Q K J I C;go_wp2_with fail
 refine Calls.mono HE.out ?_;rintro e2 w2 ⟨v2,rfl,T,hO⟩;have ah:=G.ru (G.xZ A.out.2.2);obtain⟨ad,nd,UT,Mu⟩:∃a n c,v2=Value.slice a n c:=by obtain⟨a,c,e,_⟩:=jm.shape (hO.iB (by omega));exact⟨_,_,_,e⟩
 subst Mu;have HO:=Lib.hid hO;clear hO;go_wp2;go_ret2
 exact⟨_,rfl,dy r (dy i T),_,_,_,rfl,HO.out.weak (by have:=i.size;have:=r.size;omega)⟩
theorem Mv (P:Pr) (E:jH P=true) (w:World) (pv:Value) (F:Nat->Prop) (r:gy F w pv P) :
  Calls Tryz.prog 83 #[pv] w (fq w λ_ v=>v=.tuple #[.int .i64 (eW P),.int .i64 0]):=by
 have G:=lZ E;have hP:=G.v;obtain⟨vo,vp,vc,rfl,h3⟩:=r;have u:=fB.box h3 28;have y:Ext w (w.alloc (.cells #[vo,vp,vc] 28)):=World.grownBy_alloc _ _ _;obtain⟨b,fN,fM,_,_,hc0,l,m,p⟩:=u.at;simp only[Nat.zero_add] at l m;have z:=x5 (w.alloc (.cells #[vo,vp,vc] 28)) (.agg #[b,fN,fM]) P Any ⟨_,_,_,rfl,p⟩;have C:=BJ hP;rw[C] at z;have q:∀w',Ext (w.alloc (.cells #[vo,vp,vc] 28)) w'->w'.cell? ⟨w.heap.size,0,none⟩=some b:=λw' h=>h.cell hc0 (by simp);have H:=Lib.hid q;clear q C;go_enter Tryz.func83,Tryz.ntmps83;go_wp2_with fail
 clear hc0 l m;generalize w.alloc (.cells #[vo,vp,vc] 28)=w0 at *;refine Calls.mono z ?_;rintro K D ⟨v1,rfl,e,rfl⟩;clear z;have I:=H.out D e;have j:∀i,i<P.orders.length->1<=gt P.orders i/\gt P.orders i<=7:=λi A=>by have:=hP.gh i A;omega
 have k:=uF D b P.orders Any (p.o.ext e) j
 have a:jl P.orders P.orders.length=eW P:=by
  have h:=zD P.orders.length (λi A=>(j i A).1);have J:=hP.mO;exact h.2 (h.1.2 J)
 rw[a] at k;have B:=Lib.hid k;clear k a j;go_wp2_with fail
 refine Calls.mono B.out ?_;rintro _ _ ⟨rfl,rfl⟩;go_wp2;go_ret2
 exact⟨_,rfl,dy y e,rfl⟩
theorem Mw (P:Pr) (l:jH P=true) (w:World) (pv:Value) (m:Nat->Prop) (i:gy m w pv P) :
  Calls Tryz.prog 29 #[pv] w (fq w λ_ v=>v=.int .i64 (eW P)):=by
 have j:=Lib.hid l;clear l;obtain⟨vo,vp,vc,rfl,h3⟩:=i;have a:=fB.box h3 28;have k:Ext w (w.alloc (.cells #[vo,vp,vc] 28)):=World.grownBy_alloc _ _ _;obtain⟨p,fN,fM,_,_,hc0,b,e,fP⟩:=a.at;simp only[Nat.zero_add] at b e;clear a;go_enter Tryz.func29,Tryz.ntmps29;go_wp2_with fail
 clear hc0 b e;refine Calls.mono (Mv P j.out _ _ _ ⟨_,_,_,rfl,fP⟩) ?_;rintro q r ⟨v1,rfl,hg1,rfl⟩;go_wp2;go_ret;exact⟨_,rfl,dy k hg1,rfl⟩
end Go.Proofs.YtoakmefajbbggaaGreat
namespace Go.Proofs.YtoakmefajbbggaaGreat
section
variable {P:Pr}(G:ez P)
include G
theorem ez.Cu {U:List (List Int)}(a:fO P U) {g:List Int}(b:dL P.orders g):gU P (gW P U g)=jT P (gU P U) g:=by
 have S:=G.gG a;have h:=G.FT S b;have e:fD P (gU P U)=U:=a.2.symm;rw[e] at h;exact h
end
section
variable {P:Pr}(G:ez P)
include G
theorem ez.Mx {A B:List Int->Prop}(j:Sub P A) (i:Sub P B) (h:∀x,A x->B x) (e:j9 P A=j9 P B) (x:List Int) (hx:B x):A x:=by
 have k:cd (jY G A)=cd (jY G B):=by
  have h1:=tJ j (G:=G);have a:=tJ i (G:=G);have l:fJ P (fD P A) (fD P A).length=fJ P (fD P B) (fD P B).length:=e;rw[h1,a] at l;omega
 by_cases ha:A x
 ·exact ha
 ·exfalso
  have m:=i.vec x hx
  have h1:=sD ((⟨x,m⟩:El G) :: pg (jY G A)) (pg (jY G B)) (List.nodup_cons.2 ⟨λp=>ha (pq.1 p),Aj _⟩) (λy hy=>by
   rcases List.mem_cons.1 hy with rfl|b
   ·exact pq.2 hx
   ·exact pq.2 (h _ (pq.1 b)))
  have a:(pg (jY G A)).length=(pg (jY G B)).length:=k;exact Nat.not_succ_le_self _ (Nat.le_trans (Nat.le_of_eq (congrArg Nat.succ a.symm)) h1)
theorem ez.My {U V:List (List Int)}(e:fO P U) (i:fO P V) {x:List Int}(hx:dL P.orders x) (h:fJ P U U.length=fJ P V V.length) (l:∀y∈U,gU P V (fW P y x)):fD P (gU P (gW P U x))=V:=by
 have m:=G.gG e;have k:=G.gG i;have p:=G.sx m hx;have j:=G.Cu e hx
 have b:∀z,jT P (gU P U) x z->gU P V z:=by
  rw[<-j];intro z q
  exact Au k (λa ha=>by
   obtain⟨y,hy,rfl⟩:=List.mem_map.1 ha;exact l y hy) q
 have r:j9 P (jT P (gU P U) x)=j9 P (gU P V):=by
  have h1:=FE G e hx;have u:jo P U x=fD P (jT P (gU P U) x):=by show fD P (gU P (gW P U x))=_;rw[j]
  rw[u,h] at h1;show fJ P (fD P (jT P (gU P U) x)) (fD P (jT P (gU P U) x)).length=fJ P (fD P (gU P V)) (fD P (gU P V)).length
  rw[h1,<-show V=fD P (gU P V) from i.2]
 have w:jT P (gU P U) x=gU P V:=funext λz=>propext ⟨b z,G.Mx p k b r z⟩;rw[j,w];exact i.2.symm
end
end Go.Proofs.YtoakmefajbbggaaGreat
namespace Go.Proofs.YtoakmefajbbggaaGreat
open Go.RowKit
section
variable {P:Pr}(G:ez P)
include G
theorem ez.Mz {x:List Int}(hx:dL P.orders x):∃j,j<(eW P).toNat/\x=fF P (j:Int):=
 ⟨_,(G.kE hx).1,(G.kE hx).2.symm⟩
theorem ez.MA {u:List (List Int)}(a:fO P u) {x:List Int}(hx:dL P.orders x):jo P (jo P u x) (gj P x)=u:=by
 rw[G.FV a hx (G.invV hx),G.j7 hx,G.MB a]
theorem ez.FW {L:List (List (List Int))}(b:∀u∈L,fO P u):∀k,k<=L.length->∀v,v∈(gH P L k).seen↔∃j,j<k/\∃x,dL P.orders x/\v=jo P (gt L j) x
 | 0,_,v=>⟨λh=>(by cases h),λ⟨j,a,_⟩=>(by omega)⟩
 | k + 1,hk,v=>by
  have l:=ez.FW b k (by omega);have m:=b _ (iW (show k<L.length by omega));by_cases h:gt L k∈(gH P L k).seen
  ·rw [sj h,l v]
   constructor
   ·rintro⟨j,a,r⟩;exact⟨j,by omega,r⟩
   ·rintro ⟨j,a,x,hx,e⟩
    rcases Nat.lt_succ_iff_lt_or_eq.1 a with h1|h1
    ·exact⟨j,h1,x,hx,e⟩
    ·subst h1
     obtain⟨i,hi,y,hy,e2⟩:=(l _).1 h;refine⟨i,hi,fC P y x,G.gz hy hx,?_⟩;rw[e,e2,G.FV (b _ (iW (by omega))) hy hx]
  ·rw [rj h]
   show v∈(jg P (gt L k) (gH P L k).seen (eW P).toNat).1↔_
   rw[FX,l v];constructor
   ·rintro (⟨j,a,r⟩|⟨j,a,e⟩)
    ·exact⟨j,by omega,r⟩
    ·exact⟨k,by omega,_,G.kD a,e⟩
   ·rintro ⟨j,a,x,hx,e⟩
    rcases Nat.lt_succ_iff_lt_or_eq.1 a with h1|h1
    ·exact .inl ⟨j,h1,x,hx,e⟩
    ·subst h1
     obtain⟨i,hi,e2⟩:=G.Mz hx;exact .inr ⟨i,hi,by rw[e,e2]⟩
end
section
variable {P:Pr}(G:ez P)
include G
theorem ez.FY {L:List (List (List Int))}(b:L.Pairwise (iP P)) (j:∀v∈L,fO P v) {a:List (List Int)}(ha:fO P a):∃i:List (List (List Int)),i.Pairwise (iP P)/\∀u,u∈i↔(u=a\/u∈L):=by
 classical
 refine⟨L.filter (λv=>decide (iP P v a))++a :: L.filter (λv=>decide (iP P a v)),?_,?_⟩
 ·rw [List.pairwise_append]
  refine⟨b.filter _,?_,?_⟩
  ·rw [List.pairwise_cons]
   exact⟨λv l=>by simpa using (List.mem_filter.1 l).2,b.filter _⟩
  ·intro x hx y hy
   have h1:iP P x a:=by simpa using (List.mem_filter.1 hx).2
   rcases List.mem_cons.1 hy with rfl|hy
   ·exact h1
   ·exact Av h1 (by simpa using (List.mem_filter.1 hy).2)
 ·intro u
  simp only[List.mem_append,List.mem_cons,List.mem_filter,decide_eq_true_eq];constructor
  ·rintro (⟨h,_⟩|h|⟨h,_⟩)
   ·exact .inr h
   ·exact .inl h
   ·exact .inr h
  ·rintro (h|h)
   ·exact .inr (.inl h)
   ·by_cases e:u=a
    ·exact .inr (.inl e)
    ·by_cases k:iP P u a
     ·exact .inl ⟨h,k⟩
     ·exact .inr (.inr ⟨h,Aw G (j u h) ha e k⟩)
theorem ez.MC (i:eW P<=32) {L:List (List (List Int))}(h:L.Pairwise (iP P)) (j:∀v∈L,fO P v):L.length<=17408:=by
 have l:(L.map (gC P)).Nodup:=by
  refine List.nodup_iff_pairwise_ne.2 ?_;rw[List.pairwise_map];refine h.imp_of_mem (λ{a b} ha p k e => ?_);have:=G.zZ (j a ha) (j b p) e;subst this;exact x6 k
 have:=G.Ax i l (λm q=>by
  obtain⟨u,r,rfl⟩:=List.mem_map.1 q;exact⟨_,G.gG (j u r),rfl⟩)
 rwa [List.length_map] at this
theorem ez.MD (y:eW P<=32):∀(n:Nat) (L:List (List (List Int))),L.Pairwise (iP P)->(∀v∈L,fO P v)->17408-L.length<=n->∃i,jO P i:=by
 intro n;induction n with
 | zero=>
  intro L k l C;refine⟨L,k,λu=>⟨l u,λm => ?_⟩⟩;refine Decidable.byContradiction (λz => ?_);obtain⟨i,h1,w⟩:=G.FY k l m
  have p:∀v∈i,fO P v:=λv A=>by
   rcases(w v).1 A with rfl|h
   ·exact m
   ·exact l v h
  have E:=G.MC y h1 p;have q:(u :: L).Nodup:=List.nodup_cons.2 ⟨z,List.nodup_iff_pairwise_ne.2 (k.imp (λ{a b} r e=>by subst e;exact x6 r))⟩;have B:=sD _ i q (λx hx=>(w x).2 (List.mem_cons.1 hx));rw[List.length_cons] at B;omega
 | succ n D=>
  intro L k l C;by_cases j:∀u,fO P u->u∈L
  ·exact⟨L,k,λu=>⟨l u,j u⟩⟩
  ·obtain ⟨u,m⟩:=Classical.not_forall.1 j
   obtain⟨m,z⟩:=Classical.not_imp.1 m;obtain⟨i,h1,w⟩:=G.FY k l m
   have p:∀v∈i,fO P v:=λv A=>by
    rcases(w v).1 A with rfl|h
    ·exact m
    ·exact l v h
   have q:(u :: L).Nodup:=List.nodup_cons.2 ⟨z,List.nodup_iff_pairwise_ne.2 (k.imp (λ{a b} r e=>by subst e;exact x6 r))⟩;have B:=sD _ i q (λx hx=>(w x).2 (List.mem_cons.1 hx));rw[List.length_cons] at B;exact D i h1 p (by omega)
theorem ez.ME (a:eW P<=32):∃L,jO P L:=
 G.MD a 17408 [] List.Pairwise.nil (λv b=>by cases b) (by simp)
end
theorem MF (l:List Int):¬gm l []<0:=by
 cases l<;>simp[gm]
section
variable {P:Pr}(G:ez P)
include G
theorem ez.MG:fO P []:=by
 have h:=G.r8 G.sub_one;have k:=G.uS G.sub_one
 have e:fD P (λx=>x=zeros P.orders.length)=[]:=by
  have a:=G.iV G.sub_one;cases b:fD P (λx=>x=zeros P.orders.length) with
  | nil=>rfl
  | cons z l=>
   exfalso
   have i:=a.2.1 z (by rw[b];exact List.mem_cons_self ..);have j:=(a.1.1 z (by rw[b];exact List.mem_cons_self ..)).2.2;rw[i] at j;have:gt (zeros P.orders.length) (dep (zeros P.orders.length))=0:=jw _ _;omega
 rw[e] at h;exact h
theorem ez.MH {u:List (List Int)}(a:fO P u):1<=fJ P u u.length:=by
 have h:=(G.iV (G.gG a)).1;rw[<-a.2] at h;exact(ry G.v h _ (Nat.le_refl _)).1
end
end Go.Proofs.YtoakmefajbbggaaGreat
namespace Go.Proofs.YtoakmefajbbggaaGreat
open Classical
section
variable {P:Pr}(G:ez P)
include G
theorem ez.MI {U:List (List Int)}(a:fO P U):((jU P U []:Nat):Int)*fJ P U U.length=eW P:=by
 have h:=uQ P (fV P U).reverse;rw[List.reverse_reverse] at h
 have e:jU P U []=kY P (fV P U).reverse:=by
  unfold jU;rw[List.filter_eq_self.2 (λx _=>by simp),h,List.length_map,List.length_range]
 rw[e,Int.mul_comm];exact(Go.Proofs.YtoakmefajbbggaaGreat.Cm G a).symm
theorem ez.MJ {U:List (List Int)}(e:fO P U) {t:List Int}(i:dL P.orders t) (h:∀y∈U,gP P U (fW P y t)):kF P (gP P U) t:=by
 have S:=G.gG e;refine⟨i,λy hy => ?_⟩;have j:=G.Cu e i;have h1:jT P (gP P U) t (fW P y t):=⟨y,hy,rfl⟩;have b:jT P (gP P U) t=gU P (gW P U t):=j.symm;rw[b] at h1
 exact Au S (λa ha=>by
  obtain⟨z,hz,rfl⟩:=List.mem_map.1 ha;exact h z hz) h1
theorem ez.FZ {U:List (List Int)}(x:List Int) (hx:x∈iM P (fV P U)):dL P.orders x:=by
 have h:=uQ P (fV P U).reverse;rw[List.reverse_reverse] at h;rw[h] at hx;obtain⟨t,_,rfl⟩:=List.mem_map.1 hx;exact(uT G (U:=U) t).1
theorem ez.MK {U:List (List Int)}(l:fO P U):((jU P U U:Nat):Int)*j9 P (gP P U)=j9 P (kF P (gP P U)):=by
 have S:=G.gG l;have p:=G.xZ S;have q:=xV (G:=G) S;have m:=xV (G:=G) p;have R:=G.Mf l;obtain⟨ts,a⟩:∃ts,ts=((iM P (fV P U)).map (mh G)).filter (λx:El G=>decide (∀y∈U,gP P U (fW P y x.1))):=⟨_,rfl⟩
 have i:ts.length=jU P U U:=by
  rw[a,List.filter_map,List.length_map];unfold jU;congr 1
  refine List.filter_congr (λx hx => ?_);show decide (∀y∈U,gP P U (fW P y (mh G x).1))=decide (∀y∈U,gP P U (fW P y x))
  rw[uW G (G.FZ (U:=U) x hx)]
 have k:∀t,t∈ts↔t∈(iM P (fV P U)).map (mh G)/\∀y∈U,gP P U (fW P y t.1):=λt=>by
  rw[a,List.mem_filter,decide_eq_true_eq]
 have j:∀x:El G,jY G (gP P U) x->jY G (kF P (gP P U)) x:=λx hx=>G.FQ S x.1 hx;have r:∀t,t∈ts->jY G (kF P (gP P U)) t:=λt b=>G.MJ l t.2 ((k t).1 b).2
 have h:=Cj (N:=jY G (gP P U)) (B:=jY G (kF P (gP P U))) q (ts:=ts) (by rw[a];exact R.nd.filter _) (λt b n w=>m.mul _ _ (r t b) (j n w))
  (λt b u z e=>R.one t ((k t).1 b).1 u ((k u).1 z).1 e) (λx hx=>by
   obtain⟨t,b,e⟩:=R.all x;refine⟨t,(k t).2 ⟨b,λy hy => ?_⟩,e⟩;have A:t=x*(t⁻¹ * x)⁻¹ :=by rw[El.mi,El.ii,El.xR]
   have C:jY G (kF P (gP P U)) t:=by rw[A];exact m.mul _ _ hx (m.inv _ (j _ e))
   exact C.2 y (qa hy))
 rw[i] at h;have D:j9 P (kF P (gP P U))=((cd (jY G (kF P (gP P U))):Nat):Int):=tJ p;have E:j9 P (gP P U)=((cd (jY G (gP P U)):Nat):Int):=tJ S;rw[D,E,h,Int.natCast_mul]
theorem ez.ML {U:List (List Int)}(a:fO P U):((jU P U U:Nat):Int)=j9 P (kF P (gP P U))/j9 P (gP P U):=by
 have h:=G.Cp (G.gG a)
 have b:j9 P (gP P U)≠0:=λe=>by
  have h1:(1:Int)<=0:=by rw[<-e];exact h
  omega
 rw[<-G.MK a,Int.mul_ediv_cancel _ b]
theorem ez.MM {U V:List (List Int)}(i:fO P U) (e:fO P V) (h:fJ P U U.length<=fJ P V V.length) (p:∀x,dL P.orders x->jo P V x≠U):jU P U V=0:=by
 unfold jU;rw[List.length_eq_zero_iff,List.filter_eq_nil_iff];intro x hx j;rw[decide_eq_true_eq] at j;have b:=G.FZ (U:=U) x hx;have l:=G.gG i;have q:=G.gG e;have r:=G.Cu e b;have u:=G.sx q b
 have k:∀z,jT P (gU P V) x z->gU P U z:=by
  rw[<-r];intro z w
  exact Au l (λa ha=>by
   obtain⟨y,hy,rfl⟩:=List.mem_map.1 ha;exact j y hy) w
 have h1:=G.F0 u l k;have m:=FE G e b;rw[G.sy e b] at m;have A:fD P (gU P U)=U:=i.2.symm;rw[A] at h1
 have B:fJ P V V.length=fJ P U U.length:=by
  have C:=h1.1;have D:fJ P (fD P (jT P (gP P V) x)) (fD P (jT P (gP P V) x)).length=fJ P V V.length:=m;have E:fJ P (fD P (jT P (gP P V) x)) (fD P (jT P (gP P V) x)).length<=fJ P U U.length:=C;omega
 exact p x b (G.My e i b B j)
theorem ez.F2 {L:List (List (List Int))}(m:jO P L):∀k,k<=L.length->(gH P L k).firsts.Pairwise (λu v=>iP P u v/\∀x,dL P.orders x->v≠jo P u x)/\∀u∈(gH P L k).firsts,∃j,j<k/\u=gt L j
 | 0,_=>⟨List.Pairwise.nil,λu h=>by cases h⟩
 | k + 1,hk=>by
  have p:∀u∈L,fO P u:=λu a=>(m.2 u).1 a;obtain⟨b,ih2⟩:=ez.F2 m k (by omega);by_cases h:gt L k∈(gH P L k).seen
  ·rw [sj h]
   exact⟨b,λu a=>by obtain⟨j,l,e⟩:=ih2 u a;exact⟨j,by omega,e⟩⟩
  ·rw [rj h]
   have i:=G.FW p k (by omega);refine⟨?_,λu a => ?_⟩
   ·show ((gH P L k).firsts++[gt L k]).Pairwise _
    rw[List.pairwise_append];refine⟨b,by simp,λu a v q => ?_⟩;rw[List.mem_singleton.1 q];obtain⟨j,l,rfl⟩:=ih2 u a;have h1:=List.pairwise_iff_getElem.1 m.1 j k (by omega) (by omega) l;rw[<-gM L j (by omega),<-gM L k (by omega)] at h1;exact⟨h1,λx hx e=>h ((i _).2 ⟨j,l,x,hx,e⟩)⟩
   ·rcases List.mem_append.1 a with a|a
    ·obtain⟨j,l,e⟩:=ih2 u a;exact⟨j,by omega,e⟩
    ·exact⟨k,by omega,List.mem_singleton.1 a⟩
omit G in
theorem F3 (P:Pr) (L:List (List (List Int))):∀k,(gH P L (k+1)).firsts.length≥1/\gt (gH P L (k+1)).firsts 0=gt L 0
 | 0=>by
  have h:¬gt L 0∈(gH P L 0).seen:=λh=>by cases h
  rw[rj h];exact⟨Nat.le_refl _,rfl⟩
 | k + 1=>by
  obtain⟨h1,h2⟩:=F3 P L k;by_cases h:gt L (k+1)∈(gH P L (k+1)).seen
  ·rw[sj h];exact⟨h1,h2⟩
  ·rw [rj h]
   refine⟨?_,?_⟩
   ·show ((gH P L (k+1)).firsts++[gt L (k+1)]).length≥1
    rw[List.length_append];omega
   ·show gt ((gH P L (k+1)).firsts++[gt L (k+1)]) 0=gt L 0
    rw[iX _ _ _ (by omega),h2]
theorem ez.MN {L:List (List (List Int))}(a:jO P L):0<L.length/\gt L 0=[]:=by
 obtain⟨i,e,he⟩:=oW ((a.2 []).2 G.MG);refine⟨by omega,?_⟩;rcases Nat.eq_zero_or_pos i with b|b
 ·rw[<-b];exact he
 ·exfalso
  have h1:=List.pairwise_iff_getElem.1 a.1 0 i (by omega) e b;rw[<-gM L 0 (by omega),<-gM L i e,he] at h1;have k:=G.MH ((a.2 _).1 (iW (l:=L) (i:=0) (by omega)));rcases h1 with h1|⟨_,h1⟩
  ·have j:fJ P [] ([]:List (List Int)).length=1:=rfl
   rw[j] at h1;omega
  ·exact MF _ h1
end
structure MO (P:Pr) (F:List (List (List Int))):Prop where
 r:jH P=true
 f:iR P=F
 le:F.length<=24
 t:jJ P=F.map (λu=>jd P u F)
 pos:0<F.length
 z:gt F 0=[]
 sub:∀i,i<F.length->fO P (gt F i)
 MP:∀i j,i<F.length->j<F.length->gt (gt (jJ P) i) j=((jU P (gt F i) (gt F j):Nat):Int)
 rl:∀i,i<F.length->(gt (jJ P) i).length=F.length
 dg:∀i,i<F.length->((jU P (gt F i) (gt F i):Nat):Int)=j9 P (gU P (fD P (kF P (gU P (gt F i)))))/j9 P (gU P (gt F i))
 col:∀i,i<F.length->((jU P (gt F i) (gt F 0):Nat):Int)*fJ P (gt F i) (gt F i).length=eW P
 mU:∀i j,i<j->j<F.length->jU P (gt F i) (gt F j)=0
 lc:iC P=0
theorem MQ {P:Pr}(h:pz P=0):∃F,MO P F:=by
 have l:iC P=0:=by
  refine Classical.byContradiction λA => ?_;rw[(Al A).1] at h;exact A h
 have y:¬ 24<(iR P).length:=λD=>by rw[(Am l D).1] at h;omega
 have B:=(qD l).1;have G:=lZ B;obtain⟨L,w⟩:=G.ME (qD l).2;have C:=(tG l w).1;have E:∀u∈iR P,fO P u:=Co l w;have q:=(G.F2 w L.length (Nat.le_refl _)).1;rw[<-C] at q;have H:=G.MN w;have m:=F3 P L (L.length-1);rw[show L.length-1+1=L.length by omega,<-C,H.2] at m
 have r:∀i j,i<j->j<(iR P).length->iP P (gt (iR P) i) (gt (iR P) j)/\∀x,dL P.orders x->gt (iR P) j≠jo P (gt (iR P) i) x:=λi j p k=>by
  have h1:=List.pairwise_iff_getElem.1 q i j (by omega) k p;rw[<-gM _ i (by omega),<-gM _ j k] at h1;exact h1
 have a:∀i,i<(iR P).length->fO P (gt (iR P) i):=λi b=>E _ (iW b);have z:=(Ao l y).2;refine⟨iR P,B,rfl,by omega,z,by omega,m.2,a,λi j b k => ?_,λi b => ?_,λi b => ?_,λi b => ?_,λi j p k => ?_,l⟩
 ·rw [z,jM _ _ _ b]
  unfold jd;rw[jM _ _ _ k]
 ·rw[z,jM _ _ _ b,uU]
 ·have S:=G.gG (a i b)
  have e:gU P (fD P (kF P (gU P (gt (iR P) i))))=kF P (gU P (gt (iR P) i)):=G.oC (G.xZ S);rw[e];exact G.ML (a i b)
 ·rw[m.2];exact G.MI (a i b)
 ·obtain ⟨h1,h2⟩:=r i j p k
  refine G.MM (a i (by omega)) (a j k) (by rcases h1 with h1|⟨h1,_⟩<;>omega) (λx hx e => ?_);refine h2 (gj P x) (G.invV hx) ?_;rw[<-e,G.MA (a j k) hx]
end Go.Proofs.YtoakmefajbbggaaGreat
namespace Go.Proofs.YtoakmefajbbggaaGreat
open Go.RowKit
def Ay (_:World) (u:Value) (x:Int):Prop:=u=.int .u8 x/\0<=x/\x<=255
abbrev Bytes (S:Nat->Prop) (w:World) (v:Value) (l:List Int):Prop:=Sl Ay S w v l
theorem Bytes.at {S:Nat->Prop}{w:World}{a:Option Addr}{n cap:Nat}{xs:List Int}(h:Sl Ay S w (.slice a n cap) xs) (i:Nat) (j:i<xs.length) :
  ∃b off,a=some ⟨b,off,none⟩/\S b/\b<w.heap.size/\w.cell? ⟨b,off+i,none⟩=some (.int .u8 (gt xs i))/\0<=gt xs i/\gt xs i<=255:=by
 obtain⟨b,off,u,h1,h2,h3,k,e⟩:=h.at i j;obtain⟨e,h6⟩:u=.int .u8 (gt xs i)/\0<=gt xs i/\gt xs i<=255:=e;exact⟨b,off,h1,h2,h3,by rw[k,e],h6⟩
theorem Bytes.mono {S S':Nat->Prop}{w w':World}{v:Value}{xs:List Int}(h:Bytes S w v xs) (a:∀k,S k->k<w.heap.size->S' k/\k<w'.heap.size/\w'.heap[k]? = w.heap[k]?):Bytes S' w' v xs:=Sl.mono h a (λ_ _ h=>h)
theorem Bytes.ext {S:Nat->Prop}{w w':World}{v:Value}{xs:List Int}(h:Bytes S w v xs) (a:Ext w w'):Bytes S w' v xs:=h.mono (uw a)
theorem u6 (w:World) (b j:Nat) (v:Value):w.grownBy (w.setCell ⟨b,j,none⟩ v) (some b):=⟨rfl,rfl,rfl,by simp[World.setCell],λk _ hk=>Below.heap_setCell _ _ _ _ (by intro e;exact hk (by rw[e]))⟩
def Src (b:Nat) (w:World) (sb:Nat):Prop:=∃(cv:Value) (pos a:Nat) (e:List Int),fG w sb cv (.int .i64 pos) (.int .i64 a)/\Bytes (λk=>k≠sb/\k<b) w cv e/\pos<=e.length/\a<2147483647/\sb<b
theorem Src.keep {b:Nat}{w w':World}{sb:Nat}(h:Src b w sb) (e:w.heap.size<=w'.heap.size) (i:∀k,k<b->k<w.heap.size->w'.heap[k]? = w.heap[k]?):Src b w' sb:=by
 obtain⟨cv,pos,seed,bs,h1,h2,h3,h4,j⟩:=h;exact⟨cv,pos,seed,bs,h1.keep e (i sb j h1.1),Sl.mono h2 (λk hk a=>⟨hk,Nat.lt_of_lt_of_le a e,i k hk.2 a⟩) (λ_ _ h=>h),h3,h4,j⟩
theorem Src.ext {b:Nat}{w w':World}{sb:Nat}(h:Src b w sb) (e:Ext w w'):Src b w' sb:=h.keep e.size (λk _ a=>e.block k a (by simp))
theorem Src.own {a:Nat}{w w':World}{sb:Nat}{r:Option Nat}(h:Src a w sb) (i:w.grownBy w' r) (j:∀k,r=some k->a<=k):Src a w' sb:=
 h.keep i.size (λk hk b=>i.block k b (λe=>by have:=j k e.symm;omega))
theorem Src.lt {a:Nat}{w:World}{sb:Nat}(h:Src a w sb):sb<a/\sb<w.heap.size:=by
 obtain⟨cv,pos,seed,bs,h1,h2,h3,h4,h5⟩:=h;exact⟨h5,h1.1⟩
def MR (a sb:Nat) (n:Int) (w':World) (v:Value):Prop:=∃x:Int,v=.int .i64 x/\(n<=1->x=0)/\(1<n->0<=x/\x<n)/\Src a w' sb
theorem kZ (R:Nat) (w:World) (sb:Nat) (n:Int) (h:Src R w sb) :
  Calls Tryz.prog 84 #[.pointer (some ⟨sb,0,none⟩),.int .i64 n] w (mA w (some sb) (MR R sb n)):=by
 have Y:=h;obtain⟨cv,pos,F,C,hB,hby,hpos,UU,hlt⟩:=h;by_cases hn:n<=1
 ·go_enter Tryz.func84,Tryz.ntmps84
  go_wp2;go_ret;exact⟨_,rfl,gZ _ _,0,rfl,λ_=>rfl,λh=>by omega,Y⟩
 ·have ab:1<n:=by omega
  obtain⟨a,cap,rfl,_,hlen⟩:=hby.shape;obtain⟨l,hs2⟩:∃l:Nat,l=(F*48271+71)%2147483647:=⟨_,rfl⟩;have r:l<2147483647:=by omega
  have K:((F:Int)*48271+71)%2147483647=(l:Int):=by omega
  have u:=(hB.put (.int .i64 (l:Nat))).2.2;obtain⟨H,h1,h2,h3,h4⟩:=id hB;go_enter Tryz.func84,Tryz.ntmps84;have y:w.grownBy (w.setCell ⟨sb,2,none⟩ (.int .i64 (l:Nat))) (some sb):=u6 _ _ _ _;have m:Bytes (λk=>k≠sb/\k<R) (w.setCell ⟨sb,2,none⟩ (.int .i64 (l:Nat))) (.slice a C.length cap) C:=Bytes.mono hby (iQ y (λk hk _=>⟨hk,λe=>hk.1 (by cases e;rfl)⟩));have L:=Lib.hid (And.intro u (And.intro y m));clear u hB hs2 hby Y y m;go_wp2;clear H h1 h2 h3 h4 K;obtain⟨u,y,m⟩:=L.out;clear L;generalize w.setCell ⟨sb,2,none⟩ (.int .i64 (l:Nat))=I at *;obtain⟨H,h1,h2,h3,h4⟩:=id u;have i:=Lib.hid (And.intro u (And.intro y m));clear u y m;by_cases hp:pos<C.length
  ·obtain ⟨b,off,rfl,⟨BW,tM⟩,hbl,z,U,V⟩:=Bytes.at i.out.2.2 pos hp
   obtain⟨x,hx⟩:∃x,x=gt C pos:=⟨_,rfl⟩;rw[<-hx] at z U V;have HX:=Lib.hid hx;clear hx;have ad:(pos:Int)<C.length:=by omega
   have ae:(0:Int)<=pos:=by omega
   have af:0<=(l:Int)/47/\(l:Int)/47<=45691142:=by omega
   have W:IntKind.i64.wrap ((l:Int)/47+x)=(l:Int)/47+x:=IntWalk.i64_in _ (by omega);go_quiet (fail)
   go_wp2;have j:Ext I (I.drewN nq):=iI _ _ _;have G:=j.cell z (by simp);have M:sb<(I.drewN nq).heap.size:=Nat.lt_of_lt_of_le H j.size;have D:=And.intro (i.out.1.ext j) (And.intro (dy i.out.2.1 (fH (some sb) j)) (Bytes.ext i.out.2.2 j));have i:=Lib.hid D;clear D j z H h1 h2 h3 h4;obtain⟨h1,h2,h3,h4⟩:=i.out.1.2;generalize I.drewN nq=S at *;go_quiet (fail)
   have j:Ext S (S.drewN nq):=iI _ _ _;have z:=j.cell G (by simp);have H:sb<(S.drewN nq).heap.size:=Nat.lt_of_lt_of_le M j.size;have D:=And.intro (i.out.1.ext j) (And.intro (dy i.out.2.1 (fH (some sb) j)) (Bytes.ext i.out.2.2 j));have i:=Lib.hid D;clear D j G M h1 h2 h3 h4;obtain⟨h1,h2,h3,h4⟩:=i.out.1.2;generalize S.drewN nq=N at *;have A:=(i.out.1.put (.int .i64 ((pos:Int)+1))).2.1;have B:N.grownBy (N.setCell ⟨sb,1,none⟩ (.int .i64 ((pos:Int)+1))) (some sb):=u6 _ _ _ _;have p:Bytes (λk=>k≠sb/\k<R) (N.setCell ⟨sb,1,none⟩ (.int .i64 ((pos:Int)+1))) (.slice (some ⟨b,off,none⟩) C.length cap) C:=Bytes.mono i.out.2.2 (iQ B (λk hk _=>⟨hk,λe=>hk.1 (by cases e;rfl)⟩));have E:(N.setCell ⟨sb,1,none⟩ (.int .i64 ((pos:Int)+1))).cell? ⟨b,off+pos,none⟩=some (.int .u8 x):=(World.cell?_setCell_other _ _ _ _ (by first|exact λe=>BW (congrArg Addr.block e)|exact λe=>BW (congrArg Addr.block e).symm)).trans z;have q:=Lib.hid (And.intro A (And.intro (dy i.out.2.1 B) (And.intro p E)));clear A B p E i W;have X:IntKind.i64.wrap ((pos:Int)+1)=(pos:Int)+1:=IntWalk.i64_in _ (by omega);by_cases T:n<=256/\((pos:Int)+1)%2=0
   ·obtain ⟨O,Q⟩:=T
    go_wp2;clear H h1 h2 h3 h4 X z;obtain⟨A,B,p,E⟩:=q.out;have Z:IntKind.i64.wrap ((pos:Int)+1-1)=(pos:Int):=by rw[show(pos:Int)+1-1=(pos:Int) by omega];exact IntWalk.i64_in _ (by omega)
    clear q;generalize N.setCell ⟨sb,1,none⟩ (.int .i64 ((pos:Int)+1))=w4 at *;obtain⟨H,h1,h2,h3,h4⟩:=id A;have i:=Lib.hid (And.intro A (And.intro B p));clear A B p;go_quiet (fail)
    have j:Ext w4 (w4.drewN nq):=iI _ _ _;have J:0<=x%n/\x%n<n:=⟨Int.emod_nonneg _ (by omega),Int.emod_lt_of_pos _ (by omega)⟩;go_wp2;go_ret;exact⟨_,rfl,dy i.out.2.1 (fH _ j),_,rfl,λh=>by omega,λ_=>J,_,pos+1,l,C,i.out.1.ext j,i.out.2.2.ext j,by omega,r,hlt⟩
   ·have J:0<=((l:Int)/47+x)%n/\((l:Int)/47+x)%n<n:=⟨Int.emod_nonneg _ (by omega),Int.emod_lt_of_pos _ (by omega)⟩
    by_cases O:n<=256
    ·have Q:(((pos:Int)+1)%2 == 0)=false:=by simp;exact λh=>T ⟨O,h⟩
     clear T;go_wp2;go_ret;exact⟨_,rfl,q.out.2.1,_,rfl,λh=>by omega,λ_=>J,_,pos+1,l,C,q.out.1,q.out.2.2.1,by omega,r,hlt⟩
    ·clear T
     go_wp2;go_ret;exact⟨_,rfl,q.out.2.1,_,rfl,λh=>by omega,λ_=>J,_,pos+1,l,C,q.out.1,q.out.2.2.1,by omega,r,hlt⟩
  ·go_quiet (fail)
   go_wp2;have j:Ext I (I.drewN nq):=iI _ _ _;have J:0<=(l:Int)/47%n/\(l:Int)/47%n<n:=⟨Int.emod_nonneg _ (by omega),Int.emod_lt_of_pos _ (by omega)⟩;go_ret;exact⟨_,rfl,dy i.out.2.1 (fH _ j),_,rfl,λh=>by omega,λ_=>J,_,pos,l,C,i.out.1.ext j,i.out.2.2.ext j,hpos,r,hlt⟩
theorem MS:Tryz.prog.underlying 3=some (.int .i64):=by kernel_rfl
theorem Cv (m:Nat):(Builtin.zeroCells #[Value.int .i64 0] m).toList=(List.replicate m (0:Int)).map (Value.int .i64):=by
 apply List.ext_getElem
 ·simp[Builtin.zeroCells]
 ·intro i h1 a
  simp[Builtin.zeroCells,Nat.mod_one]
theorem MT (w:World) (base:Nat) (v:Value) (l:List Int) (i:Own base w v l) (U:TypeId) (m:Nat) (V:l.length+m<=2147483648) (j:base<=w.heap.size) :
  ∃W w',(Builtin.append_ #[24,3] U #[v,.int .i64 m]).run Tryz.prog w=.ok W w'/\Own base w' W (l++List.replicate m 0)/\w.grownBy w' v.ownBlock:=by
 obtain⟨Q,I,D,hz1,E⟩:=info_parts Tryz.pV;have J:=qz;have p:=MS;have X:IntKind.i64.wrap (m:Int)=m:=IntWalk.i64_in _ (by omega);have K:IntKind.i64.wrap 0=0:=IntWalk.i64_in _ (by omega);have B:¬((m:Int)<0):=by omega
 have C:¬(281474976710656<(m:Int)*(Q.bytes:Int)):=by rw[E];omega
 have z:(Value.int IntKind.i64 0).cells = #[Value.int IntKind.i64 0]:=rfl;have q:=Cv m;have A:(Builtin.zeroCells #[Value.int .i64 0] m).toList.length=m:=by rw[q];simp
 have r:=i;obtain⟨R,i⟩:=i;rcases i with⟨rfl,hn⟩|⟨g,cap,a,rfl,hbg,Y,hnc,F,hcs,y⟩
 ·have S:l=[]:=List.eq_nil_of_length_eq_zero hn
  subst S;by_cases H:m=0
  ·subst H
   refine⟨.slice none 0 0,w,?_,World.ownsRow_nil _ _ _ _,gZ _ _⟩;simp[Builtin.append_,run_underlying J,run_underlying p,sizeOf,typeInfo,I,asInt,asIntOf,K]
  ·have hr:=Lib.run_append_nil_zeros (P:=Tryz.prog) w 24 3 U 2 Q (.int .i64 0) .i64 .i64 J p I D m (by omega) (by omega) (by omega) (by rw[E];omega)
   refine⟨_,_,hr,?_,⟨rfl,rfl,rfl,by simp,λk hk _=>heap_alloc_old w.drew _ hk⟩⟩;have G:=grownCap_ge w m 0 2;have F:grownCap w m 0 2<=maxLen:=grownCap_le_maxLen w m 0 2 (by unfold maxLen;omega);have hL:(([]:List Int)++List.replicate m 0).length=m:=by simp
   refine⟨by simp,.inr ⟨w.heap.size,_,_,by rw[hL],j,heap_alloc_new w.drew _,by rw[hL];exact G,F,?_,?_⟩⟩
   ·rw [Array.size_append,z,<-Array.length_toList,A,<-Array.length_toList,Cv]
    simp;omega
   ·rw [Array.toList_append,z,q,List.nil_append]
    simp
 ·by_cases b:l.length+m<=cap
  ·by_cases H:m=0
   ·subst H
    refine⟨_,w,?_,by simpa using r,gZ _ _⟩;simp[Builtin.append_,run_underlying J,run_underlying p,sizeOf,typeInfo,I,asInt,asIntOf,K,hnc,storeCells]
   ·have L:=run_storeCells_at (P:=Tryz.prog) g (l.length*1) 2 (Builtin.zeroCells #[Value.int .i64 0] m).toList 0 a w Y (by rw[A];omega) (by rw[q];intro u hu;obtain⟨x,_,rfl⟩:=List.mem_map.1 hu;rfl)
    simp only[Nat.add_zero,Nat.mul_one] at L;rw[Nat.mul_one] at y;refine⟨.slice (some ⟨g,0,none⟩) (l.length+m) cap,w.setRow g (a.toList.take l.length++(Builtin.zeroCells #[Value.int .i64 0] m).toList++a.toList.drop (l.length+(Builtin.zeroCells #[Value.int .i64 0] m).toList.length)).toArray,?_,⟨by simp,.inr ⟨g,cap,_,by simp,hbg,setRow_heap w g a _ _ _ Y,by simp;exact b,F,?_,?_⟩⟩,⟨rfl,rfl,rfl,by simp,λk _ hk=>setRow_other w g k _ (λe=>hk (by simp[Value.ownBlock,e]))⟩⟩
    ·generalize a.toList.take l.length++(Builtin.zeroCells #[Value.int .i64 0] m).toList++a.toList.drop (l.length+(Builtin.zeroCells #[Value.int .i64 0] m).toList.length)=Z at *
     simp[Builtin.append_,run_underlying J,run_underlying p,sizeOf,typeInfo,zeroValue,I,D,hz1,asInt,asIntOf,X,B,C,b,H,z,Addr.add_lit,L]
    ·have T:a.toList.length=cap:=by rw[Array.length_toList];omega
     simp only[List.size_toArray,List.length_append,List.length_take,List.length_drop,A,T];omega
    ·rw [y,q]
     simp only[List.length_append,List.length_replicate,Nat.mul_one,List.map_append];exact List.take_left' (by simp)
  ·have H:m≠0:=by omega
   have holds:=r.cells (g:=g) rfl;have hf:=run_firstCells_some (P:=Tryz.prog) w.drew 1 l.length ⟨g,0,none⟩ l.length cap (l.map (Value.int .i64)) R (by simpa using holds);have M:¬(9223372036854775807<((l.length:Int)+(m:Int))):=by omega
   have N:¬(281474976710656<Builtin.nextslicecap (l.length+m) cap*Q.bytes):=by
    rw[E];have:=nextslicecap_le (show cap<l.length+m by omega);omega
   refine⟨.slice (some ⟨w.heap.size,0,none⟩) (l.length+m) (grownCap w (l.length+m) cap 2),w.drew.alloc (.cells ((l.map (Value.int .i64)).toArray++Builtin.zeroCells #[Value.int .i64 0] m++Builtin.zeroCells #[Value.int .i64 0] (grownCap w (l.length+m) cap 2-(l.length+m))) 2),?_,?_,⟨rfl,rfl,rfl,by simp,λk hk _=>heap_alloc_old w.drew _ hk⟩⟩
   ·simp [Builtin.append_,run_underlying J,run_underlying p,sizeOf,typeInfo,zeroValue,I,D,hz1,asInt,asIntOf,X,B,C,b,H,z,M,N,Question.forced,hf,newRow,grownCap]
    done
   ·have G:=grownCap_ge w (l.length+m) cap 2
    have O:grownCap w (l.length+m) cap 2<=maxLen:=grownCap_le_maxLen w (l.length+m) cap 2 (by unfold maxLen;omega);refine⟨by simp,.inr ⟨w.heap.size,_,_,by simp,j,heap_alloc_new w.drew _,by simp;exact G,O,?_,?_⟩⟩
    ·simp only[Array.size_append]
     rw[<-Array.length_toList (xs:=Builtin.zeroCells #[Value.int .i64 0] m),A,<-Array.length_toList (xs:=Builtin.zeroCells #[Value.int .i64 0] _),Cv];simp;omega
    ·rw [Array.toList_append,Array.toList_append,q]
     simp only[List.length_append,List.length_replicate,Nat.mul_one,List.map_append];exact List.take_left' (by simp)
theorem MU {e:Array Oper}{rest:List Oper}{o:Oper}{a:Act}{Q:Exit->Act->World->Prop}{w:World}(p:o.guard=none) (s x:Operand)
  (q:o.op=Op.call { callee:=Callee.builtin Builtin.append,args := #[s,x],argTypes := #[24,3] }) (base:Nat) (v:Value) (l:List Int) (r:a.eval s=v) (i:Own base w v l) (m:Nat) (hx:a.eval x=.int .i64 m)
  (j:l.length+m<=2147483648) (b:base<=w.heap.size)
  (h:∀k w',Own base w' k (l++List.replicate m 0)->w.grownBy w' v.ownBlock->wpList Tryz.prog e Q rest (a.put o.dst k) w') :
  wpList Tryz.prog e Q (o :: rest) a w:=by
 obtain⟨k,w',hr,h1,u⟩:=MT w base v l i o.type m j b;exact Lib.wpList_append_run w p s x _ _ q _ _ r hx k w' hr (h k w' h1 u)
theorem u7 (r:Nat) (w:World) (sb:Nat) (lv:Value) (L:List Int) (S:Nat->Prop) (h:Src r w sb) (u:Ints S w lv L) (y:∀k,S k->k≠sb) (B:0<L.length) (D:L.length<=1000) :
  Calls Tryz.prog 113 #[.pointer (some ⟨sb,0,none⟩),lv] w (mA w (some sb) λw' v=>∃i,i<L.length/\v=.int .i64 (gt L i)/\Src r w' sb):=by
 obtain⟨a,cap,rfl,_,_⟩:=u.shape;have j:=kZ r w sb L.length h;have z:=Lib.hid (And.intro u y);clear u y h;go_enter Tryz.func113,Tryz.ntmps113;go_wp2_with fail
 refine Calls.mono j ?_;rintro E F ⟨v1,rfl,l,x,rfl,m,p,q⟩;clear j;obtain⟨i,hi,hil⟩:∃i:Nat,x=i/\i<L.length:=⟨x.toNat,by omega,by omega⟩;subst hi;have A:(i:Int)<L.length:=by omega
 obtain⟨b,off,rfl,F4,_,hc⟩:=Ints.at (Ints.mono z.out.1 (iQ l (λk hk _=>⟨hk,λe=>z.out.2 k hk (by cases e;rfl)⟩))) i hil;have C:=Lib.hid (And.intro m (And.intro p q));clear m p q;go_wp2;go_ret;exact⟨_,rfl,l,i,hil,rfl,C.out.2.2⟩
def x7 (b:Nat) (v:List Int) (a:Nat):List Int:=(List.replicate b 0++v)++List.replicate a 0
theorem x8 (b:Nat) (v:List Int) (a:Nat):(x7 b v a).length=b+v.length+a:=by unfold x7;simp;omega
theorem x9 (w:World) (b:Nat) (z:Value) (v:List Int) (a:Nat) (S:Nat->Prop) (A:Ints S w z v) (F:b+v.length+a<=1000) :
  Calls Tryz.prog 265 #[.int .i64 b,z,.int .i64 a] w (fq w λw' r=>Own w.heap.size w' r (x7 b v a)):=by
 obtain⟨G,pE,rfl,_,_⟩:=A.shape;go_enter Tryz.func265,Tryz.ntmps265
 go_wp2_with (first
  | (at_make;refine lU rfl _ _ rfl w.heap.size b w.heap.size rfl _ rfl rfl rfl (by omega) (Nat.le_refl _) ?_;intro H m e B)
  | (at_builtin;refine rQ rfl _ _ rfl w.heap.size _ (List.replicate b 0) rfl m _ v rfl S (A.ext e) (by simp;omega) e.size ?_;intro C D i k _;have E:(List.replicate b (0:Int)++v).length<=1000:=by simp;omega)
  | (at_builtin;refine MU rfl _ _ rfl w.heap.size C (List.replicate b 0++v) rfl i a rfl (by simp;omega) (by have:=e.size;have:=k.size;omega) ?_;intro I J l p))
 have q:(x7 b v a).length<=9223372036854775807:=by rw[x8];omega
 obtain⟨K,c3,hv3,_⟩:=(l.ints q).shape;subst hv3;go_wp2;go_ret;refine⟨_,rfl,?_,l⟩;have h1:Ext w D:=fu e k (λj u y=>by have:=ku u;omega);exact fu h1 p (λj u y=>by have:=(i.lt j u).1;omega)
theorem MV (w:World) (F:Value) (o:List Int) (k:Nat) (x:Int) (S:Nat->Prop) (G:Ints S w F o) (U:o.length<=1000) (H:∀i,i<o.length->1<=gt o i/\gt o i<=7) (hx:0<=x/\x<=1000000000) :
  Calls Tryz.prog 229 #[F,.int .i64 k,.int .i64 x] w (fq w λw' r=>∃l,l.length=o.length/\Own w.heap.size w' r l):=by
 obtain⟨V,iA,rfl,_,_⟩:=G.shape;have I:=Lib.hid (And.intro H G);clear H;go_enter Tryz.func229,Tryz.ntmps229;go_wp2_with (at_make;refine lU rfl _ _ rfl w.heap.size o.length w.heap.size rfl _ rfl rfl rfl (by omega) (Nat.le_refl _) ?_;intro W u z A)
 go_loopw [2,8] (λK C wr=>∃(i:Nat) (y:Int) (l:List Int),C=.int .i64 i/\K=.int .i64 y/\0<=y/\y<=1000000000/\l.length=o.length/\Ext w wr/\Own w.heap.size wr (.slice (some ⟨w.heap.size,0,none⟩) o.length o.length) l) (λ_ C _=>o.length-(intOf C).toNat)
 case atStart=>exact⟨k,x,_,rfl,rfl,hx.1,hx.2,by simp,z,u⟩
 case round=>
  obtain⟨i,y,l,rfl,rfl,hy0,hy1,a,hg,hO⟩:=hrel;clear u z A;by_cases e:i<o.length
  ·have J:(i:Int)<o.length:=by omega
   obtain⟨b,off,rfl,_,hbl,hc0⟩:=Ints.at I.out.2 i e;have L:=hg.cell hc0 (by simp);have M:=I.out.1 i e;obtain⟨q,m⟩:∃q,q=gt o i:=⟨_,rfl⟩;rw[<-m] at L M;have N:=hO.cell i (by omega);have O:=hO.frozen i;obtain⟨B,hs2⟩:=hO.store i (y%q);have p:Ext w (wr.setCell ⟨w.heap.size,i,none⟩ (.int .i64 (y%q))):=fu hg hs2 (λj Q e=>by cases Q;omega);have D:0<=y/q:=Int.ediv_nonneg hy0 (by omega);have R:y/q<=y:=Int.ediv_le_self _ hy0;have T:(wr.setCell ⟨w.heap.size,i,none⟩ (.int .i64 (y%q))).cell? ⟨b,off+i,none⟩=some (.int .i64 q):=p.cell (by rw[m];exact hc0) (by simp);have E:=Lib.hid (And.intro B (And.intro p a));clear B hs2 p a m hc0;go_wp2;go_roundw
   case rel=>exact⟨i+1,y/q,l.set i (y%q),by go_num,rfl,D,by omega,by rw[List.length_set];exact E.out.2.2,E.out.2.1,E.out.1⟩
   case measure=>simp[intOf];omega
  ·go_wp2
   go_ret;exact⟨_,rfl,hg,l,a,hO⟩
def MW (B:Nat) (w':World) (v:Value):Prop:=∃(a:Option Addr) (c:Nat) (l:List Int) (r:Bool),v=.tuple #[.slice a l.length c,.bool r]/\Own B w' (.slice a l.length c) l/\l.length<=9/\∀x∈l,2<=x/\x<=7
theorem Az (w:World) (n:Nat) (U:1<=n/\n<=729) :
  Calls Tryz.prog 228 #[.int .i64 n] w (fq w (MW w.heap.size)):=by
 go_enter Tryz.func228,Tryz.ntmps228;go_wp2;go_loopw [0,4,5] (λu D E wr=>∃(m:Nat) (l:List Int) (d:Nat),u=.int .i64 m/\E=.int .i64 d/\1<=m/\2<=d/\d<=8/\m*2 ^ l.length<=729/\(∀x∈l,2<=x/\x<=7)/\Ext w wr/\Own w.heap.size wr D l) (λ_ _ E _=>8-(intOf E).toNat)
 case atStart=>exact⟨n,[],2,rfl,rfl,U.1,by omega,by omega,by simp;omega,by simp,World.grownBy_alloc _ _ _,World.ownsRow_lit w #[] 0 (Nat.le_refl _) (by decide) rfl⟩
 case round=>
  obtain⟨m,l,d,rfl,rfl,b,F,UW,y,z,hg,hO⟩:=hrel;have e:=Lib.hid (And.intro y z);clear y z;by_cases k:d<=7
  ·have i:(d:Int)<=7:=by omega
   go_wp2;go_loopw [0,4] (λu D wr=>∃(m:Nat) (l:List Int),u=.int .i64 m/\1<=m/\Hid (m*2 ^ l.length<=729/\∀x∈l,(2:Int)<=x/\x<=7)/\Ext w wr/\Own w.heap.size wr D l) (λu _ _=>(intOf u).toNat)
   case atStart=>exact⟨m,l,rfl,b,e,hg,hO⟩
   case round=>
    clear b e hg hO;obtain⟨m,l,rfl,b,e,hg,hO⟩:=hrel;have V:2<=(d:Int):=by omega
    by_cases C:kQ d=true
    ·have a:=xA d wr
     rw[C] at a;clear C;by_cases A:m%d=0
     ·have G:(m:Int)%(d:Int)=0:=by rw[<-Int.natCast_emod,A];rfl
      have H:(m:Int)/(d:Int)=((m/d:Nat):Int):=by rw[Int.natCast_ediv]
      have B:1<=m/d:=Nat.div_pos (Nat.le_of_dvd b (Nat.dvd_of_mod_eq_zero A)) (by omega);have I:m/d<m:=Nat.div_lt_self b (by omega);have J:m/d*d=m:=Nat.div_mul_cancel (Nat.dvd_of_mod_eq_zero A)
      have p:l.length<=1000000:=by
       have K:=e.out.1;have L:1*2 ^ l.length<=m*2 ^ l.length:=Nat.mul_le_mul_right _ b;have W:l.length<2 ^ l.length:=Nat.lt_two_pow_self;omega
      have M:m/d*2 ^ (l++[(d:Int)]).length<=729/\∀x∈l++[(d:Int)],(2:Int)<=x/\x<=7:=by
       refine⟨?_,λx hx => ?_⟩
       ·have K:=e.out.1
        have L:m/d*2<=m:=by
         have:=Nat.mul_le_mul_left (m/d) F;omega
        have W:=Nat.mul_le_mul_right (2 ^ l.length) L;rw[List.length_append,List.length_singleton,Nat.pow_succ,Nat.mul_comm (2 ^ l.length) 2,<-Nat.mul_assoc];omega
       ·rcases List.mem_append.1 hx with h|h
        ·exact e.out.2 x h
        ·rw[List.mem_singleton.1 h];omega
      have N:m/d<=729:=by
       have h1:=e.out.1;have K:=Nat.le_mul_of_pos_right m (Nat.two_pow_pos l.length);omega
      obtain⟨q,R⟩:∃q,q=m/d:=⟨_,rfl⟩;rw[<-R] at H B I M N;have X:=Lib.hid M;clear M e J A R;go_wp2_with fail
      refine Calls.mono a ?_;rintro S T ⟨rfl,rfl⟩;clear a;go_wp2_with (first|(at_builtin;refine qB rfl _ _ rfl w.heap.size u4 l (d:Int) rfl wr hO rfl rfl p hg.size ?_;intro v5 w5 O Q)|fail)
      go_roundw
      case rel=>exact⟨q,_,rfl,B,X,fu hg Q (λj Y k=>by have:=(hO.lt j Y).1;omega),O⟩
      case measure=>simp[intOf];omega
     ·have G:((m:Int)%(d:Int) == 0)=false:=by
       have:(m:Int)%(d:Int)=((m%d:Nat):Int):=by rw[Int.natCast_emod]
       rw[this];simp;omega
      have r:d+1<=8:=by omega
      clear A k i;go_wp2_with (first|(refine Calls.mono a ?_;rintro S T ⟨rfl,rfl⟩;clear a)|fail)
      go_roundw
      case rel=>exact⟨m,l,d+1,rfl,by go_num,b,by omega,r,e.out.1,e.out.2,hg,hO⟩
      case measure=>simp[intOf];omega
    ·have a:=xA d wr
     rw[show kQ (d:Int)=false by simpa using C] at a;have r:d+1<=8:=by omega
     clear C k i;go_wp2_with (first|(refine Calls.mono a ?_;rintro S T ⟨rfl,rfl⟩;clear a)|fail)
     go_roundw
     case rel=>exact⟨m,l,d+1,rfl,by go_num,b,by omega,r,e.out.1,e.out.2,hg,hO⟩
     case measure=>simp[intOf];omega
  ·have i:¬(d:Int)<=7:=by omega
   have p:l.length<=9:=by
    rcases Nat.lt_or_ge l.length 10 with h|h
    ·omega
    ·have h1:2 ^ 10<=2 ^ l.length:=Nat.pow_le_pow_right (by omega) h
     have K:=e.out.1;have L:1*2 ^ l.length<=m*2 ^ l.length:=Nat.mul_le_mul_right _ b;omega
   obtain⟨Z,cf,xO,_⟩:=(hO.ints (by omega)).shape;subst xO;go_wp2;go_ret2
   exact⟨_,rfl,hg,Z,cf,l,((m:Int) == 1),rfl,hO,p,e.out.2⟩
theorem MX (w:World) (b e m:Int) (j:0<=b/\b<30000) (k:0<=e/\e<=1000000000) (B:1<=m/\m<=30000) :
  Calls Tryz.prog 230 #[.int .i64 b,.int .i64 e,.int .i64 m] w (fq w λ_ v=>∃x:Int,v=.int .i64 x/\0<=x/\x<30000):=by
 have r:(1:Int)%m<m:=Int.emod_lt_of_pos _ (by omega);have l:0<=(1:Int)%m:=Int.emod_nonneg _ (by omega);go_enter Tryz.func230,Tryz.ntmps230;go_wp2;go_loopw [0,1,7] (λu ev y wr=>∃(b e o:Int),u=.int .i64 b/\ev=.int .i64 e/\y=.int .i64 o/\0<=b/\b<30000/\0<=e/\e<=1000000000/\0<=o/\o<30000/\Ext w wr) (λ_ ev _ _=>(intOf ev).toNat)
 case atStart=>exact⟨b,e,_,rfl,rfl,rfl,j.1,j.2,k.1,k.2,l,by omega,Ext.refl _⟩
 case round=>
  clear j k;obtain⟨b,e,o,rfl,rfl,rfl,a,hb1,UX,yf,lH,lW,hg⟩:=hrel;by_cases z:0<e
  ·have h1:0<=o*b/\o*b<=30000*30000:=⟨Int.mul_nonneg lH a,Int.mul_le_mul (by omega) (by omega) a (by omega)⟩
   have C:0<=b*b/\b*b<=30000*30000:=⟨Int.mul_nonneg a a,Int.mul_le_mul (by omega) (by omega) a (by omega)⟩;have A:0<=o*b%m/\o*b%m<m:=⟨Int.emod_nonneg _ (by omega),Int.emod_lt_of_pos _ (by omega)⟩;have q:0<=b*b%m/\b*b%m<m:=⟨Int.emod_nonneg _ (by omega),Int.emod_lt_of_pos _ (by omega)⟩;have D:e/2<e:=by omega
   by_cases i:e%2=1
   ·have p:(e%2 == 1)=true:=by simp[i]
    clear i;go_wp2;go_roundw
    case rel=>exact⟨_,_,_,rfl,rfl,rfl,q.1,by omega,by omega,by omega,A.1,by omega,hg⟩
    case measure=>simp[intOf];omega
   ·have p:(e%2 == 1)=false:=by simp[i]
    clear i;go_wp2;go_roundw
    case rel=>exact⟨_,_,_,rfl,rfl,rfl,q.1,by omega,by omega,by omega,lH,lW,hg⟩
    case measure=>simp[intOf];omega
  ·go_wp2
   go_ret;exact⟨_,rfl,hg,o,rfl,lH,lW⟩
theorem fG.all {W:World}{b:Nat}{a e i:Value}(h:fG W b a e i) (x y z:Value):fG (((W.setCell ⟨b,0,none⟩ x).setCell ⟨b,1,none⟩ y).setCell ⟨b,2,none⟩ z) b x y z:=
 ((((h.put x).1.put y).2.1).put z).2.2
theorem iG (w:World) (b j:Nat) (v:Value):w.grownBy (w.setCell ⟨b,j,none⟩ v) (some b):=⟨rfl,rfl,rfl,by simp[World.setCell],λk _ hk=>Below.heap_setCell _ _ _ _ (by intro e;exact hk (by rw[e]))⟩
theorem jh (w:World) (b:Nat) (x y z:Value):w.grownBy (((w.setCell ⟨b,0,none⟩ x).setCell ⟨b,1,none⟩ y).setCell ⟨b,2,none⟩ z) (some b):=
 dy (iG _ _ _ _) (dy (iG _ _ _ _) (iG _ _ _ _))
def fZ {α:Type} [Inhabited α] (El:(Nat->Prop)->World->Value->α->Prop) (E:Nat) (F:Nat->Prop) (w:World) (v:Value) (xs:List α):Prop:=
 ∃ (a:List Value) (G:Nat->Nat->Prop),a.length=xs.length/\xs.length<=9223372036854775807/\fK 0 E w v a/\(∀k,v.ownBlock=some k->F k) /\
  (∀i k,i<xs.length->G i k->F k/\v.ownBlock≠some k/\k<w.heap.size) /\
  (∀i j k,i<xs.length->j<xs.length->G i k->G j k->i=j)/\∀i,i<xs.length->El (G i) w (gt a i) (gt xs i)
section
variable {α:Type} [Inhabited α] {El:(Nat->Prop)->World->Value->α->Prop}{E:Nat}
theorem fZ.of {B:Nat}{F:Nat->Prop}{w:World}{v:Value}{xs:List α}(h:gN El E B w v xs) (e:xs.length<=9223372036854775807) (hF:∀k,B<=k->k<w.heap.size->F k):fZ El E F w v xs:=by
 obtain⟨j,G,hvl,hO,a,hd,hE⟩:=h;exact⟨j,G,hvl,e,ve hO (λ_ _=>⟨rfl,Nat.zero_le _⟩),λk hk=>hF k (hO.lt k hk).1 (hO.lt k hk).2,λi k b hk=>⟨hF k (a i k b hk).1 (a i k b hk).2.2,(a i k b hk).2⟩,hd,hE⟩
theorem fZ.d {F:Nat->Prop}{w:World}{v:Value}{xs:List α}(h:fZ El E F w v xs):jm El F w v xs:=by
 obtain⟨j,G,a,hl,hO,hF,e,hd,hE⟩:=h;refine⟨G,λk=>v.ownBlock=some k,λk hk=>hF k hk,λi k b hk=>⟨(e i k b hk).1,λh=>(e i k b hk).2.1 h⟩,hd,?_⟩;rcases hO.form with⟨rfl,rfl⟩|⟨g,cap,rfl,hnc,hBg,l5⟩
 ·have:xs.length=0:=by simpa using a.symm
  exact⟨none,0,by rw[this],⟨by omega,by omega,λ_=>rfl⟩,λi b=>by omega⟩
 ·refine ⟨_,cap,by rw[a],⟨by omega,hl,λh=>by cases h⟩,λi b=>⟨g,0,gt j i,rfl,rfl,l5,?_,hE i b⟩⟩
  rw[Nat.zero_add];exact hO.cell i (by omega)
theorem sF (l:j8 El):j8 (fZ El E):=by
 refine⟨λ{F F' w w' u x} h j => ?_,λ{F w u x} h => ?_⟩
 ·obtain ⟨m,G,hvl,hl,hO,hF,e,hd,p⟩:=h
  have a:=hO.lt
  exact ⟨m,G,hvl,hl,ve hO (λk hk=>⟨(j k (hF k hk) (a k hk).2).2.2,Nat.zero_le _⟩),λk hk=>(j k (hF k hk) (a k hk).2).1,
   λi k b hk=>⟨(j k (e i k b hk).1 (e i k b hk).2.2).1,(e i k b hk).2.1,(j k (e i k b hk).1 (e i k b hk).2.2).2.1⟩,hd,
   λi b=>l.mono (p i b) (λk hk a=>⟨hk,(j k (e i k b hk).1 a).2⟩)⟩
 ·obtain ⟨m,G,_,_,⟨_,h|⟨g,cap,cur,q,_⟩⟩,_⟩:=h
  ·rw[h.1];rfl
  ·rw[q];rfl
theorem fZ.map {a:(Nat->Prop)->World->Value->α->Prop}(b:∀F w u x,El F w u x->a F w u x) {F:Nat->Prop}{w:World}{v:Value}{xs:List α}(h:fZ El E F w v xs):fZ a E F w v xs:=by
 obtain⟨e,G,hvl,hl,hO,h1,hG,hd,j⟩:=h;exact⟨e,G,hvl,hl,hO,h1,hG,hd,λi k=>b _ _ _ _ (j i k)⟩
theorem fZ.form {F:Nat->Prop}{w:World}{v:Value}{xs:List α}(h:fZ El E F w v xs):(v=.slice none 0 0/\xs=[])\/∃g cap,v=.slice (some ⟨g,0,none⟩) xs.length cap/\F g/\g<w.heap.size:=by
 obtain⟨b,G,a,hl,hO,h1,hG,hd,hE⟩:=h;rcases hO.form with⟨rfl,rfl⟩|⟨g,cap,rfl,hnc,hBg,l5⟩
 ·exact .inl ⟨rfl,List.eq_nil_of_length_eq_zero (by simpa using a.symm)⟩
 ·exact .inr ⟨g,cap,by rw[a],h1 g rfl,l5⟩
theorem fZ.place {F:Nat->Prop}{g n cap:Nat}{w:World}{xs:List α}(h:fZ El E F w (.slice (some ⟨g,0,none⟩) n cap) xs) (k:Nat) (hk:k<xs.length):(∃z,w.cell? ⟨g,k,none⟩=some z)/\w.frozen? ⟨g,k,none⟩=false:=by
 obtain⟨a,G,hvl,hl,hO,h1,hG,hd,hE⟩:=h;refine⟨⟨_,hO.cell k (by omega)⟩,?_⟩
 have b:n=a.length:=by
  obtain⟨_,⟨h,_⟩|⟨_,_,_,h,_⟩⟩:=hO<;>cases h;rfl
 subst b;exact World.ownsRow.frozenAt hO k
theorem fZ.store (p:j8 El) {F:Nat->Prop}{g n cap:Nat}{m a:World}{xs:List α}{u:Value}{y:α}(h:fZ El E F m (.slice (some ⟨g,0,none⟩) n cap) xs)
  (z:Ext m a) (D:El (From m.heap.size) a u y) (j:Nat) :
  fZ El E (λk=>F k\/m.heap.size<=k) (a.setCell ⟨g,j,none⟩ u) (.slice (some ⟨g,0,none⟩) n cap) (xs.set j y)/\a.grownBy (a.setCell ⟨g,j,none⟩ u) (some g):=by
 obtain⟨A,G,B,hl,hO,hF,C,hd,H⟩:=h;have I:=hO.lt g rfl;have q:fK 0 E a (.slice (some ⟨g,0,none⟩) n cap) A:=hO.kept z (by simp[Value.ownBlock])
 have J:n=A.length:=by
  obtain⟨_,⟨h,_⟩|⟨_,_,_,h,_⟩⟩:=q<;>cases h;rfl
 subst J;obtain⟨h1,h2⟩:=World.ownsRow.stored q j u;have K:(a.setCell ⟨g,j,none⟩ u).heap.size=a.heap.size:=by simp[World.setCell]
 have hblk:∀k,k≠g->(a.setCell ⟨g,j,none⟩ u).heap[k]? = a.heap[k]? :=λk hk=>Below.heap_setCell _ _ _ _ (by simpa using hk);refine⟨⟨A.set j u,λi k=>if i=j then m.heap.size<=k/\k<a.heap.size else G i k/\k<m.heap.size,by simp[B],by rw[List.length_set];exact hl,?_,λk hk => .inl (hF k hk),?_,?_,?_⟩,h2⟩
 ·unfold fK;rw[List.length_set];exact h1
 ·intro i k b hk
  rw[List.length_set] at b;simp only[Value.ownBlock];split at hk
  ·exact⟨.inr hk.1,by intro e;cases e;omega,by omega⟩
  ·obtain ⟨a1,a2,a3⟩:=C i k b hk.1
   exact⟨.inl a1,a2,by have:=z.size;omega⟩
 ·intro i L k b r hk w
  rw[List.length_set] at b r;split at hk<;>split at w
  ·omega
  ·omega
  ·omega
  ·exact hd i L k b r hk.1 w.1
 ·intro i b
  rw[List.length_set] at b;by_cases e:j=i
  ·subst e
   rw[iN _ _ _ (by omega),iN _ _ _ b];simp only[if_true];exact p.mono D (λk hk l=>⟨⟨hk,l⟩,by omega,hblk k (by have hk:m.heap.size<=k:=hk;omega)⟩)
  ·rw [iy _ _ _ _ e,iy _ _ _ _ e]
   simp only[if_neg (λh:i=j=>e h.symm)];refine p.mono (H i b) (λk hk l=>⟨⟨hk,l⟩,by have:=z.size;omega,?_⟩);rw[hblk k (λe=>(C i k b hk).2.1 (by rw[e];rfl))];exact z.block k l (by simp)
theorem fZ.turn (r:j8 El) {F:Nat->Prop}{g n cap:Nat}{w:World}{xs:List α}(h:fZ El E F w (.slice (some ⟨g,0,none⟩) n cap) xs) (j:Nat) (p:j<xs.length) :
  ∃ (u:Value) (z:Nat->Prop),w.cell? ⟨g,j,none⟩=some u/\El z w u (gt xs j)/\(∀k,z k->F k/\k≠g/\k<w.heap.size) /\
   ∀w' y,Touch z w w'->El (λk=>z k\/w.heap.size<=k) w' u y->fZ El E (λk=>F k\/w.heap.size<=k) w' (.slice (some ⟨g,0,none⟩) n cap) (xs.set j y):=by
 obtain⟨D,G,hvl,hl,hO,hF,b,A,H⟩:=h;have I:=hO.lt g rfl;refine⟨gt D j,G j,hO.cell j (by omega),H j p,λk hk=>⟨(b j k p hk).1,λe=>(b j k p hk).2.1 (by rw[e];rfl),(b j k p hk).2.2⟩,λw' y B hy => ?_⟩;refine⟨D,λi k=>if i=j then (G j k\/w.heap.size<=k)/\k<w'.heap.size else G i k,by rw[List.length_set];exact hvl,by rw[List.length_set];exact hl,ve hO (λk hk=>⟨B.block k (hO.lt k hk).2 (λe=>(b j k p e).2.1 hk),Nat.zero_le _⟩),λk hk => .inl (hF k hk),?_,?_,?_⟩
 ·intro i k a hk
  rw[List.length_set] at a;split at hk
  ·rcases hk with⟨hk|hk,hk2⟩
   ·exact⟨.inl (b j k p hk).1,(b j k p hk).2.1,hk2⟩
   ·exact⟨.inr hk,λe=>by have:=(hO.lt k e).2;omega,hk2⟩
  ·exact⟨.inl (b i k a hk).1,(b i k a hk).2.1,by have:=B.size;have:=(b i k a hk).2.2;omega⟩
 ·intro i C k a q hk l
  rw[List.length_set] at a q;split at hk<;>split at l
  ·omega
  ·rcases hk.1 with h1|h1
   ·exact(by have:=A j C k p q h1 l;omega)
   ·have:=(b C k q l).2.2;omega
  ·rcases l.1 with h1|h1
   ·exact(by have:=A i j k a p hk h1;omega)
   ·have:=(b i k a hk).2.2;omega
  ·exact A i C k a q hk l
 ·intro i a
  rw[List.length_set] at a;by_cases e:j=i
  ·subst e
   rw[iN _ _ _ a];simp only[if_true];exact r.mono hy (λk hk m=>⟨⟨hk,m⟩,m,rfl⟩)
  ·rw [iy _ _ _ _ e]
   simp only[if_neg (λh:i=j=>e h.symm)];exact r.mono (H i a) (λk hk m=>⟨hk,Nat.lt_of_lt_of_le m B.size,B.block k m (λJ=>e (A j i k p a J hk))⟩)
end
/-! ### append to such slices -/
section
variable {α:Type} [Inhabited α] {El:(Nat->Prop)->World->Value->α->Prop}{E:Nat}
theorem fZ.grow (A:j8 El) {F:Nat->Prop}{l q w':World}{v B u:Value}{xs:List α}{y:α}{C:List Value}{G:Nat->Nat->Prop}(V:xs.length<=1000000)
  (w:C.length=xs.length) (hO:fK 0 E l v C) (hF:∀k,v.ownBlock=some k->F k) (N:∀i k,i<xs.length->G i k->F k/\v.ownBlock≠some k/\k<l.heap.size)
  (R:∀i j k,i<xs.length->j<xs.length->G i k->G j k->i=j) (J:∀i,i<xs.length->El (G i) l (gt C i) (gt xs i))
  (O:Ext l q) (S:El (From l.heap.size) q u y) (h1:fK 0 E w' B (C++[u])) (T:(q.alloc (.cells #[u] E)).grownBy w' v.ownBlock) (K:B.ownBlock=v.ownBlock\/B.ownBlock=some (q.heap.size+1)) :
  fZ El E (λk=>F k\/l.heap.size<=k) w' B (xs++[y])/\l.grownBy w' v.ownBlock/\q.grownBy w' v.ownBlock:=by
 have L:Ext q (q.alloc (.cells #[u] E)):=World.grownBy_alloc _ _ _;have D:∀k,v.ownBlock=some k->k<l.heap.size:=λk hk=>(hO.lt k hk).2;have m:q.grownBy w' v.ownBlock:=dy (fH _ L) T;have r:l.grownBy w' v.ownBlock:=dy (fH _ O) m
 have p:∀k,B.ownBlock=some k->v.ownBlock=some k\/q.heap.size<k:=by
  intro k hk;rcases K with h|h
  ·exact .inl (by rw[<-h];exact hk)
  ·rw[h] at hk;cases hk;exact .inr (by omega)
 have Q:=O.size;refine⟨⟨C++[u],λi k=>if i<xs.length then G i k/\k<l.heap.size else l.heap.size<=k/\k<q.heap.size,by simp[w],by simp;omega,h1,?_,?_,?_,?_⟩,r,m⟩
 ·intro k hk
  rcases p k hk with h|h
  ·exact .inl (hF k h)
  ·exact .inr (by omega)
 ·intro i k I hk
  split at hk
  ·rename_i b
   obtain⟨a1,a2,a3⟩:=N i k b hk.1;refine⟨.inl a1,λz => ?_,Nat.lt_of_lt_of_le a3 r.size⟩;rcases p k z with h|h
   ·exact a2 h
   ·omega
  ·refine ⟨.inr hk.1,λz => ?_,Nat.lt_of_lt_of_le hk.2 m.size⟩
   rcases p k z with h|h
   ·have:=D k h;omega
   ·omega
 ·intro i j k I U hk H
  simp only[List.length_append,List.length_singleton] at I U;split at hk<;>split at H
  ·exact R i j k (by assumption) (by assumption) hk.1 H.1
  ·omega
  ·omega
  ·omega
 ·intro i I
  simp only[List.length_append,List.length_singleton] at I;by_cases b:i<xs.length
  ·rw [iX _ _ _ (by omega),iX _ _ _ b]
   simp only[if_pos b];exact A.mono (J i b) (λk hk a=>⟨⟨hk,a⟩,Nat.lt_of_lt_of_le a r.size,r.block k a (λe=>(N i k b hk).2.1 e.symm)⟩)
  ·have M:i=xs.length:=by omega
   subst M;rw[kr,<-w,kr];simp only[w,Nat.lt_irrefl,if_false]
   exact A.mono S (λk hk a=>⟨⟨hk,a⟩,Nat.lt_of_lt_of_le a m.size,m.block k a (λe=>by
    have hk:l.heap.size<=k:=hk;have:=D k e.symm;omega)⟩)
theorem MZ (e:j8 El) (T:Nat) (z:Value) (bytes:Nat) (M:Tryz.prog.underlying T=some (.slice E))
  (N:(Tryz.prog.info? E).map (λi=>(i.zero,i.size,i.bytes))=some (some z,1,bytes)) (B:z.cells.size=1) (C:bytes<=64)
  {l:Array Oper}{rest:List Oper}{o:Oper}{a:Act}{Q:Exit->Act->World->Prop}{w:World}(D:o.guard=none) (s x:Operand)
  (O:o.op=Op.call { callee:=Callee.builtin Builtin.append,args := #[s,x],argTypes := #[T,T] }) (F:Nat->Prop) (m b:World) (v u:Value) (xs:List α) (y:α) (R:a.eval s=v) (p:fZ El E F m v xs)
  (J:Ext m b) (K:El (From m.heap.size) b u y) (S:w=b.alloc (.cells #[u] E)) (hx:a.eval x=.slice (some ⟨b.heap.size,0,none⟩) 1 1) (q:xs.length<=1000000)
  (h:∀A w',fZ El E (λk=>F k\/m.heap.size<=k) w' A (xs++[y])->m.grownBy w' v.ownBlock->b.grownBy w' v.ownBlock->wpList Tryz.prog l Q rest (a.put o.dst A) w') :
  wpList Tryz.prog l Q (o :: rest) a w:=by
 subst S;obtain⟨L,G,hvl,_,hO,hF,hG,hd,Cw⟩:=p;have H:Ext b (b.alloc (.cells #[u] E)):=World.grownBy_alloc _ _ _;have I:fK 0 E (b.alloc (.cells #[u] E)) v L:=hO.kept (dy J H) (by cases Y:v.ownBlock<;>simp);refine nX T E z bytes M N B C D s x O 0 v L R I (some ⟨b.heap.size,0,none⟩) 1 1 [u] hx rfl (by simp) ?_ ?_ (by omega) (by omega) ?_
 ·intro j Z
  have:j=0:=by omega
  subst this;exact⟨_,_,rfl,by rw[World.cell?_alloc_at _ _ _ _ rfl];rfl⟩
 ·intro u' r
  simp at r;subst r;exact e.one K
 ·intro A w' U V _ W
  obtain⟨X,r2,r3⟩:=fZ.grow e q hvl hO hF hG hd Cw J K U V (by rcases W with k|k;exact .inl k;exact .inr (by rw[k];simp));exact h A w' X r2 r3
theorem F5 (e:j8 El) (T:Nat) (z:Value) (bytes:Nat) (L:Tryz.prog.underlying T=some (.slice E))
  (M:(Tryz.prog.info? E).map (λi=>(i.zero,i.size,i.bytes))=some (some z,1,bytes)) (q:z.cells.size=1) (r:bytes<=64)
  {A:Array Oper}{o:Oper}{a:Act}{K:Act->World->Prop}{Q:Exit->Act->World->Prop}{N:Prop}{w:World}(B:o.guard=none) (s x:Operand)
  (O:o.op=Op.call { callee:=Callee.builtin Builtin.append,args := #[s,x],argTypes := #[T,T] }) (F:Nat->Prop) (j b:World) (v u:Value) (xs:List α) (y:α) (R:a.eval s=v) (l:fZ El E F j v xs)
  (H:Ext j b) (I:El (From j.heap.size) b u y) (S:w=b.alloc (.cells #[u] E)) (hx:a.eval x=.slice (some ⟨b.heap.size,0,none⟩) 1 1) (m:xs.length<=1000000)
  (h:∀p w',fZ El E (λk=>F k\/j.heap.size<=k) w' p (xs++[y])->j.grownBy w' v.ownBlock->b.grownBy w' v.ownBlock->K (a.put o.dst p) w') :
  if Region.wanted o (yielded A a.tmps)=true then Oper.wp Tryz.prog o a w K Q else N:=by
 subst S;obtain⟨J,G,hvl,_,hO,hF,hG,hd,Cw⟩:=l;have C:Ext b (b.alloc (.cells #[u] E)):=World.grownBy_alloc _ _ _;have D:fK 0 E (b.alloc (.cells #[u] E)) v J:=hO.kept (dy H C) (by cases Y:v.ownBlock<;>simp);refine vg T E z bytes L M q r B s x O 0 v J R D b.heap.size u hx (by rw[World.cell?_alloc_at _ _ _ _ rfl];rfl) (e.one I) (by omega) (by omega) ?_;intro p w' U V W;obtain⟨X,r2,r3⟩:=fZ.grow e m hvl hO hF hG hd Cw H I U V (by rcases W with k|k;exact .inl k;exact .inr (by rw[k];simp));exact h p w' X r2 r3
end
theorem F6 (n:Nat) (k:n<=2147483648) (w:World):(Instr.makeSlice 24 (.int .i64 (n:Int)) (.int .i64 (n:Int))).run Tryz.prog w=.ok (.slice (some ⟨w.heap.size,0,none⟩) n n) (w.alloc (.cells (madeCells #[.int .i64 0] n) 2)):=by
 obtain⟨i,j,a,hz1,b⟩:=info_parts Tryz.pV;have e:=run_make (P:=Tryz.prog) w 24 2 i (.int .i64 0) qz j a .i64 .i64 n n (by omega) (Int.le_refl _) (by rw[b];omega) (by omega);simp only[Int.toNat_natCast,hz1,Nat.mul_one] at e;exact e
theorem tN (n:Nat) (a:n<=2147483648) (w:World):Own w.heap.size (w.alloc (.cells (madeCells #[.int .i64 0] n) 2)) (.slice (some ⟨w.heap.size,0,none⟩) n n) (List.replicate n 0):=by
 have h:=World.ownsRow_lit (base:=w.heap.size) (e:=2) (size:=1) w (madeCells #[.int .i64 0] n) n (Nat.le_refl _) (by unfold maxLen;omega) (by have:=size_madeCells #[Value.int .i64 0] n;simpa using this);rw[toList_madeCells_one] at h;show World.ownsRow _ _ _ _ _ _ _
 rw[List.length_replicate,List.map_replicate];exact h
abbrev mK (F:Nat->Prop) (w:World) (v:Value) (xs:List (List Int)):Prop:=fZ gf 24 F w v xs
abbrev pF (F:Nat->Prop) (w:World) (v:Value) (xs:List (List (List Int))):Prop:=fZ (fZ gf 24) 25 F w v xs
theorem qG:j8 (λF w u (x:List (List Int))=>mK F w u x):=sF gX
theorem sG:j8 (λF w u (x:List (List (List Int)))=>pF F w u x):=sF (sF gX)
theorem mK.rows {F:Nat->Prop}{w:World}{v:Value}{xs:List (List Int)}(h:mK F w v xs):dK F w v xs:=gY.rows (fZ.d h)
theorem pF.rows {F:Nat->Prop}{w:World}{v:Value}{xs:List (List (List Int))}(h:pF F w v xs):fU F w v xs:=uO.rows (fZ.d (fZ.map (λ_ _ _ _ h=>fZ.d h) h))
def gu (F:Nat->Prop) (w:World) (vo vp vc:Value) (P:Pr):Prop:=
 ∃Fo Fp Fc:Nat->Prop,gf Fo w vo P.orders/\mK Fp w vp P.eH/\pF Fc w vc P.conj/\(∀k,Fo k->F k/\¬Fp k/\¬Fc k)/\(∀k,Fp k->F k/\¬Fc k)/\(∀k,Fc k->F k)
theorem gu.p3 {F:Nat->Prop}{w:World}{vo vp vc:Value}{P:Pr}(h:gu F w vo vp vc P):fA F w vo vp vc P:=by
 obtain⟨Fo,Fp,Fc,h1,a,b,e,i,h6⟩:=h;exact⟨Ints.sub h1.ints (λk hk _=>(e k hk).1),dK.sub (mK.rows a) (λk hk _=>(i k hk).1),fU.sub (pF.rows b) (λk hk _=>h6 k hk)⟩
theorem gu.mono {F F':Nat->Prop}{w w':World}{vo vp vc:Value}{P:Pr}(h:gu F w vo vp vc P) (b:∀k,F k->k<w.heap.size->F' k/\k<w'.heap.size/\w'.heap[k]? = w.heap[k]?):gu F' w' vo vp vc P:=by
 obtain⟨Fo,Fp,Fc,h1,h2,h3,e,i,j⟩:=h
 refine ⟨λk=>Fo k/\k<w.heap.size,λk=>Fp k/\k<w.heap.size,λk=>Fc k/\k<w.heap.size,gX.mono h1 (λk hk a=>⟨⟨hk,a⟩,(b k (e k hk).1 a).2⟩),
  qG.mono h2 (λk hk a=>⟨⟨hk,a⟩,(b k (i k hk).1 a).2⟩),sG.mono h3 (λk hk a=>⟨⟨hk,a⟩,(b k (j k hk) a).2⟩),λk hk => ?_,λk hk => ?_,λk hk => ?_⟩
 ·exact⟨(b k (e k hk.1).1 hk.2).1,λh=>(e k hk.1).2.1 h.1,λh=>(e k hk.1).2.2 h.1⟩
 ·exact⟨(b k (i k hk.1).1 hk.2).1,λh=>(i k hk.1).2 h.1⟩
 ·exact(b k (j k hk.1) hk.2).1
theorem gu.shape {F:Nat->Prop}{w:World}{vo vp vc:Value}{P:Pr}(h:gu F w vo vp vc P):∃a c a2 c2 b c3,vo=.slice a P.orders.length c/\vp=.slice a2 P.eH.length c2/\vc=.slice b P.conj.length c3:=by
 obtain⟨Fo,Fp,Fc,h1,e,i,_⟩:=h;obtain⟨a,c,rfl,_⟩:=h1.ints.shape;obtain⟨a2,c2,rfl,_⟩:=jm.shape (fZ.d e);obtain⟨b,c3,rfl,_⟩:=jm.shape (fZ.d i);exact⟨_,_,_,_,_,_,rfl,rfl,rfl⟩
theorem gu.wide {F F':Nat->Prop}{w:World}{vo vp vc:Value}{P:Pr}(h:gu F w vo vp vc P) (hF:∀k,F k->F' k):gu F' w vo vp vc P:=by
 obtain⟨Fo,Fp,Fc,h1,h2,h3,a,b,e⟩:=h;exact⟨Fo,Fp,Fc,h1,h2,h3,λk hk=>⟨hF k (a k hk).1,(a k hk).2⟩,λk hk=>⟨hF k (b k hk).1,(b k hk).2⟩,λk hk=>hF k (e k hk)⟩
theorem gu.put {F:Nat->Prop}{w w':World}{vo vp vc:Value}{l:Pr}{Fo Fp Fc tO sH sI:Nat->Prop}(r:Option Nat) (_hT:w.grownBy w' r)
  (h1:gf tO w' vo l.orders) (y:mK sH w' vp l.eH) (z:pF sI w' vc l.conj)
  (q:∀k,Fo k->F k/\¬Fp k/\¬Fc k) (u:∀k,Fp k->F k/\¬Fc k) (A:∀k,Fc k->F k)
  (i:(∀k,tO k->Fo k/\k<w.heap.size)) (m:(∀k,sH k->Fp k/\k<w.heap.size\/w.heap.size<=k)) (p:(∀k,sI k->Fc k/\k<w.heap.size\/w.heap.size<=k)) (j:(∀k,sH k->k<w.heap.size)\/(∀k,sI k->k<w.heap.size)) :
  gu (λk=>F k\/w.heap.size<=k) w' vo vp vc l:=by
 refine⟨tO,sH,sI,h1,y,z,λk hk=>⟨.inl (q k (i k hk).1).1,λe => ?_,λe => ?_⟩,λk hk=>⟨?_,λe => ?_⟩,λk hk => ?_⟩
 ·rcases m k e with e|e
  ·exact(q k (i k hk).1).2.1 e.1
  ·have:=(i k hk).2;omega
 ·rcases p k e with e|e
  ·exact(q k (i k hk).1).2.2 e.1
  ·have:=(i k hk).2;omega
 ·rcases m k hk with e|e
  ·exact .inl (u k e.1).1
  ·exact .inr e
 ·rcases j with j|j
  ·have a:=j k hk
   rcases m k hk with b|b
   ·rcases p k e with c|c
    ·exact(u k b.1).2 c.1
    ·omega
   ·omega
  ·have a:=j k e
   rcases p k e with c|c
   ·rcases m k hk with b|b
    ·exact(u k b.1).2 c.1
    ·omega
   ·omega
 ·rcases p k hk with e|e
  ·exact .inl (A k e.1)
  ·exact .inr e
theorem gu.M0 {F:Nat->Prop}{b:World}{vo vp vc:Value}{P:Pr}(h:gu F b vo vp vc P) (i:Nat) (r:i<P.eH.length) :
  ∃ g cap z,vp=.slice (some ⟨g,0,none⟩) P.eH.length cap/\F g/\g<b.heap.size/\b.cell? ⟨g,i,none⟩=some z/\(∀j,j<P.eH.length->b.frozen? ⟨g,j,none⟩=false) /\
   ∀m u y,Ext b m->gf (From b.heap.size) m u y->gu (λk=>F k\/b.heap.size<=k) (m.setCell ⟨g,i,none⟩ u) vo vp vc { P with eH:=P.eH.set i y } :=by
 obtain⟨Fo,Fp,Fc,h1,q,C,A,w,h6⟩:=h;rcases fZ.form q with⟨_,e⟩|⟨g,cap,rfl,l,jB⟩
 ·rw[e] at r;simp at r
 obtain⟨⟨z,hz⟩,_⟩:=fZ.place q i r;refine⟨g,cap,z,rfl,(w g l).1,jB,hz,λj D=>(fZ.place q j D).2,λm u y B E => ?_⟩;obtain⟨G,H⟩:=fZ.store gX q B E i;have p:b.grownBy (m.setCell ⟨g,i,none⟩ u) (some g):=dy (fH _ B) H
 exact gu.put (tO:=λk=>Fo k/\k<b.heap.size) (sH:=λk=>Fp k/\k<b.heap.size\/b.heap.size<=k) (sI:=λk=>Fc k/\k<b.heap.size) (some g) p
  (gX.mono h1 (λk hk a=>⟨⟨hk,a⟩,Nat.lt_of_lt_of_le a p.size,p.block k a (λe=>(A k hk).2.1 (by cases e;exact l))⟩))
  (qG.mono G (λk hk a=>⟨by
   rcases hk with hk|hk
   ·rcases Nat.lt_or_ge k b.heap.size with h|h
    ·exact .inl ⟨hk,h⟩
    ·exact .inr h
   ·exact .inr hk,a,rfl⟩))
  (sG.mono C (λk hk a=>⟨⟨hk,a⟩,Nat.lt_of_lt_of_le a p.size,p.block k a (λe=>(w g l).2 (by cases e;exact hk))⟩))
  A w h6 (λ_ h=>h) (λ_ h=>h) (λ_ h => .inl h) (.inr (λ_ h=>h.2))
theorem gu.F7 {F:Nat->Prop}{l:World}{vo vp vc:Value}{P:Pr}(h:gu F l vo vp vc P) (i j:Nat) (C:i<P.conj.length) (D:j<(gt P.conj i).length) :
  ∃ g cap b m z,vc=.slice (some ⟨g,0,none⟩) P.conj.length cap/\F g/\g<l.heap.size/\l.cell? ⟨g,i,none⟩=some (.slice (some ⟨b,0,none⟩) (gt P.conj i).length m)/\F b/\b≠g/\b<l.heap.size /\
   l.cell? ⟨b,j,none⟩=some z/\l.frozen? ⟨b,j,none⟩=false /\
   ∀w u y,Ext l w->gf (From l.heap.size) w u y->gu (λk=>F k\/l.heap.size<=k) (w.setCell ⟨b,j,none⟩ u) vo vp vc { P with conj:=P.conj.set i ((gt P.conj i).set j y) } :=by
 obtain⟨Fo,Fp,Fc,h1,J,E,G,H,h6⟩:=h;rcases fZ.form E with⟨_,e⟩|⟨g,cap,rfl,hFg,jB⟩
 ·rw[e] at C;simp at C
 obtain⟨v,Gj,hc,p,B,hturn⟩:=fZ.turn (sF gX) E i C;rcases fZ.form p with⟨_,e⟩|⟨b,m,rfl,q,hbl⟩
 ·rw[e] at D;simp at D
 obtain⟨⟨z,hz⟩,hpf⟩:=fZ.place p j D;have r:=(B b q).1;refine⟨g,cap,b,m,z,rfl,h6 g hFg,jB,hc,h6 b r,(B b q).2.1,hbl,hz,hpf,λw u y I K => ?_⟩;obtain⟨L,M⟩:=fZ.store gX p I K j;have A:l.grownBy (w.setCell ⟨b,j,none⟩ u) (some b):=dy (fH _ I) M;have N:=hturn (w.setCell ⟨b,j,none⟩ u) _ (Touch.of A (λk hk=>by cases hk;exact q)) L
 exact gu.put (tO:=λk=>Fo k/\k<l.heap.size) (sH:=λk=>Fp k/\k<l.heap.size) (sI:=λk=>Fc k/\k<l.heap.size\/l.heap.size<=k) (some b) A
  (gX.mono h1 (λk hk a=>⟨⟨hk,a⟩,Nat.lt_of_lt_of_le a A.size,A.block k a (λe=>(G k hk).2.2 (by cases e;exact r))⟩))
  (qG.mono J (λk hk a=>⟨⟨hk,a⟩,Nat.lt_of_lt_of_le a A.size,A.block k a (λe=>(H k hk).2 (by cases e;exact r))⟩))
  (sG.mono N (λk hk a=>⟨by
   rcases hk with hk|hk
   ·rcases Nat.lt_or_ge k l.heap.size with h|h
    ·exact .inl ⟨hk,h⟩
    ·exact .inr h
   ·exact .inr hk,a,rfl⟩))
  G H h6 (λ_ h=>h) (λ_ h => .inl h) (λ_ h=>h) (.inl (λ_ h=>h.2))
theorem gu.F8 {F:Nat->Prop}{l:World}{vo vp vc:Value}{P:Pr}(h:gu F l vo vp vc P) (i j:Nat) (B:i<P.eH.length) (H:j<(gt P.eH i).length) :
  ∃ g cap b m,vp=.slice (some ⟨g,0,none⟩) P.eH.length cap/\F g/\g<l.heap.size/\l.cell? ⟨g,i,none⟩=some (.slice (some ⟨b,0,none⟩) (gt P.eH i).length m)/\F b/\b≠g/\b<l.heap.size /\
   l.cell? ⟨b,j,none⟩=some (.int .i64 (gt (gt P.eH i) j))/\(∀p,Ext l p->p.frozen? ⟨b,j,none⟩=false) /\
   ∀p x,Ext l p->gu (λk=>F k\/l.heap.size<=k) (p.setCell ⟨b,j,none⟩ (.int .i64 x)) vo vp vc { P with eH:=P.eH.set i ((gt P.eH i).set j x) } :=by
 obtain⟨Fo,Fp,Fc,h1,D,I,E,y,h6⟩:=h;rcases fZ.form D with⟨_,e⟩|⟨g,cap,rfl,C,jB⟩
 ·rw[e] at B;simp at B
 obtain⟨v,Gj,hc,Cx,w,hturn⟩:=fZ.turn gX D i B;obtain⟨z,G,q3⟩:=Cx;obtain⟨b,m,rfl,_,hbl⟩:=z.form (by omega);have q:=G b rfl;have r:=(w b q).1;refine⟨g,cap,b,m,rfl,(y g C).1,jB,hc,(y b r).1,(w b q).2.1,hbl,z.cell j H,λp A=>(z.gw A).frozen j,λp x A => ?_⟩;obtain⟨J,K⟩:=(z.gw A).store j x;have u:l.grownBy (p.setCell ⟨b,j,none⟩ (.int .i64 x)) (some b):=dy (fH _ A) K;have L:=hturn (p.setCell ⟨b,j,none⟩ (.int .i64 x)) _ (Touch.of u (λk hk=>by cases hk;exact q)) (⟨J,λk hk => .inl (G k hk),by rw[List.length_set];exact q3⟩:gf (λk=>Gj k\/l.heap.size<=k) _ _ ((gt P.eH i).set j x))
 exact gu.put (tO:=λk=>Fo k/\k<l.heap.size) (sH:=λk=>Fp k/\k<l.heap.size\/l.heap.size<=k) (sI:=λk=>Fc k/\k<l.heap.size) (some b) u
  (gX.mono h1 (λk hk a=>⟨⟨hk,a⟩,Nat.lt_of_lt_of_le a u.size,u.block k a (λe=>(E k hk).2.1 (by cases e;exact r))⟩))
  (qG.mono L (λk hk a=>⟨by
   rcases hk with hk|hk
   ·rcases Nat.lt_or_ge k l.heap.size with h|h
    ·exact .inl ⟨hk,h⟩
    ·exact .inr h
   ·exact .inr hk,a,rfl⟩))
  (sG.mono I (λk hk a=>⟨⟨hk,a⟩,Nat.lt_of_lt_of_le a u.size,u.block k a (λe=>(y b r).2 (by cases e;exact hk))⟩))
  E y h6 (λ_ h=>h) (λ_ h=>h) (λ_ h => .inl h) (.inr (λ_ h=>h.2))
theorem gu.F9 {F:Nat->Prop}{l:World}{vo vp vc:Value}{P:Pr}(h:gu F l vo vp vc P) (i k j:Nat) (E:i<P.conj.length) (hk:k<(gt P.conj i).length) (M:j<(gt (gt P.conj i) k).length) :
  ∃ g cap e m b p,vc=.slice (some ⟨g,0,none⟩) P.conj.length cap/\F g/\g<l.heap.size/\l.cell? ⟨g,i,none⟩=some (.slice (some ⟨e,0,none⟩) (gt P.conj i).length m)/\F e/\e<l.heap.size /\
   l.cell? ⟨e,k,none⟩=some (.slice (some ⟨b,0,none⟩) (gt (gt P.conj i) k).length p)/\F b/\b≠g/\b≠e/\b<l.heap.size/\l.cell? ⟨b,j,none⟩=some (.int .i64 (gt (gt (gt P.conj i) k) j))/\(∀q,Ext l q->q.frozen? ⟨b,j,none⟩=false) /\
   ∀q x,Ext l q->gu (λk=>F k\/l.heap.size<=k) (q.setCell ⟨b,j,none⟩ (.int .i64 x)) vo vp vc { P with conj:=P.conj.set i ((gt P.conj i).set k ((gt (gt P.conj i) k).set j x)) } :=by
 obtain⟨Fo,Fp,Fc,h1,N,I,J,K,h6⟩:=h;rcases fZ.form I with⟨_,e⟩|⟨g,cap,rfl,hFg,jB⟩
 ·rw[e] at E;simp at E
 obtain⟨v,Gj,hc,A,r,hturn⟩:=fZ.turn (sF gX) I i E;rcases fZ.form A with⟨_,e⟩|⟨e,m,rfl,G,hel⟩
 ·rw[e] at hk;simp at hk
 obtain⟨S,Hj,hc2,M3,B,M4⟩:=fZ.turn gX A k hk;obtain⟨C,L,q3⟩:=M3;obtain⟨b,p,rfl,_,hbl⟩:=C.form (by omega);have u:=L b rfl;have w:=(B b u).1;have y:=(r b w).1;refine⟨g,cap,e,m,b,p,rfl,h6 g hFg,jB,hc,h6 e (r e G).1,hel,hc2,h6 b y,(r b w).2.1,(B b u).2.1,hbl,C.cell j M,λq D=>(C.gw D).frozen j,λq x D => ?_⟩;obtain⟨O,Q⟩:=(C.gw D).store j x;have z:l.grownBy (q.setCell ⟨b,j,none⟩ (.int .i64 x)) (some b):=dy (fH _ D) Q;have H:=M4 (q.setCell ⟨b,j,none⟩ (.int .i64 x)) _ (Touch.of z (λk hk=>by cases hk;exact u)) (⟨O,λk hk => .inl (L k hk),by rw[List.length_set];exact q3⟩:gf (λk=>Hj k\/l.heap.size<=k) _ _ ((gt (gt P.conj i) k).set j x));have R:=hturn (q.setCell ⟨b,j,none⟩ (.int .i64 x)) _ (Touch.of z (λk hk=>by cases hk;exact w)) H
 exact gu.put (tO:=λk=>Fo k/\k<l.heap.size) (sH:=λk=>Fp k/\k<l.heap.size) (sI:=λk=>Fc k/\k<l.heap.size\/l.heap.size<=k) (some b) z
  (gX.mono h1 (λk hk a=>⟨⟨hk,a⟩,Nat.lt_of_lt_of_le a z.size,z.block k a (λe=>(J k hk).2.2 (by cases e;exact y))⟩))
  (qG.mono N (λk hk a=>⟨⟨hk,a⟩,Nat.lt_of_lt_of_le a z.size,z.block k a (λe=>(K k hk).2 (by cases e;exact y))⟩))
  (sG.mono R (λk hk a=>⟨by
   rcases hk with hk|hk
   ·rcases Nat.lt_or_ge k l.heap.size with h|h
    ·exact .inl ⟨hk,h⟩
    ·exact .inr h
   ·exact .inr hk,a,rfl⟩))
  J K h6 (λ_ h=>h) (λ_ h => .inl h) (λ_ h=>h) (.inl (λ_ h=>h.2))
structure jK (N:Nat) (P:Pr):Prop where
 n:P.orders.length<=N
 p:P.eH.length=P.orders.length
 c:P.conj.length=P.orders.length
 cl:∀i,i<P.orders.length->(gt P.conj i).length=P.orders.length-1-i
 pv:∀v∈P.eH,v.length<=N
 cv:∀r∈P.conj,∀v∈r,v.length<=N
def vh (P:Pr) (i:Nat) (v:List Int):Pr := { P with eH:=P.eH.set i v }
def sJ (P:Pr) (i j:Nat) (v:List Int):Pr := { P with conj:=P.conj.set i ((gt P.conj i).set j v) }
theorem Cy {α:Type}{l:List α}{i:Nat}{a b:α}(h:b∈l.set i a):b=a\/b∈l:=by
 rcases List.mem_or_eq_of_mem_set h with h|h
 ·exact .inr h
 ·exact .inl h
theorem jK.vh {N:Nat}{P:Pr}(h:jK N P) (i:Nat) {v:List Int}(a:v.length<=N):jK N (vh P i v):=
 ⟨h.n,by show(P.eH.set i v).length=_;rw[List.length_set];exact h.p,h.c,h.cl,λx hx=>by
  rcases Cy hx with e|e
  ·rw[e];exact a
  ·exact h.pv x e,h.cv⟩
theorem jK.sJ {N:Nat}{P:Pr}(h:jK N P) (i j:Nat) (l:i<P.orders.length) {v:List Int}(m:v.length<=N):jK N (sJ P i j v):=by
 have a:i<P.conj.length:=by rw[h.c];exact l
 refine⟨h.n,h.p,by show(P.conj.set i _).length=_;rw[List.length_set];exact h.c,λk hk => ?_,h.pv,λr q x hx => ?_⟩
 ·show (gt (P.conj.set i _) k).length=_
  by_cases e:i=k
  ·subst e
   rw[iN _ _ _ a,List.length_set];exact h.cl i l
  ·rw[iy _ _ _ _ e];exact h.cl k hk
 ·rcases Cy q with e|e
  ·rw [e] at hx
   rcases Cy hx with b|b
   ·rw[b];exact m
   ·exact h.cv _ (by rw[gM _ i a];exact List.getElem_mem a) x b
  ·exact h.cv r e x hx
theorem jK.mono {N M:Nat}{P:Pr}(h:jK N P) (a:N<=M):jK M P:=⟨Nat.le_trans h.n a,h.p,h.c,h.cl,λv b=>Nat.le_trans (h.pv v b) a,λr e v b=>Nat.le_trans (h.cv r e v b) a⟩
def kL (n i:Nat):List (List Int):=(List.range (n-1-i)).map (λk=>fQ n (i+1+k))
def j0 (o:List Int):Pr:=⟨o,List.replicate o.length (zeros o.length),(List.range o.length).map (kL o.length)⟩
theorem Ga (n i:Nat):(kL n i).length=n-1-i:=by unfold kL;simp
theorem pG (n k:Nat):(fQ n k).length=n:=by unfold fQ;simp
theorem Gb (n:Nat):(zeros n).length=n:=by unfold zeros;simp
theorem vk (o:List Int) {N:Nat}(h:o.length<=N):jK N (j0 o):=by
 refine⟨h,by simp[j0],by simp[j0],λi e => ?_,λv b => ?_,λr j v b => ?_⟩
 ·have a:i<o.length:=e
  show(gt ((List.range o.length).map (kL o.length)) i).length=o.length-1-i
  rw[jM _ _ _ (by simpa using a),gM _ _ (by simpa using a),List.getElem_range,Ga]
 ·have:=List.eq_of_mem_replicate b
  rw[this,Gb];exact h
 ·obtain ⟨i,_,rfl⟩:=List.mem_map.1 j
  obtain⟨k,_,rfl⟩:=List.mem_map.1 b;rw[pG];exact h
end Go.Proofs.YtoakmefajbbggaaGreat
