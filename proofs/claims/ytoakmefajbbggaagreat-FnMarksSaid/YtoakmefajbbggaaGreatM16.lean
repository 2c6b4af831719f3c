/- Merged from templates. -/
import Derived.Test.YtoakmefajbbggaaGreatM15
import Derived.Deep.CutBlock
set_option maxRecDepth 100000
set_option maxHeartbeats 8000000
namespace Go.Proofs.YtoakmefajbbggaaGreat
open Go.RowKit
attribute [local go_sem ↓] Go.wp_at_zero Go.wp_at_succ
theorem G1 {j:Array Oper}{o:Oper}{a:Act}{K:Act->World->Prop}{Q:Exit->Act->World->Prop}{p:Prop}{w:World}(k:o.guard=none) (s x:Operand)
  (q:o.op=Op.call { callee:=Callee.builtin Builtin.append,args := #[s,x],argTypes := #[24,24] }) (B:Nat) (v:Value) (l:List Int) (y:Int) (r:a.eval s=v) (e:Own B w v l)
  (H:Nat) (hx:a.eval x=.slice (some ⟨H,0,none⟩) 1 1) (u:w.cell? ⟨H,0,none⟩=some (.int .i64 y)) (m:l.length<=1000000) (b:B<=w.heap.size)
  (h:∀i w',Own B w' i (l++[y])->w.grownBy w' v.ownBlock->K (a.put o.dst i) w') :
  if Region.wanted o (yielded j a.tmps)=true then Oper.wp Tryz.prog o a w K Q else p:=by
 refine vg 24 2 (.int .i64 0) 8 qz Tryz.pV rfl (by decide) k s x q B v (l.map (Value.int .i64)) r e.v H (.int .i64 y) hx u rfl (by simpa using (by omega:l.length<=2000000)) b ?_;intro i w' h1 z _;exact h i w' (Own.of (by rw[List.map_append];exact h1)) z
theorem gu.N2 {F:Nat->Prop}{w:World}{vo vp vc:Value}{P:Pr}(h:gu F w vo vp vc P) (i:Nat) (a:i<P.conj.length) :
  ∃g cap z,vc=.slice (some ⟨g,0,none⟩) P.conj.length cap/\F g/\w.cell? ⟨g,i,none⟩=some z/\g<w.heap.size/\w.frozen? ⟨g,i,none⟩=false:=by
 obtain⟨Fo,Fp,Fc,h1,h2,b,h4,h5,h6⟩:=h;rcases fZ.form b with⟨_,e⟩|⟨g,cap,rfl,hFg,jB⟩
 ·rw[e] at a;simp at a
 obtain⟨⟨z,hz⟩,hf⟩:=fZ.place b i a;exact⟨g,cap,z,rfl,h6 g hFg,hz,jB,hf⟩
theorem N3 {k:Array Oper}{o:Oper}{a:Act}{K:Act->World->Prop}{Q:Exit->Act->World->Prop}{q:Prop}{w:World}(l:o.guard=none) (s x:Operand)
  (r:o.op=Op.call { callee:=Callee.builtin Builtin.append,args := #[s,x],argTypes := #[25,25] }) (B:Nat) (v:Value) (i:List Value) (y:a.eval s=v) (e:fK B 24 w v i)
  (H:Nat) (u:Value) (hx:a.eval x=.slice (some ⟨H,0,none⟩) 1 1) {a1:Option Addr}{z c1:Nat}(m:w.cell? ⟨H,0,none⟩=some u/\u=.slice a1 z c1) (p:i.length<=1000000) (b:B<=w.heap.size)
  (h:∀j w',fK B 24 w' j (i++[u])->w.grownBy w' v.ownBlock->(j.ownBlock=v.ownBlock\/j.ownBlock=some w.heap.size)->K (a.put o.dst j) w') :
  if Region.wanted o (yielded k a.tmps)=true then Oper.wp Tryz.prog o a w K Q else q:=
 vg 25 24 (.slice none 0 0) 24 qg Tryz.qh rfl (by decide) l s x r B v i y e H u hx m.1 (by rw[m.2];rfl) (by omega) b h
theorem N4 {B:Nat}{C wc r:World}{w v6 u:Value}{b:List Value}{L:List (List Int)}{y:List Int}{U:Nat->Prop}(j:fK B 24 r v6 (b++[u])) (D:b.length=L.length) (F:L.length<=1000000)
  (G:∀i,i<L.length->Ints (λk=>B<=k/\w.ownBlock≠some k) C (gt b i) (gt L i)) (z:Ext C wc) (p:wc.grownBy r w.ownBlock) (H:Ints U wc u y) (E:∀k,U k->B<=k/\w.ownBlock≠some k) :
  dK (λk=>B<=k) r v6 (L++[y]):=by
 have l:=j.lt;rcases j.form with⟨_,h2⟩|⟨g,cap,rfl,hnc,_,_⟩
 ·simp at h2
 refine⟨some ⟨g,0,none⟩,cap,by simp[D],⟨by simp at hnc;simp;omega,by simp;omega,λh=>by cases h⟩,λi q => ?_⟩
 ·have q:i<(b++[u]).length:=by simp at q ⊢;omega
  refine⟨g,0,gt (b++[u]) i,rfl,(l g rfl).1,(l g rfl).2,by rw[Nat.zero_add];exact j.cell i q,?_⟩;by_cases m:i<b.length
  ·rw [iX _ _ _ m,iX _ _ _ (by omega)]
   exact Ints.mono (G i (by omega)) (λk hk a=>⟨hk.1,Nat.lt_of_lt_of_le a (Nat.le_trans z.size p.size),(p.block k (Nat.lt_of_lt_of_le a z.size) (λe=>hk.2 e.symm)).trans (z.block k a (by simp))⟩)
  ·have A:i=b.length:=by simp at q;omega
   subst A;rw[kr,D,kr];exact Ints.mono H (λk hk a=>⟨(E k hk).1,Nat.lt_of_lt_of_le a p.size,p.block k a (λe=>(E k hk).2 e.symm)⟩)
theorem gu.putRow {F:Nat->Prop}{w b:World}{vo vp:Value}{P:Pr}{g n cap:Nat}{u:Value}{L:List (List Int)}(h:gu F w vo vp (.slice (some ⟨g,0,none⟩) n cap) P) (i:Nat) (J:i<n) (K:P.conj.length=n) (j:Ext w b) (B:dK (λk=>w.heap.size<=k) b u L) :
  ∃Q:Pr,Q.orders=P.orders/\fA (λk=>F k\/w.heap.size<=k) (b.setCell ⟨g,i,none⟩ u) vo vp (.slice (some ⟨g,0,none⟩) n cap) Q:=by
 obtain⟨Fo,Fp,Fc,h1,C,m,y,z,D⟩:=h
 have l:Fc g:=by
  rcases fZ.form m with⟨e,_⟩|⟨E,c',e,hF,_⟩
  ·cases e
  ·cases e;exact hF
 have G:g<w.heap.size:=by
  rcases fZ.form m with⟨e,_⟩|⟨E,c',e,_,hl⟩
  ·cases e
  ·cases e;exact hl
 have A:=iG b g i u;have hblk:∀k,k<w.heap.size->k≠g->k<(b.setCell ⟨g,i,none⟩ u).heap.size/\(b.setCell ⟨g,i,none⟩ u).heap[k]? = w.heap[k]? :=λk hk p=>⟨Nat.lt_of_lt_of_le hk (Nat.le_trans j.size A.size),(A.block k (Nat.lt_of_lt_of_le hk j.size) (λe=>p (Option.some.inj e))).trans (j.block k hk (by simp))⟩
 have q:fZ (λF w u (x:List (List Int))=>dK F w u x) 25 (λk=>Fc k/\k<w.heap.size) b (.slice (some ⟨g,0,none⟩) n cap) P.conj:=
  fZ.map (λ_ _ _ _ h=>mK.rows h) (sG.mono m (λk hk a=>⟨⟨hk,a⟩,Nat.lt_of_lt_of_le a j.size,j.block k a (by simp)⟩))
 have r:j8 (λF w u (x:List (List Int))=>dK F w u x):=⟨λh H=>dK.mono h H,λh=>by obtain⟨_,_,rfl,_⟩:=Sl.shape h;rfl⟩;have I:=fZ.CB r q B (λk hk h=>by omega) i;refine⟨⟨P.orders,P.eH,P.conj.set i L⟩,rfl,⟨?_,?_,?_⟩⟩
 ·exact Ints.mono h1.ints (λk hk a=>by
   have h:=hblk k a (λe=>(y k hk).2.2 (e▸l));exact⟨.inl (y k hk).1,h.1,h.2⟩)
 ·exact dK.mono (mK.rows C) (λk hk a=>by
   have h:=hblk k a (λe=>(z k hk).2 (e▸l));exact⟨.inl (z k hk).1,h.1,h.2⟩)
 ·exact fU.sub (S:=λk=>(Fc k/\k<w.heap.size)\/w.heap.size<=k) I (λk hk _=>hk.elim (λh => .inl (D k h.1)) .inr)
def N5 (l:Pr) (m sb p:Nat) (w a:World):Prop:=∃(a1:Option Addr) (b c1:Nat) (a2:Option Addr) (e c2:Nat) (i:Option Addr) (j c3:Nat) (Q:Pr),fG a p (.slice a1 b c1) (.slice a2 e c2) (.slice i j c3)/\fG a (w.heap.size+1) (.slice none 0 0) (.slice none 0 0) (.slice none 0 0) /\
 w.grownBy a (some sb)/\Src m a sb/\Q.orders.length<=7/\mq l Q/\fA (λk=>w.heap.size+2<=k) a (.slice a1 b c1) (.slice a2 e c2) (.slice i j c3) Q
set_option linter.unusedSimpArgs false in
set_option maxHeartbeats 16000000 in
theorem N6 (B0:Nat) (w:World) (sb:Nat) (pv:Value) (P:Pr) (F:Nat->Prop) (dh:B0<=w.heap.size) (hs:Src B0 w sb) (hp:gy F w pv P) (hV:Valid P) :
  Calls Tryz.prog 164 #[.pointer (some ⟨sb,0,none⟩),pv] w (mA w (some sb) (qJ B0 sb (yG 7 (mq P) w.heap.size))):=by
 have dS:=hs.lt;have hS:=hV.C0;obtain⟨vo,vp,vc,rfl,h3⟩:=hp;obtain⟨ao,co,nN,_,_⟩:=h3.o.shape;obtain⟨ap,cp,am,_,_⟩:=Sl.shape h3.p;obtain⟨ac,cc,cq,_,_⟩:=Sl.shape h3.c;rw[hS.p] at am;rw[hS.c] at cq;subst nN am cq;obtain⟨n,hn⟩:∃n,n=P.orders.length:=⟨_,rfl⟩;rw[<-hn] at h3;rw[<-hn];have dT:n<=6:=by rw[hn];exact hS.n
 have cs:Ext w (w.alloc (.cells #[.slice ao n co,.slice ap n cp,.slice ac n cc] 28)):=World.grownBy_alloc _ _ _;have bS:(w.alloc (.cells #[.slice ao n co,.slice ap n cp,.slice ac n cc] 28)).heap.size=w.heap.size+1:=by simp
 have dk:=fG.made w 28 (.slice ao n co) (.slice ap n cp) (.slice ac n cc);have HH:=Lib.hid (And.intro hS (And.intro hV (And.intro hn hs)));clear hS hV hn hs;go_enter Tryz.func164,Tryz.ntmps164;go_wp2_with fail
 generalize w.alloc (.cells #[.slice ao n co,.slice ap n cp,.slice ac n cc] 28)=wA at *;have aK:Ext wA (wA.alloc (.cells #[.slice none 0 0,.slice none 0 0,.slice none 0 0] 28)):=World.grownBy_alloc _ _ _;have bn:=fG.made wA 28 (.slice none 0 0) (.slice none 0 0) (.slice none 0 0);have bT:=dy cs aK;have dl:(wA.alloc (.cells #[.slice none 0 0,.slice none 0 0,.slice none 0 0] 28)).heap.size=w.heap.size+2:=by simp[bS]
 rw[bS] at bn;generalize wA.alloc (.cells #[.slice none 0 0,.slice none 0 0,.slice none 0 0] 28)=w0 at *;have dD:w.heap.size+2<=w0.heap.size:=by omega
 clear aK cs dk bS dl;refine Calls.mono (CE w0 _ P F 6 ⟨_,_,_,rfl,h3.mono (iQ bT (λk hk _=>⟨hk,by simp⟩))⟩ HH.out.1 (by omega)) ?_;rintro e1 w1 ⟨v1,rfl,hg1,qo,qp,qc,rfl,hX1⟩;obtain⟨ag,Y,ax,ah,ay,an,e1,e2,e3⟩:=hX1.shape;rw[HH.out.1.p] at e2;rw[HH.out.1.c] at e3;rw[<-HH.out.2.2.1] at e1 e2 e3;subst e1 e2 e3;obtain⟨V,bU⟩:∃V,V=w1.heap.size:=⟨_,rfl⟩;have aC:Ext w1 (w1.alloc (.cells #[.slice ag n Y,.slice ax n ah,.slice ay n an] 28)):=World.grownBy_alloc _ _ _;have bV:=fG.made w1 28 (.slice ag n Y) (.slice ax n ah) (.slice ay n an);rw[<-bU] at bV;have dn:=hg1.size;have cu:gu (λk=>w0.heap.size<=k/\k≠V) (w1.alloc (.cells #[.slice ag n Y,.slice ax n ah,.slice ay n an] 28)) (.slice ag n Y) (.slice ax n ah) (.slice ay n an) P:=hX1.mono (λk hk D=>⟨⟨hk,by omega⟩,Nat.lt_of_lt_of_le D aC.size,aC.block k D (by simp)⟩);have bd:=dy hg1 aC;have cw:=Lib.hid bU;go_wp2_with fail
 rw[<-cw.out];generalize w1.alloc (.cells #[.slice ag n Y,.slice ax n ah,.slice ay n an] 28)=w2 at *;have dV:w0.heap.size<=V:=by omega
 clear hX1 hg1 aC bU cw dn;have cx:=bn.ext bd;have be:=dy bT bd;have cy:=HH.out.2.2.2.ext be;clear bn bd bT h3;refine Calls.mono (kZ B0 w2 sb 6 cy) ?_;rintro e3 l ⟨v3,rfl,bf,x,rfl,_,hx1,cz⟩;have cA:=cu.moved bf (λh=>by omega);have M:=bV.moved bf (by omega);have N:=cx.moved bf (by omega);have T:=dy (fH (some sb) be) bf;have hx:=hx1 (by omega);have bo:=HH.out.2.2.1;have cB:P.eH.length=n:=by rw[bo];exact HH.out.2.1.pl
 have cC:P.conj.length=n:=by rw[bo];exact HH.out.2.1.cl
 have dW:V<l.heap.size:=M.1;have E:=Lib.hid (And.intro cA (And.intro cz (And.intro bo (And.intro cB cC))));clear cu bV cx be cy bf cA cz hx1 bo cB cC;obtain⟨q0,q1,q2,q3,q4⟩:=id M;go_upto_block 0 with fail
 go_cut [] (λwx=>N5 P B0 sb V w wx)
 case' rest=>
  obtain⟨a1,n1,c1,a2,n2,c2,a3,n3,c3,Q,N7,G2,cE,cF,cG,cH,cI⟩:=hcut;clear q0 q1 q2 q3 q4 M N E T;obtain⟨q0,q1,q2,q3,q4⟩:=id N7;obtain⟨b0,b1,b2,b3,b4⟩:=id G2;have hZ:=G2.all (.slice a1 n1 c1) (.slice a2 n2 c2) (.slice a3 n3 c3);obtain⟨-,z0,z1,z2,-⟩:=id hZ;have HF:=Lib.hid (And.intro cE (And.intro cF (And.intro cI (And.intro cG cH))));clear hZ cE cF cI cG cH;go_wp2_with fail
  refine bodyPost_ret (v := .agg #[.slice a1 n1 c1,.slice a2 n2 c2,.slice a3 n3 c3]) (by simp[results,Tryz.results164,go_sem,z0,z1,z2]) rfl ?_;exact qK HF.out.1 (br:=w.heap.size+1) (by omega) (λk hk _=>⟨by omega,by omega⟩) HF.out.2.1 dh HF.out.2.2.2.1 HF.out.2.2.1 HF.out.2.2.2.2
 rcases(show x=0\/x=1\/x=2\/x=3\/x=4\/x=5 by omega) with rfl|rfl|rfl|rfl|rfl|rfl
 all_goals clear hx
 ·obtain ⟨Fo,Fp,Fc,h1,h2,h3,h4,h5,h6⟩:=E.out.1
  have hO:=h1.1;have cK:∀k,(Value.slice ag n Y).ownBlock=some k->(w0.heap.size<=k/\k≠V)/\¬Fp k/\¬Fc k:=λk hk=>h4 k (h1.2.1 k hk);have dJ:l.heap.size<=l.heap.size:=Nat.le_refl _;have HO:=Lib.hid (And.intro cK (And.intro h2 (And.intro h3 (And.intro h5 h6))));clear cK h1 h2 h3 h4 h5 h6;have bp:P.orders.length<=1000000:=by have:=E.out.2.2.1;omega
  have bW:(P.orders++[2]).length=P.orders.length+1:=by simp
  go_wp2_with (first|(at_builtin;refine Gq rfl _ _ rfl 0 (.slice ag n Y) P.orders 2 rfl l hO rfl rfl bp (Nat.zero_le _) ?_;intro v5 C K H aU;have bX:fG C V (.slice ag n Y) (.slice ax n ah) (.slice ay n an):=M.keep H.size (H.block _ M.1 (λe=>(HO.out.1 V e.symm).1.2 rfl));have aM:=N.keep H.size (H.block _ N.1 (λe=>by have:=(HO.out.1 _ e.symm).1.1;omega));obtain⟨r0,r1,r2,r3,r4⟩:=id bX;obtain⟨a5,n5,aN,_⟩:=(K.ints (by omega)).shape;rw[bW] at aN;subst aN;have aE:=(bX.put (.slice a5 (P.orders.length+1) n5)).1;have az:=iG C V 0 (.slice a5 (P.orders.length+1) n5);have aa:=aM.moved az (by omega);have cL:=Lib.hid (And.intro aE aa);have HF:=Lib.hid (And.intro K (And.intro H (And.intro aU az)));clear K H aU az aa aE bX aM)|fail)
  obtain⟨K,H,aU,az⟩:=HF.out;have I:w.grownBy (C.setCell ⟨V,0,none⟩ (.slice a5 (P.orders.length+1) n5)) (some sb):=fu (fu T H (λj hj D=>by have:=(HO.out.1 j hj).1.1;omega)) az (λj hj D=>by have:=Option.some.inj hj;omega);have aO:=(E.out.2.1.own H (λj hj=>by have:=(HO.out.1 j hj).1.1;omega)).own az (λk hk=>by have:=Option.some.inj hk;omega)
  have bY:fA (λk=>(w0.heap.size<=k/\k≠V)) (C.setCell ⟨V,0,none⟩ (.slice a5 (P.orders.length+1) n5)) (.slice a5 (P.orders.length+1) n5) (.slice ax n ah) (.slice ay n an) ⟨P.orders++[2],P.eH,P.conj⟩:=by
   have hblk:∀k,k<l.heap.size->(Value.slice ag n Y).ownBlock≠some k->k≠V->k<(C.setCell ⟨V,0,none⟩ (.slice a5 (P.orders.length+1) n5)).heap.size/\(C.setCell ⟨V,0,none⟩ (.slice a5 (P.orders.length+1) n5)).heap[k]? = l.heap[k]? :=λk hk h1 h2=>
    ⟨Nat.lt_of_lt_of_le hk (Nat.le_trans H.size az.size),(az.block k (Nat.lt_of_lt_of_le hk H.size) (λe=>h2 (Option.some.inj e))).trans (H.block k hk (λe=>h1 e.symm))⟩
   refine⟨?_,?_,?_⟩
   ·have hI:Ints (λk=>w0.heap.size<=k/\k≠V) C (.slice a5 (P.orders.length+1) n5) (P.orders++[2]):=iD K (by omega) (λk hk=>by
     rcases aU with e|e
     ·rw[e] at hk;exact(HO.out.1 k hk).1
     ·have:=e k hk;exact⟨by omega,by omega⟩)
    exact Ints.mono hI (λk hk D=>⟨hk,Nat.lt_of_lt_of_le D az.size,az.block k D (λe=>hk.2 (Option.some.inj e))⟩)
   ·exact dK.mono (mK.rows HO.out.2.1) (λk hk D=>by
     have h5:=HO.out.2.2.2.1 k hk;have h:=hblk k D (λe=>(HO.out.1 k e).2.1 hk) h5.1.2;exact⟨h5.1,h.1,h.2⟩)
   ·exact fU.mono (pF.rows HO.out.2.2.1) (λk hk D=>by
     have h5:=HO.out.2.2.2.2 k hk;have h:=hblk k D (λe=>(HO.out.1 k e).2.2 hk) h5.2;exact⟨h5,h.1,h.2⟩)
  try go_meet
  exact⟨_,_,_,_,_,_,_,_,_,_,cL.out.1,cL.out.2,I,aO,(by simp;have:=E.out.2.2.1;omega),(by exact λh=>absurd h.pl (by show ¬P.eH.length=(P.orders++[2]).length;rw[E.out.2.2.2.1,List.length_append,<-E.out.2.2.1,List.length_singleton];omega)),bY.mono (λk hk D=>⟨by omega,D,rfl⟩)⟩
 ·by_cases Z:n=0
  ·have bZ:decide (0<n)=false:=by simp[Z]
   clear Z;go_wp2_with fail
   try go_wp2_with fail
   go_meet;exact⟨_,_,_,_,_,_,_,_,_,_,M,N,T,E.out.2.1,(by rw[<-E.out.2.2.1];omega),(by exact mq.same rfl),fA.mono E.out.1.p3 (λk hk D=>⟨by omega,D,rfl⟩)⟩
  ·have O:0<n:=by omega
   clear Z;obtain⟨Fo,Fp,Fc,h1,h2,h3,h4,h5,h6⟩:=E.out.1;have hO:=h1.1;obtain⟨g,jL,nN,_,aX⟩:=hO.form (by rw[<-E.out.2.2.1];exact O);obtain⟨rfl,rfl⟩:ag=some ⟨g,0,none⟩/\Y=jL:=by cases nN;exact⟨rfl,rfl⟩
   clear nN;have cM:=h1.2.1 g rfl;have bs:=h4 g cM;have aK:w0.heap.size<=g:=bs.1.1;have aC:g≠V:=bs.1.2;have b5:=hO.cell 0 (by rw[<-E.out.2.2.1];exact O);have cN:=hO.frozen 0;generalize gt P.orders 0=oz at b5;have HO:=Lib.hid (And.intro hO (And.intro h2 (And.intro h3 (And.intro h5 (And.intro h6 bs)))));clear h1 h2 h3 h4 h5 h6 hO bs cM;have e0:∀w',ig l sb g w'->w'.cell? ⟨V,0,none⟩=some (.slice (some ⟨g,0,none⟩) n Y):=λw' h=>h.cell M.2.1 (by simp;omega) (by simp;omega);have hL:=j4 l.drew [4,1,11,0,-2] (by simp);have cO:∀y∈([4,1,11,0,-2]:List Int),-2<=y:=by simp
   have HL:=Lib.hid (And.intro hL cO);clear hL cO;have b6:(0:Int)<n:=by omega
   go_wp2_with fail
   go_region_held3 (λw'=>ig l sb g w') (first|exact ig.ext (fk _ _)|exact ig.ext (dy (fk _ _) (World.grownBy_alloc _ _ _))|exact ig.of (by assumption)|exact ig.two H (iG _ _ _ _)|assumption)
    (first
     | (go_at_call 113;refine Calls.mono (Go.Proofs.YtoakmefajbbggaaGreat.u7 B0 _ sb _ [4,1,11,0,-2] _ (E.out.2.1.ext (dy (fk _ _) (World.grownBy_alloc _ _ _))) HL.out.1 (λk hk=>by have hk:k=l.heap.size:=hk;omega) (by simp) (by simp)) ?_;rintro e5 C ⟨v5,rfl,bG,i,hi,rfl,bh⟩;have H:l.grownBy C (some sb):=dy (fH (some sb) (dy (fk _ _) (World.grownBy_alloc _ _ _))) bG;have aF:=H.cell b5 (by simp;omega);have dq:=(World.frozen?_of_block (a:=⟨g,0,none⟩) (H.block g aX (λe=>by have:=Option.some.inj e;omega))).trans cN))
   have cP:=H.size;have hT:=iG C g 0 (.int .i64 (gt [4,1,11,0,-2] i));have aE:=(M.moved H (by omega)).moved hT (by omega);have aa:=(N.moved H (by omega)).moved hT (by omega);have aq:=fu (dy T H) hT (λj hj D=>by have:=Option.some.inj hj;omega);have aO:=bh.own hT (λk hk=>by have:=Option.some.inj hk;omega);have K:Own 0 C (.slice (some ⟨g,0,none⟩) n Y) P.orders:=HO.out.1.kept H (.inr (λe=>by have:=ku e;omega));have ak:=(K.store 0 (gt [4,1,11,0,-2] i)).1
   have bY:fA (λk=>(w0.heap.size<=k/\k≠V)) (C.setCell ⟨g,0,none⟩ (.int .i64 (gt [4,1,11,0,-2] i))) (.slice (some ⟨g,0,none⟩) n Y) (.slice ax n ah) (.slice ay n an) ⟨P.orders.set 0 (gt [4,1,11,0,-2] i),P.eH,P.conj⟩:=by
    have hblk:∀k,k<l.heap.size->g≠k->(w0.heap.size<=k/\k≠V)->k<(C.setCell ⟨g,0,none⟩ (.int .i64 (gt [4,1,11,0,-2] i))).heap.size/\(C.setCell ⟨g,0,none⟩ (.int .i64 (gt [4,1,11,0,-2] i))).heap[k]? = l.heap[k]? :=λk hk h1 h2=>
     ⟨Nat.lt_of_lt_of_le hk (Nat.le_trans H.size hT.size),(hT.block k (Nat.lt_of_lt_of_le hk H.size) (λe=>h1 (Option.some.inj e).symm)).trans (H.block k hk (λe=>by have:=Option.some.inj e;omega))⟩
    refine⟨?_,?_,?_⟩
    ·exact iD ak (by rw[List.length_set,<-E.out.2.2.1];omega) (λk hk=>by have:=ku hk;subst this;exact⟨aK,aC⟩)
    ·exact dK.mono (mK.rows HO.out.2.1) (λk hk D=>by
      have h5:=HO.out.2.2.2.1 k hk;have h:=hblk k D (λe=>HO.out.2.2.2.2.2.2.1 (e▸hk)) h5.1;exact⟨h5.1,h.1,h.2⟩)
    ·exact fU.mono (pF.rows HO.out.2.2.1) (λk hk D=>by
      have h5:=HO.out.2.2.2.2.1 k hk;have h:=hblk k D (λe=>HO.out.2.2.2.2.2.2.2 (e▸hk)) h5;exact⟨h5,h.1,h.2⟩)
   clear aF dq e0 hT ak bh bG H M N T q0 q1 q2 q3 q4 b5 cN;have bH:(P.orders.set 0 (gt [4,1,11,0,-2] i)).length<=7:=by rw[List.length_set,<-E.out.2.2.1];omega
   have cQ:mq P ⟨P.orders.set 0 (gt [4,1,11,0,-2] i),P.eH,P.conj⟩:=λh=>by
    have h1:gt (P.orders.set 0 (gt [4,1,11,0,-2] i)) 0=2\/gt (P.orders.set 0 (gt [4,1,11,0,-2] i)) 0=3\/gt (P.orders.set 0 (gt [4,1,11,0,-2] i)) 0=5\/gt (P.orders.set 0 (gt [4,1,11,0,-2] i)) 0=7:=h.ord 0 (by show 0<(P.orders.set 0 _).length;rw[List.length_set,<-E.out.2.2.1];exact O);exfalso
    rw[iN _ _ _ (by rw[<-E.out.2.2.1];exact O)] at h1;have ea:i<5:=hi;obtain rfl|rfl|rfl|rfl|rfl:i=0\/i=1\/i=2\/i=3\/i=4:=by omega
    all_goals simp[gt] at h1
   have bI:=Lib.hid (And.intro bH cQ);clear bH cQ;generalize C.setCell ⟨g,0,none⟩ (.int .i64 (gt [4,1,11,0,-2] i))=w6 at *;try go_wp2_with fail
   go_meet;exact⟨_,_,_,_,_,_,_,_,_,_,aE,aa,aq,aO,bI.out.1,bI.out.2,fA.mono bY (λk hk D=>⟨by omega,D,rfl⟩)⟩
 ·by_cases Z:n=0
  ·have bZ:decide (0<n)=false:=by simp[Z]
   clear Z;go_wp2_with fail
   try go_wp2_with fail
   go_meet;exact⟨_,_,_,_,_,_,_,_,_,_,M,N,T,E.out.2.1,(by rw[<-E.out.2.2.1];omega),(by exact mq.same rfl),fA.mono E.out.1.p3 (λk hk D=>⟨by omega,D,rfl⟩)⟩
  ·have O:0<n:=by omega
   clear Z;have b6:(0:Int)<n:=by omega
   have bi:=E.out.1.p3.p;obtain⟨bq,oq,ae,ce,hap,N8,_,al,aR⟩:=dK.at bi 0 (by rw[E.out.2.2.2.1];exact O);obtain⟨g,jL,z,am,⟨aK,aC⟩,aX,b9,b',_⟩:=E.out.1.CC 0 (by rw[E.out.2.2.2.1];exact O) (U:=λ_=>False) (y:=[]) (u := .slice none 0 0) ⟨none,0,rfl,⟨by simp,by simp,λ_=>rfl⟩,λi hi=>by simp at hi⟩ (λ_ h=>h.elim);obtain⟨rfl,rfl⟩:ax=some ⟨g,0,none⟩/\ah=jL:=by cases am;exact⟨rfl,rfl⟩
   have bt:g=bq:=by cases hap;rfl
   have ca:oq=0:=by cases hap;rfl
   clear hap;subst bt ca;rw[Nat.zero_add] at al;have ds:(gt P.eH 0).length<=6:=HH.out.1.pv _ (fT (by rw[E.out.2.2.2.1];exact O));obtain⟨e,he⟩:∃e,e=gt P.eH 0:=⟨_,rfl⟩;rw[<-he] at al aR ds;clear am he b9 bi;have dt:=M.ext (fk _ none);obtain⟨d0,d1,d2,d3,d4⟩:=id dt;have f1:l.drew.cell? ⟨g,0,none⟩=some (.slice ae e.length ce):=al;have bW:(e++[(0:Int)]).length=e.length+1:=by simp
   go_wp2_with fail
   have e1:∀w',fI l g w'->w'.cell? ⟨V,1,none⟩=some (.slice (some ⟨g,0,none⟩) n ah):=λw' h=>h.cell M.2.2.1 (by simp;omega);refine wp_region_held_drew (S:=λw'=>fI l g w') (by kernel_rfl) (fI.of (fk _ _)) (λA => ?_);refine tk 0 ?_;refine tk 1 ?_;refine tk 2 ?_;refine tk 3 ?_;refine tk 4 ?_;have X:Ext l (l.alloc (.cells #[.int .i64 0] 2)).drew:=dy (World.grownBy_alloc _ _ _) (fk _ _);refine qC 5 7 (λJ q => ?_) (λJ q => ?_)
   focus
    go_simp;refine ko q (by assumption) (λA => ?_);clear q J;refine qC 6 7 (λJ q => ?_) (λJ q => ?_)
    focus
     go_simp;go_at_call 120;refine Calls.mono (mD l.drew _ e _ (aR.ext (fk _ _)) (by omega)) ?_;rintro e5 C ⟨v5,rfl,H,yI⟩;have B:Ext l C:=dy (fk _ _) H;have K:Own l.heap.size C v5 e:=yI;obtain⟨a5,c5,aN,_⟩:=(K.ints (by omega)).shape;subst aN;go_wp2_with fail
     refine ko q (fI.of B) (λA => ?_);clear q J;refine iK 7 (λJ q => ?_);go_simp;refine ko q (fI.of (dy B (World.grownBy_alloc _ _ _))) (λA => ?_);clear q J;refine iK 8 (λJ q => ?_);refine uJ (by rfl) _ _ (by rfl) l.heap.size _ e 0 (by rfl) C K (by rfl) (by rfl) (by omega) B.size ?_
    rotate_left
    focus
     go_simp;refine ko q (fI.of X) (λA => ?_);clear q J;refine iK 6 (λJ q => ?_);go_simp;go_at_call 120;refine Calls.mono (mD (l.alloc (.cells #[.int .i64 0] 2)).drew _ e _ (aR.ext X) (by omega)) ?_;rintro e5 C ⟨v5,rfl,H,yI⟩;have B:Ext l C:=dy X H;have du:(l.alloc (.cells #[.int .i64 0] 2)).drew.heap.size=l.heap.size+1:=(by simp:(l.alloc (.cells #[.int .i64 0] 2)).heap.size=l.heap.size+1);have K:Own l.heap.size C v5 e:=yI.weak (by omega);have cb:(l.alloc (.cells #[.int .i64 0] 2)).drew.cell? ⟨l.heap.size,0,none⟩=some (.int .i64 0):=(by rw[World.cell?_alloc_at _ _ _ _ rfl];rfl:(l.alloc (.cells #[.int .i64 0] 2)).cell? ⟨l.heap.size,0,none⟩=some (.int .i64 0));have cd:=H.cell cb (by simp);obtain⟨a5,c5,aN,_⟩:=(K.ints (by omega)).shape;subst aN;go_wp2_with fail
     refine ko q (fI.of B) (λA => ?_);clear q J;refine iK 8 (λJ q => ?_);refine G1 (by rfl) _ _ (by rfl) l.heap.size _ e 0 (by rfl) K l.heap.size (by rfl) cd (by omega) B.size ?_
   rotate_left 2
   focus
    go_simp;refine ko q (fI.of X) (λA => ?_);clear q J;refine iK 5 (λJ q => ?_);have f2:(l.alloc (.cells #[.int .i64 0] 2)).drew.cell? ⟨g,0,none⟩=some (.slice ae e.length ce):=(X:Ext l (l.alloc (.cells #[.int .i64 0] 2)).drew).cell al (by simp);go_simp;refine ko q (by assumption) (λA => ?_);clear q J;refine iK 6 (λJ q => ?_);go_simp;go_at_call 120;refine Calls.mono (mD (l.alloc (.cells #[.int .i64 0] 2)).drew _ e _ (aR.ext X) (by omega)) ?_;rintro e5 C ⟨v5,rfl,H,yI⟩;have B:Ext l C:=dy X H;have du:(l.alloc (.cells #[.int .i64 0] 2)).drew.heap.size=l.heap.size+1:=(by simp:(l.alloc (.cells #[.int .i64 0] 2)).heap.size=l.heap.size+1);have K:Own l.heap.size C v5 e:=yI.weak (by omega);have cb:(l.alloc (.cells #[.int .i64 0] 2)).drew.cell? ⟨l.heap.size,0,none⟩=some (.int .i64 0):=(by rw[World.cell?_alloc_at _ _ _ _ rfl];rfl:(l.alloc (.cells #[.int .i64 0] 2)).cell? ⟨l.heap.size,0,none⟩=some (.int .i64 0));have cd:=H.cell cb (by simp);obtain⟨a5,c5,aN,_⟩:=(K.ints (by omega)).shape;subst aN;go_wp2_with fail
    refine ko q (fI.of B) (λA => ?_);clear q J;refine iK 8 (λJ q => ?_);refine G1 (by rfl) _ _ (by rfl) l.heap.size _ e 0 (by rfl) K l.heap.size (by rfl) cd (by omega) B.size ?_
   all_goals
    intro v6 w6 ak aq;have I:Ext l w6:=fu B aq (λj hj D=>by have:=(K.lt j hj).1;omega);obtain⟨a6,c6,bu,_⟩:=(ak.ints (by simp;omega)).shape;rw[bW] at bu;subst bu;have r1:=I.cell al (by simp);have r2:=(World.frozen?_of_block (a:=⟨g,0,none⟩) (I.block g aX (by simp))).trans b';refine ko q (fI.of I) (λA => ?_);clear q J;refine tk 9 ?_;refine iK 10 (λJ q => ?_);go_simp;refine ko q (fI.store I) (λA => ?_);clear q J;refine wpAnyH_done (by kernel_rfl) ?_ _;have hT:=iG w6 g 0 (.slice a6 (e.length+1) c6);have aG:=(M.ext I).moved hT (by omega);have ab:=(N.ext I).moved hT (by omega);have ad:=fu (dy T (fH (some sb) I)) hT (λj hj D=>by have:=Option.some.inj hj;omega);have aH:=(E.out.2.1.ext I).own hT (λk hk=>by have:=Option.some.inj hk;omega);have cR:gu (λk=>w0.heap.size<=k/\k≠V/\k<l.heap.size) w6 (.slice ag n Y) (.slice (some ⟨g,0,none⟩) n ah) (.slice ay n an) P:=E.out.1.mono (λk hk D=>⟨⟨hk.1,hk.2,D⟩,Nat.lt_of_lt_of_le D I.size,I.block k D (by simp)⟩);have cS:Ints (λk=>l.heap.size<=k) w6 (.slice a6 (e.length+1) c6) (e++[0]):=iD ak (by omega) (λk hk=>(ak.lt k hk).1);obtain⟨g',_,_,yf,_,_,_,_,aI⟩:=cR.CC 0 (by rw[E.out.2.2.2.1];exact O) cS (λk hk h=>by omega);have cT:g'=g:=by simp only[Value.slice.injEq,Option.some.injEq,Addr.mk.injEq] at yf;exact yf.1.1.symm
    rw[cT] at aI;clear yf cT;clear X hT cR cS ak K r1 r2;go_wp2_with fail
    go_meet;exact⟨_,_,_,_,_,_,_,_,_,_,aG,ab,ad,aH,(by show P.orders.length<=7;rw[<-E.out.2.2.1];omega),(by exact mq.same rfl),aI.mono (λk hk D=>⟨by rcases hk with hk|hk<;>omega,D,rfl⟩)⟩
 ·by_cases Z:n=0
  ·have bZ:decide (0<n)=false:=by simp[Z]
   clear Z;go_wp2_with fail
   try go_wp2_with fail
   go_meet;exact⟨_,_,_,_,_,_,_,_,_,_,M,N,T,E.out.2.1,(by rw[<-E.out.2.2.1];omega),(by exact mq.same rfl),fA.mono E.out.1.p3 (λk hk D=>⟨by omega,D,rfl⟩)⟩
  ·have O:0<n:=by omega
   clear Z;have b6:(0:Int)<n:=by omega
   have cf:(gt P.eH 0).length=n:=by rw[E.out.2.2.1];exact(HH.out.2.1.pv 0 (by rw[<-E.out.2.2.1];exact O)).1.1
   obtain⟨g,jL,b,ql,am,⟨aK,aC⟩,aX,b9,⟨bn,AQ⟩,bt,hbl,dv,hst⟩:=E.out.1.GZ (r:=sb) 0 0 (by rw[E.out.2.2.2.1];exact O) (by rw[cf];exact O) (λh=>by omega);obtain⟨rfl,rfl⟩:ax=some ⟨g,0,none⟩/\ah=jL:=by cases am;exact⟨rfl,rfl⟩
   clear am;rw[cf] at b9;obtain⟨ec,aZ⟩:=hst l (gZ _ _);have aZ:=aZ 1;have hT:=iG l b 0 (.int .i64 1);have aE:=M.moved hT (by omega);have aa:=N.moved hT (by omega);have aq:=fu T hT (λj hj D=>by have:=Option.some.inj hj;omega);have aO:=E.out.2.1.own hT (λk hk=>by have:=Option.some.inj hk;omega);generalize gt (gt P.eH 0) 0=oz at dv;have dw:=Lib.hid (And.intro aZ (And.intro aE (And.intro aa (And.intro aq aO))));clear aZ aE aa aq aO hT hst cf;go_wp2_with fail
   go_meet;obtain⟨aZ,aE,aa,aq,aO⟩:=dw.out;exact⟨_,_,_,_,_,_,_,_,_,_,aE,aa,aq,aO,(by show P.orders.length<=7;rw[<-E.out.2.2.1];omega),(by exact mq.same rfl),aZ.p3.mono (λk hk D=>⟨by rcases hk with hk|hk<;>omega,D,rfl⟩)⟩
 ·by_cases Z:n=0
  ·have bZ:decide (0<n)=false:=by simp[Z]
   clear Z;go_wp2_with fail
   try go_wp2_with fail
   go_meet;exact⟨_,_,_,_,_,_,_,_,_,_,M,N,T,E.out.2.1,(by rw[<-E.out.2.2.1];omega),(by exact mq.same rfl),fA.mono E.out.1.p3 (λk hk D=>⟨by omega,D,rfl⟩)⟩
  ·have O:0<n:=by omega
   clear Z;have b6:(0:Int)<n:=by omega
   have bi:=E.out.1.p3.c;obtain⟨bq,oq,ae,ce,hap,N8,_,al,aR⟩:=fU.at bi 0 (by rw[E.out.2.2.2.2];exact O);obtain⟨g,jL,z,am,aK,aC,aX,b'⟩:=E.out.1.N2 0 (by rw[E.out.2.2.2.2];exact O);obtain⟨rfl,rfl⟩:ay=some ⟨g,0,none⟩/\an=jL:=by cases am;exact⟨rfl,rfl⟩
   have bt:g=bq:=by cases hap;rfl
   have ca:oq=0:=by cases hap;rfl
   clear hap;subst bt ca;rw[Nat.zero_add] at al;have e1:∀w',fI l g w'->w'.cell? ⟨V,2,none⟩=some (.slice (some ⟨g,0,none⟩) n an):=λw' h=>h.cell M.2.2.2.1 (by simp;omega);have e0:∀w',fI l g w'->w'.cell? ⟨V,0,none⟩=some (.slice ag n Y):=λw' h=>h.cell M.2.1 (by simp;omega);have dx:(gt P.conj 0).length<=6:=by rw[HH.out.1.cl 0 (by rw[<-E.out.2.2.1];exact O),<-E.out.2.2.1];omega
   have cg:∀x∈gt P.conj 0,x.length<=1000000:=λx hx=>by have:=HH.out.1.cv _ (fT (by rw[E.out.2.2.2.2];exact O)) x hx;omega
   obtain⟨R,hR⟩:∃R,R=gt P.conj 0:=⟨_,rfl⟩;rw[<-hR] at al aR dx cg;have HR:=Lib.hid (And.intro cg hR);clear am cg hR bi aK;have dz:=λw=>F6 n (by omega) w;go_wp2_with fail
   refine wp_region_held_drew (S:=λw'=>fI l g w') (by kernel_rfl) (fI.of (fk _ _)) (λA => ?_);refine tk 0 ?_;refine tk 1 ?_;refine tk 2 ?_;refine tk 3 ?_;refine tk 4 ?_;refine tk 7 ?_;refine tk 8 ?_;refine tk 9 ?_;have bv:Ext l l.drew:=fk _ _;have X:Ext l (l.alloc (.cells (madeCells #[.int .i64 0] n) 2)).drew:=dy (World.grownBy_alloc _ _ _) (fk _ _);have aJ:Ext l ((l.alloc (.cells (madeCells #[.int .i64 0] n) 2)).alloc (.cells #[.slice (some ⟨l.heap.size,0,none⟩) n n] 24)).drew:=dy (World.grownBy_alloc _ _ _) (dy (World.grownBy_alloc _ _ _) (fk _ _))
   have ar:∀(w':World) (m:Nat),Ext l w'->w'.heap.size=l.heap.size+m->Calls Tryz.prog 183 #[.slice ae R.length ce] w' (λe5 C=>∃a5 c5 vs,e5=.returned (.slice a5 vs.length c5)/\Ext w' C/\Ext l C/\vs.length<=6/\fK l.heap.size 24 C (.slice a5 vs.length c5) vs/\(∀k,(Value.slice a5 vs.length c5).ownBlock=some k->l.heap.size+m<=k)/\Hid ((∀i,i<R.length->Ints (λk=>l.heap.size<=k/\(Value.slice a5 vs.length c5).ownBlock≠some k) C (gt vs i) (gt R i))/\vs.length=R.length)):=λw' m hx hm=>by
    refine Calls.mono (yj w' _ R _ (dK.ext aR hx) HR.out.1 (by omega)) ?_;rintro e5 C ⟨v5,rfl,H,vs,G,hvl,K,cU,_,dA⟩;have cV:=hx.size;have ak:fK l.heap.size 24 C v5 vs:=ve K (λk hk=>⟨rfl,Nat.le_trans cV (K.lt k hk).1⟩)
    obtain ⟨a5,c5,rfl⟩:∃a c,v5=.slice a vs.length c:=by
     rcases K.form with⟨h1,h2⟩|⟨g5,yE,h1,_⟩
     ·exact⟨_,_,by rw[h1,h2];rfl⟩
     ·exact⟨_,_,h1⟩
    exact⟨a5,c5,vs,rfl,H,dy hx H,by omega,ak,λk hk=>by have:=(K.lt k hk).1;omega,Lib.hid ⟨λi hi=>Ints.sub (dA i hi).ints (λk hk _=>⟨Nat.le_trans cV (cU i k hi hk).1,(cU i k hi hk).2.1⟩),hvl⟩⟩
   have cW:l.drew.heap.size=l.heap.size+0:=rfl;have ch:(l.alloc (.cells (madeCells #[.int .i64 0] n) 2)).drew.heap.size=l.heap.size+1:=(by simp:(l.alloc (.cells (madeCells #[.int .i64 0] n) 2)).heap.size=l.heap.size+1);have bw:((l.alloc (.cells (madeCells #[.int .i64 0] n) 2)).alloc (.cells #[.slice (some ⟨l.heap.size,0,none⟩) n n] 24)).drew.heap.size=l.heap.size+2:=(by simp:((l.alloc (.cells (madeCells #[.int .i64 0] n) 2)).alloc (.cells #[.slice (some ⟨l.heap.size,0,none⟩) n n] 24)).heap.size=l.heap.size+2);have bp:∀(vs:List Value) (u:Value),(vs++[u]).length=vs.length+1:=λvs u=>by simp
   refine qC 5 10 (λJ q => ?_) (λJ q => ?_)
   focus
    have f2:l.drew.cell? ⟨g,0,none⟩=some (.slice ae R.length ce):=(bv:Ext l l.drew).cell al (by simp);go_simp;refine ko q (fI.of bv) (λA => ?_);clear q J;refine qC 6 10 (λJ q => ?_) (λJ q => ?_)
    focus
     go_simp;go_at_call 183;refine Calls.mono (ar _ 0 bv cW) ?_;rintro e5 C ⟨a5,c5,vs,rfl,H,B,yJ,K,vK,aS⟩;go_wp2_with fail
     refine ko q (fI.of B) (λA => ?_);clear q J;refine iK 10 (λJ q => ?_);go_simp;refine ko q (fI.of (dy B (World.grownBy_alloc C (.cells (madeCells #[.int .i64 0] n) 2) none))) (λA => ?_);clear q J;refine iK 11 (λJ q => ?_);go_simp;refine ko q (fI.of (dy (dy B (World.grownBy_alloc C (.cells (madeCells #[.int .i64 0] n) 2) none)) (World.grownBy_alloc (C.alloc (.cells (madeCells #[.int .i64 0] n) 2)) (.cells #[.slice (some ⟨C.heap.size,0,none⟩) n n] 24) none))) (λA => ?_);clear q J;refine iK 12 (λJ q => ?_);have au:Ints (λk=>l.heap.size<=k/\k=C.heap.size) (C.alloc (.cells (madeCells #[.int .i64 0] n) 2)) (.slice (some ⟨C.heap.size,0,none⟩) n n) (List.replicate n 0):=iD (tN n (by omega) C) (by simp;omega) (λk hk=>by have:=ku hk;subst this;exact⟨by first|exact Nat.le_refl _|exact B.size,rfl⟩);have hM:Ints (λk=>l.heap.size<=k/\k=C.heap.size) ((C.alloc (.cells (madeCells #[.int .i64 0] n) 2)).alloc (.cells #[.slice (some ⟨C.heap.size,0,none⟩) n n] 24)) (.slice (some ⟨C.heap.size,0,none⟩) n n) (List.replicate n 0):=Ints.ext au (dy (gZ _ none) (World.grownBy_alloc (C.alloc (.cells (madeCells #[.int .i64 0] n) 2)) (.cells #[.slice (some ⟨C.heap.size,0,none⟩) n n] 24) none));have W:(C.alloc (.cells (madeCells #[.int .i64 0] n) 2)).heap.size=C.heap.size+1:=by simp
     have av:((C.alloc (.cells (madeCells #[.int .i64 0] n) 2)).alloc (.cells #[.slice (some ⟨C.heap.size,0,none⟩) n n] 24)).cell? ⟨C.heap.size+1,0,none⟩=some (.slice (some ⟨C.heap.size,0,none⟩) n n):=by rw[World.cell?_alloc_at _ _ _ _ W.symm];rfl
     have hu:=av;have aw:Ext l ((C.alloc (.cells (madeCells #[.int .i64 0] n) 2)).alloc (.cells #[.slice (some ⟨C.heap.size,0,none⟩) n n] 24)):=(dy (dy B (World.grownBy_alloc C (.cells (madeCells #[.int .i64 0] n) 2) none)) (World.grownBy_alloc (C.alloc (.cells (madeCells #[.int .i64 0] n) 2)) (.cells #[.slice (some ⟨C.heap.size,0,none⟩) n n] 24) none));have aF:Ext C ((C.alloc (.cells (madeCells #[.int .i64 0] n) 2)).alloc (.cells #[.slice (some ⟨C.heap.size,0,none⟩) n n] 24)):=(dy (dy (gZ _ none) (World.grownBy_alloc C (.cells (madeCells #[.int .i64 0] n) 2) none)) (World.grownBy_alloc (C.alloc (.cells (madeCells #[.int .i64 0] n) 2)) (.cells #[.slice (some ⟨C.heap.size,0,none⟩) n n] 24) none))
    rotate_left
    focus
     go_simp;refine ko q (fI.of X) (λA => ?_);clear q J;refine qC 6 11 (λJ q => ?_) (λJ q => ?_)
     focus
      go_simp;go_at_call 183;refine Calls.mono (ar _ 1 X ch) ?_;rintro e5 C ⟨a5,c5,vs,rfl,H,B,yJ,K,vK,aS⟩;go_wp2_with fail
      refine ko q (fI.of B) (λA => ?_);clear q J;refine iK 11 (λJ q => ?_);go_simp;refine ko q (fI.of (dy B (World.grownBy_alloc C (.cells #[.slice (some ⟨l.heap.size,0,none⟩) n n] 24) none))) (λA => ?_);clear q J;refine iK 12 (λJ q => ?_);have au:Ints (λk=>l.heap.size<=k/\k=l.heap.size) (l.alloc (.cells (madeCells #[.int .i64 0] n) 2)) (.slice (some ⟨l.heap.size,0,none⟩) n n) (List.replicate n 0):=iD (tN n (by omega) l) (by simp;omega) (λk hk=>by have:=ku hk;subst this;exact⟨by first|exact Nat.le_refl _|exact B.size,rfl⟩);have hM:Ints (λk=>l.heap.size<=k/\k=l.heap.size) (C.alloc (.cells #[.slice (some ⟨l.heap.size,0,none⟩) n n] 24)) (.slice (some ⟨l.heap.size,0,none⟩) n n) (List.replicate n 0):=Ints.ext au (dy (dy (dy (gZ _ none) (fk (l.alloc (.cells (madeCells #[.int .i64 0] n) 2)) none)) (H)) (World.grownBy_alloc C (.cells #[.slice (some ⟨l.heap.size,0,none⟩) n n] 24) none));have W:C.heap.size=C.heap.size:=rfl;have av:(C.alloc (.cells #[.slice (some ⟨l.heap.size,0,none⟩) n n] 24)).cell? ⟨C.heap.size,0,none⟩=some (.slice (some ⟨l.heap.size,0,none⟩) n n):=by rw[World.cell?_alloc_at _ _ _ _ W.symm];rfl
      have hu:=av;have aw:Ext l (C.alloc (.cells #[.slice (some ⟨l.heap.size,0,none⟩) n n] 24)):=(dy B (World.grownBy_alloc C (.cells #[.slice (some ⟨l.heap.size,0,none⟩) n n] 24) none));have aF:Ext C (C.alloc (.cells #[.slice (some ⟨l.heap.size,0,none⟩) n n] 24)):=(dy (gZ _ none) (World.grownBy_alloc C (.cells #[.slice (some ⟨l.heap.size,0,none⟩) n n] 24) none))
     rotate_left
     focus
      go_simp;refine ko q (fI.of aJ) (λA => ?_);clear q J;refine iK 6 (λJ q => ?_);go_simp;go_at_call 183;refine Calls.mono (ar _ 2 aJ bw) ?_;rintro e5 C ⟨a5,c5,vs,rfl,H,B,yJ,K,vK,aS⟩;go_wp2_with fail
      refine ko q (fI.of B) (λA => ?_);clear q J;refine iK 12 (λJ q => ?_);have au:Ints (λk=>l.heap.size<=k/\k=l.heap.size) (l.alloc (.cells (madeCells #[.int .i64 0] n) 2)) (.slice (some ⟨l.heap.size,0,none⟩) n n) (List.replicate n 0):=iD (tN n (by omega) l) (by simp;omega) (λk hk=>by have:=ku hk;subst this;exact⟨by first|exact Nat.le_refl _|exact B.size,rfl⟩);have hM:Ints (λk=>l.heap.size<=k/\k=l.heap.size) C (.slice (some ⟨l.heap.size,0,none⟩) n n) (List.replicate n 0):=Ints.ext au (dy (dy (dy (gZ _ none) (World.grownBy_alloc (l.alloc (.cells (madeCells #[.int .i64 0] n) 2)) (.cells #[.slice (some ⟨l.heap.size,0,none⟩) n n] 24) none)) (fk ((l.alloc (.cells (madeCells #[.int .i64 0] n) 2)).alloc (.cells #[.slice (some ⟨l.heap.size,0,none⟩) n n] 24)) none)) (H));have W:(l.alloc (.cells (madeCells #[.int .i64 0] n) 2)).heap.size=l.heap.size+1:=by simp
      have av:((l.alloc (.cells (madeCells #[.int .i64 0] n) 2)).alloc (.cells #[.slice (some ⟨l.heap.size,0,none⟩) n n] 24)).cell? ⟨l.heap.size+1,0,none⟩=some (.slice (some ⟨l.heap.size,0,none⟩) n n):=by rw[World.cell?_alloc_at _ _ _ _ W.symm];rfl
      have hu:C.cell? ⟨l.heap.size+1,0,none⟩=some (.slice (some ⟨l.heap.size,0,none⟩) n n):=H.cell av (by simp);have aw:Ext l C:=B;have aF:Ext C C:=(gZ _ none)
   rotate_left 3
   focus
    go_simp;refine ko q (fI.of X) (λA => ?_);clear q J;refine qC 5 11 (λJ q => ?_) (λJ q => ?_)
    focus
     have f2:(l.alloc (.cells (madeCells #[.int .i64 0] n) 2)).drew.cell? ⟨g,0,none⟩=some (.slice ae R.length ce):=(X:Ext l (l.alloc (.cells (madeCells #[.int .i64 0] n) 2)).drew).cell al (by simp);go_simp;refine ko q (fI.of X) (λA => ?_);clear q J;refine qC 6 11 (λJ q => ?_) (λJ q => ?_)
     focus
      go_simp;go_at_call 183;refine Calls.mono (ar _ 1 X ch) ?_;rintro e5 C ⟨a5,c5,vs,rfl,H,B,yJ,K,vK,aS⟩;go_wp2_with fail
      refine ko q (fI.of B) (λA => ?_);clear q J;refine iK 11 (λJ q => ?_);go_simp;refine ko q (fI.of (dy B (World.grownBy_alloc C (.cells #[.slice (some ⟨l.heap.size,0,none⟩) n n] 24) none))) (λA => ?_);clear q J;refine iK 12 (λJ q => ?_);have au:Ints (λk=>l.heap.size<=k/\k=l.heap.size) (l.alloc (.cells (madeCells #[.int .i64 0] n) 2)) (.slice (some ⟨l.heap.size,0,none⟩) n n) (List.replicate n 0):=iD (tN n (by omega) l) (by simp;omega) (λk hk=>by have:=ku hk;subst this;exact⟨by first|exact Nat.le_refl _|exact B.size,rfl⟩);have hM:Ints (λk=>l.heap.size<=k/\k=l.heap.size) (C.alloc (.cells #[.slice (some ⟨l.heap.size,0,none⟩) n n] 24)) (.slice (some ⟨l.heap.size,0,none⟩) n n) (List.replicate n 0):=Ints.ext au (dy (dy (dy (gZ _ none) (fk (l.alloc (.cells (madeCells #[.int .i64 0] n) 2)) none)) (H)) (World.grownBy_alloc C (.cells #[.slice (some ⟨l.heap.size,0,none⟩) n n] 24) none));have W:C.heap.size=C.heap.size:=rfl;have av:(C.alloc (.cells #[.slice (some ⟨l.heap.size,0,none⟩) n n] 24)).cell? ⟨C.heap.size,0,none⟩=some (.slice (some ⟨l.heap.size,0,none⟩) n n):=by rw[World.cell?_alloc_at _ _ _ _ W.symm];rfl
      have hu:=av;have aw:Ext l (C.alloc (.cells #[.slice (some ⟨l.heap.size,0,none⟩) n n] 24)):=(dy B (World.grownBy_alloc C (.cells #[.slice (some ⟨l.heap.size,0,none⟩) n n] 24) none));have aF:Ext C (C.alloc (.cells #[.slice (some ⟨l.heap.size,0,none⟩) n n] 24)):=(dy (gZ _ none) (World.grownBy_alloc C (.cells #[.slice (some ⟨l.heap.size,0,none⟩) n n] 24) none))
     rotate_left
     focus
      go_simp;refine ko q (fI.of aJ) (λA => ?_);clear q J;refine iK 6 (λJ q => ?_);go_simp;go_at_call 183;refine Calls.mono (ar _ 2 aJ bw) ?_;rintro e5 C ⟨a5,c5,vs,rfl,H,B,yJ,K,vK,aS⟩;go_wp2_with fail
      refine ko q (fI.of B) (λA => ?_);clear q J;refine iK 12 (λJ q => ?_);have au:Ints (λk=>l.heap.size<=k/\k=l.heap.size) (l.alloc (.cells (madeCells #[.int .i64 0] n) 2)) (.slice (some ⟨l.heap.size,0,none⟩) n n) (List.replicate n 0):=iD (tN n (by omega) l) (by simp;omega) (λk hk=>by have:=ku hk;subst this;exact⟨by first|exact Nat.le_refl _|exact B.size,rfl⟩);have hM:Ints (λk=>l.heap.size<=k/\k=l.heap.size) C (.slice (some ⟨l.heap.size,0,none⟩) n n) (List.replicate n 0):=Ints.ext au (dy (dy (dy (gZ _ none) (World.grownBy_alloc (l.alloc (.cells (madeCells #[.int .i64 0] n) 2)) (.cells #[.slice (some ⟨l.heap.size,0,none⟩) n n] 24) none)) (fk ((l.alloc (.cells (madeCells #[.int .i64 0] n) 2)).alloc (.cells #[.slice (some ⟨l.heap.size,0,none⟩) n n] 24)) none)) (H));have W:(l.alloc (.cells (madeCells #[.int .i64 0] n) 2)).heap.size=l.heap.size+1:=by simp
      have av:((l.alloc (.cells (madeCells #[.int .i64 0] n) 2)).alloc (.cells #[.slice (some ⟨l.heap.size,0,none⟩) n n] 24)).cell? ⟨l.heap.size+1,0,none⟩=some (.slice (some ⟨l.heap.size,0,none⟩) n n):=by rw[World.cell?_alloc_at _ _ _ _ W.symm];rfl
      have hu:C.cell? ⟨l.heap.size+1,0,none⟩=some (.slice (some ⟨l.heap.size,0,none⟩) n n):=H.cell av (by simp);have aw:Ext l C:=B;have aF:Ext C C:=(gZ _ none)
    rotate_left 2
    focus
     go_simp;refine ko q (fI.of aJ) (λA => ?_);clear q J;refine iK 5 (λJ q => ?_);have f2:((l.alloc (.cells (madeCells #[.int .i64 0] n) 2)).alloc (.cells #[.slice (some ⟨l.heap.size,0,none⟩) n n] 24)).drew.cell? ⟨g,0,none⟩=some (.slice ae R.length ce):=(aJ:Ext l ((l.alloc (.cells (madeCells #[.int .i64 0] n) 2)).alloc (.cells #[.slice (some ⟨l.heap.size,0,none⟩) n n] 24)).drew).cell al (by simp);go_simp;refine ko q (fI.of aJ) (λA => ?_);clear q J;refine iK 6 (λJ q => ?_);go_simp;go_at_call 183;refine Calls.mono (ar _ 2 aJ bw) ?_;rintro e5 C ⟨a5,c5,vs,rfl,H,B,yJ,K,vK,aS⟩;go_wp2_with fail
     refine ko q (fI.of B) (λA => ?_);clear q J;refine iK 12 (λJ q => ?_);have au:Ints (λk=>l.heap.size<=k/\k=l.heap.size) (l.alloc (.cells (madeCells #[.int .i64 0] n) 2)) (.slice (some ⟨l.heap.size,0,none⟩) n n) (List.replicate n 0):=iD (tN n (by omega) l) (by simp;omega) (λk hk=>by have:=ku hk;subst this;exact⟨by first|exact Nat.le_refl _|exact B.size,rfl⟩);have hM:Ints (λk=>l.heap.size<=k/\k=l.heap.size) C (.slice (some ⟨l.heap.size,0,none⟩) n n) (List.replicate n 0):=Ints.ext au (dy (dy (dy (gZ _ none) (World.grownBy_alloc (l.alloc (.cells (madeCells #[.int .i64 0] n) 2)) (.cells #[.slice (some ⟨l.heap.size,0,none⟩) n n] 24) none)) (fk ((l.alloc (.cells (madeCells #[.int .i64 0] n) 2)).alloc (.cells #[.slice (some ⟨l.heap.size,0,none⟩) n n] 24)) none)) (H));have W:(l.alloc (.cells (madeCells #[.int .i64 0] n) 2)).heap.size=l.heap.size+1:=by simp
     have av:((l.alloc (.cells (madeCells #[.int .i64 0] n) 2)).alloc (.cells #[.slice (some ⟨l.heap.size,0,none⟩) n n] 24)).cell? ⟨l.heap.size+1,0,none⟩=some (.slice (some ⟨l.heap.size,0,none⟩) n n):=by rw[World.cell?_alloc_at _ _ _ _ W.symm];rfl
     have hu:C.cell? ⟨l.heap.size+1,0,none⟩=some (.slice (some ⟨l.heap.size,0,none⟩) n n):=H.cell av (by simp);have aw:Ext l C:=B;have aF:Ext C C:=(gZ _ none)
   all_goals
    have dB:=World.ownsRow.kept K aF (by cases hv:(Value.slice a5 vs.length c5).ownBlock<;>simp);refine N3 (by rfl) _ _ (by rfl) l.heap.size _ vs (by rfl) dB _ _ (by rfl) ⟨hu,rfl⟩ (by omega) aw.size ?_;intro v6 w6 ak aq dM;have I:Ext l w6:=fu aw aq (λj hj D=>by have:=(K.lt j hj).1;omega);have aV:=N4 (L:=R) (y:=List.replicate n 0) ak aS.out.2 (by omega) aS.out.1 aF aq hM (λk hk=>⟨hk.1,λe=>by have h1:=vK k e;have h2:=(K.lt k e).2;omega⟩)
    obtain ⟨a6,c6,bu,_⟩:∃a c,v6=.slice a (vs.length+1) c/\True:=by
     rcases ak.form with⟨h1,h2⟩|⟨g5,yE,h1,_⟩
     ·simp at h2
     ·exact⟨_,_,by rw[h1,bp],trivial⟩
    subst bu;have r1:=I.cell al (by simp);have r2:=(World.frozen?_of_block (a:=⟨g,0,none⟩) (I.block g aX (by simp))).trans b';refine ko q (fI.of I) (λA => ?_);clear q J;refine tk 13 ?_;refine iK 14 (λJ q => ?_);go_simp;refine ko q (fI.store I) (λA => ?_);clear q J;refine wpAnyH_done (by kernel_rfl) ?_ _;clear r1 r2 dz e0 e1 ar bv X aJ bp cW ch bw;have hT:=iG w6 g 0 (.slice a6 (vs.length+1) c6);have aG:=(M.ext I).moved hT (by omega);have ab:=(N.ext I).moved hT (by omega);have ad:=fu (dy T (fH (some sb) I)) hT (λj hj D=>by have:=Option.some.inj hj;omega);have aH:=(E.out.2.1.ext I).own hT (λk hk=>by have:=Option.some.inj hk;omega);have aI:=E.out.1.putRow 0 O E.out.2.2.2.2 I aV;have HF:=Lib.hid (And.intro aG (And.intro ab (And.intro ad (And.intro aH aI))));clear aG ab ad aH aI hT aV;go_wp2_with fail
    go_meet;obtain⟨aG,ab,ad,aH,Q7,cX,aI⟩:=HF.out;exact⟨_,_,_,_,_,_,_,_,_,_,aG,ab,ad,aH,(by rw[cX,<-E.out.2.2.1];omega),(mq.same cX),aI.mono (λk hk D=>⟨by rcases hk with hk|hk<;>omega,D,rfl⟩)⟩
 ·go_wp2_with fail
  have bJ:Ext l (l.alloc (.cells #[.int .i64 7,.int .i64 7,.int .i64 7,.int .i64 7] 2)):=World.grownBy_alloc _ _ _;have cY:Ints Any (l.alloc (.cells #[.int .i64 7,.int .i64 7,.int .i64 7,.int .i64 7] 2)) (.slice (some ⟨l.heap.size,0,none⟩) 4 4) [7,7,7,7]:=Ints.sub (j4 l [7,7,7,7] (by simp)) (λ_ _ _=>trivial);have cZ:(l.alloc (.cells #[.int .i64 7,.int .i64 7,.int .i64 7,.int .i64 7] 2)).heap.size=l.heap.size+1:=by simp
  refine Calls.mono (qd _ _ [7,7,7,7] _ cY (by simp)) ?_;rintro e5 C ⟨v5,rfl,H,Vd,Ve,Vf,rfl,qj⟩;obtain⟨a0,a4,a7,a8,a9,a',rfl,rfl,rfl⟩:=rB qj;have aP:=dy bJ H;have cP:=aP.size;have bj:=M.ext aP;have aM:=N.ext aP;obtain⟨q0,q1,q2,q3,q4⟩:=id bj;have aT:=jh C V (.slice a0 4 a4) (.slice a7 4 a8) (.slice a9 4 a');have bK:=bj.all (.slice a0 4 a4) (.slice a7 4 a8) (.slice a9 4 a');have bL:=aM.moved aT (by omega)
  have c0:fA (λk=>w.heap.size+2<=k) (((C.setCell ⟨V,0,none⟩ (.slice a0 4 a4)).setCell ⟨V,1,none⟩ (.slice a7 4 a8)).setCell ⟨V,2,none⟩ (.slice a9 4 a')) (.slice a0 4 a4) (.slice a7 4 a8) (.slice a9 4 a') (j0 [7,7,7,7]):=
   qj.p3.mono (λk hk D=>by
    have hk:(l.alloc (.cells #[.int .i64 7,.int .i64 7,.int .i64 7,.int .i64 7] 2)).heap.size<=k:=hk;exact⟨by omega,Nat.lt_of_lt_of_le D aT.size,aT.block k D (λe=>by have:=Option.some.inj e;omega)⟩)
  clear qj cY cZ H bJ bj aM;have B:=fu (dy T (fH (some sb) aP)) aT (λj hj D=>by have:=Option.some.inj hj;omega);have bh:=(E.out.2.1.ext aP).own aT (λk hk=>by have:=Option.some.inj hk;omega);have dN:=aT.size;have HF:=Lib.hid (And.intro c0 (And.intro B bh));clear c0 B bh aT;go_wp2_with fail
  generalize ((C.setCell ⟨V,0,none⟩ (.slice a0 4 a4)).setCell ⟨V,1,none⟩ (.slice a7 4 a8)).setCell ⟨V,2,none⟩ (.slice a9 4 a')=w6 at *;refine Calls.mono (kZ B0 w6 sb 2 HF.out.2.2) ?_;rintro e7 w7 ⟨v7,rfl,ad,y,rfl,_,_,aH⟩;have aG:=bK.moved ad (by omega);have ab:=bL.moved ad (by omega);have bM:=dy HF.out.2.1 ad;have aI:fA (λk=>w.heap.size+2<=k) w7 (.slice a0 4 a4) (.slice a7 4 a8) (.slice a9 4 a') (j0 [7,7,7,7]):=HF.out.1.mono (λk hk D=>⟨hk,Nat.lt_of_lt_of_le D ad.size,ad.block k D (λe=>by have:=Option.some.inj e;omega)⟩);have dO:=ad.size;clear HF bK bL ad;by_cases hy:y=0
  ·have dC:(y == 0)=true:=by simp[hy]
   clear hy;go_wp2_with fail
   have bN:Ext w7 (w7.alloc (.cells #[.int .i64 2,.int .i64 2,.int .i64 2,.int .i64 2,.int .i64 2,.int .i64 2,.int .i64 2] 2)):=World.grownBy_alloc _ _ _;have c4:Ints Any (w7.alloc (.cells #[.int .i64 2,.int .i64 2,.int .i64 2,.int .i64 2,.int .i64 2,.int .i64 2,.int .i64 2] 2)) (.slice (some ⟨w7.heap.size,0,none⟩) 7 7) [2,2,2,2,2,2,2]:=Ints.sub (j4 w7 [2,2,2,2,2,2,2] (by simp)) (λ_ _ _=>trivial);have c7:(w7.alloc (.cells #[.int .i64 2,.int .i64 2,.int .i64 2,.int .i64 2,.int .i64 2,.int .i64 2,.int .i64 2] 2)).heap.size=w7.heap.size+1:=by simp
   refine Calls.mono (qd _ _ [2,2,2,2,2,2,2] _ c4 (by simp)) ?_;rintro e8 w8 ⟨v8,rfl,bk,Vg,Vh,Vi,rfl,C3⟩;obtain⟨bz,bA,bB,bC,bD,bE,rfl,rfl,rfl⟩:=rB C3;have aQ:=dy bN bk;have dQ:=aQ.size;have bl:=aG.ext aQ;have bO:=ab.ext aQ;obtain⟨q0,q1,q2,q3,q4⟩:=id bl;have ba:=jh w8 V (.slice bz 7 bA) (.slice bB 7 bC) (.slice bD 7 bE);have bP:=bl.all (.slice bz 7 bA) (.slice bB 7 bC) (.slice bD 7 bE);have bQ:=bO.moved ba (by omega)
   have c8:fA (λk=>w.heap.size+2<=k) (((w8.setCell ⟨V,0,none⟩ (.slice bz 7 bA)).setCell ⟨V,1,none⟩ (.slice bB 7 bC)).setCell ⟨V,2,none⟩ (.slice bD 7 bE)) (.slice bz 7 bA) (.slice bB 7 bC) (.slice bD 7 bE) (j0 [2,2,2,2,2,2,2]):=
    C3.p3.mono (λk hk D=>by
     have hk:(w7.alloc (.cells #[.int .i64 2,.int .i64 2,.int .i64 2,.int .i64 2,.int .i64 2,.int .i64 2,.int .i64 2] 2)).heap.size<=k:=hk;exact⟨by omega,Nat.lt_of_lt_of_le D ba.size,ba.block k D (λe=>by have:=Option.some.inj e;omega)⟩)
   clear C3 c4 c7 bk bN bl bO;have bk:=fu (dy bM (fH (some sb) aQ)) ba (λj hj D=>by have:=Option.some.inj hj;omega);have c9:=(aH.ext aQ).own ba (λk hk=>by have:=Option.some.inj hk;omega);have HF:=Lib.hid (And.intro c8 (And.intro bk (And.intro c9 (And.intro bP bQ))));clear c8 bk c9 ba bP bQ;go_wp2_with fail
   go_meet;exact⟨_,_,_,_,_,_,_,_,_,_,HF.out.2.2.2.1,HF.out.2.2.2.2,HF.out.2.1,HF.out.2.2.1,by decide,(by exact λh=>absurd h.n6 (by decide)),HF.out.1⟩
  ·have dC:(y == 0)=false:=by simp[hy]
   clear hy;go_wp2_with fail
   go_meet;exact⟨_,_,_,_,_,_,_,_,_,_,aG,ab,bM,aH,by decide,(by exact λh=>absurd h.mO (by decide)),aI⟩
set_option maxHeartbeats 16000000 in
theorem C4 (N:Nat) (w:World) (sb:Nat) (j:Int) (O:N<=w.heap.size) (hs:Src N w sb) :
  Calls Tryz.prog 85 #[.pointer (some ⟨sb,0,none⟩),.int .i64 j] w (mA w (some sb) (qJ N sb (yG 7 (tU j) w.heap.size))):=by
 have aB:=hs.lt;have Y:=fG.made w 28 (.slice none 0 0) (.slice none 0 0) (.slice none 0 0);have S:Ext w (w.alloc (.cells #[.slice none 0 0,.slice none 0 0,.slice none 0 0] 28)):=World.grownBy_alloc _ _ _;have ar:(w.alloc (.cells #[.slice none 0 0,.slice none 0 0,.slice none 0 0] 28)).heap.size=w.heap.size+1:=by simp
 have Z:=Lib.hid (hs.ext S);clear hs;go_enter Tryz.func85,Tryz.ntmps85;go_wp2_with fail
 generalize w.alloc (.cells #[.slice none 0 0,.slice none 0 0,.slice none 0 0] 28)=w0 at *;have av:w.heap.size+1<=w0.heap.size:=by omega
 clear ar;refine Calls.mono (NP N w0 sb j (by omega) Z.out) ?_;rintro e1 W ⟨v1,rfl,E,N9,hs1⟩;obtain⟨vo,vp,vc,Q,rfl,X,hQ,G3⟩:=N9;have T:=Lib.hid G3;clear G3;obtain⟨a1,F,c1,a2,G,c2,H,I,c3,rfl,rfl,rfl⟩:=sL.shape ⟨Q,X.C0,hQ⟩;have q:Ext W (W.alloc (.cells #[.slice a1 F c1,.slice a2 G c2,.slice H I c3] 28)):=World.grownBy_alloc _ _ _;have U:=fG.made W 28 (.slice a1 F c1) (.slice a2 G c2) (.slice H I c3);obtain⟨pb,V⟩:∃pb,pb=W.heap.size:=⟨_,rfl⟩;rw[<-V] at U;have aa:=E.size;have ab:fA (λk=>w0.heap.size<=k/\k≠pb) (W.alloc (.cells #[.slice a1 F c1,.slice a2 G c2,.slice H I c3] 28)) (.slice a1 F c1) (.slice a2 G c2) (.slice H I c3) Q:=hQ.mono (λk hk u=>⟨⟨hk,by omega⟩,Nat.lt_of_lt_of_le u q.size,q.block k u (by simp)⟩);have ac:=Y.moved E (by omega);have ad:=ac.ext q;have ae:=hs1.ext q;have J:=dy (fH (some sb) S) (dy E (fH (some sb) q));have HP:=Lib.hid V;have l:=Lib.hid (And.intro ab (And.intro ae X));clear hQ ab ae hs1 X E Y S Z ac q;go_wp2_with fail
 rw[<-HP.out];generalize W.alloc (.cells #[.slice a1 F c1,.slice a2 G c2,.slice H I c3] 28)=w2 at *;have aD:w0.heap.size<=pb:=by omega
 clear V HP aa;refine Calls.mono (kZ N w2 sb 24 l.out.2.1) ?_;rintro e3 w3 ⟨v3,rfl,hg3,x,rfl,_,hx1,ag⟩;have y:=ad.moved hg3 (by omega);have K:=U.moved hg3 (by omega);have AK:fA (λk=>w0.heap.size<=k/\k≠pb) w3 (.slice a1 F c1) (.slice a2 G c2) (.slice H I c3) Q:=l.out.1.mono (λk hk u=>⟨hk,Nat.lt_of_lt_of_le u hg3.size,hg3.block k u (λe=>by have:=Option.some.inj e;omega)⟩);have b:=dy J hg3;have X:=l.out.2.2;have ax:=b.size;have aE:=K.1;have l:=Lib.hid (And.intro AK (And.intro ag X));clear AK ag X hg3 U ad J hx1;obtain⟨q0,q1,q2,q3,q4⟩:=id K;by_cases z:x=0
 ·have au:(x == 0)=true:=by simp[z]
  clear z;go_wp2_with fail
  refine Calls.mono (N6 N w3 sb _ Q _ (by omega) l.out.2.1 ⟨_,_,_,rfl,l.out.1⟩ l.out.2.2) ?_;rintro e4 w4 ⟨v4,rfl,hg4,⟨uo,up,uc,R,rfl,A,B,C⟩,D⟩;obtain⟨y1,m1,k1,hy1⟩:∃a n c,uo=.slice a n c:=by obtain⟨a,c,e,_⟩:=B.o.shape;exact⟨_,_,_,e⟩
  obtain⟨y2,m2,k2,hy2⟩:∃a n c,up=.slice a n c:=by obtain⟨a,c,e,_⟩:=Sl.shape B.p;exact⟨_,_,_,e⟩
  obtain⟨y3,m3,k3,kX⟩:∃a n c,uc=.slice a n c:=by obtain⟨a,c,e,_⟩:=Sl.shape B.c;exact⟨_,_,_,e⟩
  subst hy1 hy2 kX;have m:=y.moved hg4 (by omega);have i:=dy b hg4;obtain⟨b0,b1,b2,b3,b4⟩:=id m;have L:=m.all (.slice y1 m1 k1) (.slice y2 m2 k2) (.slice y3 m3 k3);obtain⟨-,z0,z1,z2,-⟩:=id L;have r:=Lib.hid (And.intro i (And.intro D (And.intro B (And.intro A (T.out.le l.out.2.2 C)))));clear L i D B A m hg4 C;go_wp2_with fail
  refine bodyPost_ret (v := .agg #[.slice y1 m1 k1,.slice y2 m2 k2,.slice y3 m3 k3]) (by simp[results,Tryz.results85,go_sem,z0,z1,z2]) rfl ?_;exact qK r.out.1 (br:=w.heap.size) (Nat.le_refl _) (λk hk _=>by have hk:w3.heap.size<=k:=hk;exact⟨by omega,by omega⟩) r.out.2.1 O r.out.2.2.2.1 r.out.2.2.1 r.out.2.2.2.2
 have au:(x == 0)=false:=by simp[z]
 by_cases M:x=1\/x=2
 ·rcases M with rfl|rfl
  all_goals
   clear z;go_wp2_with fail
   refine Calls.mono (NY N w3 sb _ Q _ (by omega) l.out.2.1 ⟨_,_,_,rfl,l.out.1⟩ l.out.2.2) ?_;rintro e4 w4 ⟨v4,rfl,hg4,⟨uo,up,uc,R,rfl,A,B,C⟩,D⟩;obtain⟨y1,m1,k1,hy1⟩:∃a n c,uo=.slice a n c:=by obtain⟨a,c,e,_⟩:=B.o.shape;exact⟨_,_,_,e⟩
   obtain⟨y2,m2,k2,hy2⟩:∃a n c,up=.slice a n c:=by obtain⟨a,c,e,_⟩:=Sl.shape B.p;exact⟨_,_,_,e⟩
   obtain⟨y3,m3,k3,kX⟩:∃a n c,uc=.slice a n c:=by obtain⟨a,c,e,_⟩:=Sl.shape B.c;exact⟨_,_,_,e⟩
   subst hy1 hy2 kX;have m:=y.moved hg4 (by omega);have i:=dy b hg4;obtain⟨b0,b1,b2,b3,b4⟩:=id m;have L:=m.all (.slice y1 m1 k1) (.slice y2 m2 k2) (.slice y3 m3 k3);obtain⟨-,z0,z1,z2,-⟩:=id L;have r:=Lib.hid (And.intro i (And.intro D (And.intro B (And.intro A (T.out.le l.out.2.2 C)))));clear L i D B A m hg4 C;go_wp2_with fail
   refine bodyPost_ret (v := .agg #[.slice y1 m1 k1,.slice y2 m2 k2,.slice y3 m3 k3]) (by simp[results,Tryz.results85,go_sem,z0,z1,z2]) rfl ?_;exact qK r.out.1 (br:=w.heap.size) (Nat.le_refl _) (λk hk _=>by have hk:w3.heap.size<=k:=hk;exact⟨by omega,by omega⟩) r.out.2.1 O r.out.2.2.2.1 r.out.2.2.1 r.out.2.2.2.2
 ·have az:(x == 1)=false:=by simp;omega
  have aA:(x == 2)=false:=by simp;omega
  clear M z;obtain⟨b0,b1,b2,b3,b4⟩:=id y;have L:=y.all (.slice a1 F c1) (.slice a2 G c2) (.slice H I c3);obtain⟨-,z0,z1,z2,-⟩:=id L;have r:=Lib.hid b;clear L b y;go_wp2_with fail
  refine bodyPost_ret (v := .agg #[.slice a1 F c1,.slice a2 G c2,.slice H I c3]) (by simp[results,Tryz.results85,go_sem,z0,z1,z2]) rfl ?_;exact qK r.out (br:=w.heap.size) (Nat.le_refl _) (λk hk _=>⟨by omega,by omega⟩) l.out.2.1 O (by have:=l.out.2.2.n6;omega) l.out.1 T.out
theorem fA.Oa {B:Nat}{r:Option Nat}{w w':World}{vo vp vc:Value}{P:Pr}(h:fA (From B) w vo vp vc P) (a:w.grownBy w' r) (b:∀k,r=some k->k<B):fA (From B) w' vo vp vc P:=
 h.mono (iQ a (λk hk _=>⟨hk,λe=>by have:=b k e;have hk:B<=k:=hk;omega⟩))
theorem fA.low {B B':Nat}{w:World}{vo vp vc:Value}{P:Pr}(h:fA (From B) w vo vp vc P) (hB:B'<=B):fA (From B') w vo vp vc P:=
 h.mono (λ_ hk a=>⟨Nat.le_trans hB hk,a,rfl⟩)
theorem Ob (w:World) (cv:Value) (m:List Int) (S:Nat->Prop) (A:Bytes S w cv m) :
  Calls Tryz.prog 49 #[cv] w (fq w λw' v=>v=.pointer (some ⟨w.heap.size,0,none⟩)/\Src (w.heap.size+1) w' w.heap.size):=by
 obtain⟨a,cap,rfl,_,hlen⟩:=Sl.shape A;have B:=fG.made w 124 (.slice a m.length cap) (.int .i64 0) (.int .i64 76001);have C:Ext w (w.alloc (.cells #[.slice a m.length cap,.int .i64 0,.int .i64 76001] 124)):=World.grownBy_alloc _ _ _;go_enter Tryz.func49,Tryz.ntmps49;go_wp2_with fail
 generalize w.alloc (.cells #[.slice a m.length cap,.int .i64 0,.int .i64 76001] 124)=w0 at *;go_loopw [4] (λJ wr=>∃(i e:Nat),J=.int .i64 i/\i<=m.length/\e<2147483647/\Ext w wr/\fG wr w.heap.size (.slice a m.length cap) (.int .i64 0) (.int .i64 e)) (λJ _=>m.length-(intOf J).toNat)
 case atStart=>exact⟨0,76001,rfl,by omega,by omega,C,B⟩
 case round=>
  clear B C;obtain⟨i,e,rfl,hi,hs,r,hB⟩:=hrel;by_cases l:i<m.length
  ·by_cases Q:i<64
   ·obtain ⟨b,off,rfl,F4,hbl,u,K,L⟩:=Bytes.at A i l
    have y:=r.cell u (by simp);generalize gt m i=x at u y K L;have D:(i:Int)<(m.length:Nat):=by omega
    have M:(i:Int)<64:=by omega
    obtain⟨q,z⟩:∃q:Nat,((e:Int)*71+x)%2147483647=(q:Int)/\q<2147483647:=⟨(((e:Int)*71+x)%2147483647).toNat,by omega,by omega⟩;have E:=(hB.put (.int .i64 (q:Nat))).2.2;have F:=Go.Proofs.YtoakmefajbbggaaGreat.u6 wr w.heap.size 2 (.int .i64 (q:Nat));have G:Ext w (wr.setCell ⟨w.heap.size,2,none⟩ (.int .i64 (q:Nat))):=fu r F (λj R l=>by have:=Option.some.inj R;omega);have H:=E.ext (fk (wr.setCell ⟨w.heap.size,2,none⟩ (.int .i64 (q:Nat))) none);have I:=dy G (fk (wr.setCell ⟨w.heap.size,2,none⟩ (.int .i64 (q:Nat))) none);have T:IntKind.i64.wrap ((e:Int)*71)=(e:Int)*71:=IntWalk.i64_in _ (by omega);have U:IntKind.i64.wrap ((e:Int)*71+x)=(e:Int)*71+x:=IntWalk.i64_in _ (by omega);have V:IntKind.i64.wrap x=x:=IntWalk.i64_in _ (by omega);have N:((e:Int)*71+x).tmod 2147483647=(q:Int):=by rw[Int.tmod_eq_emod_of_nonneg (by omega)];exact z.1
    obtain⟨O,h1,h2,h3,h4⟩:=id hB;have c0:wr.drew.cell? ⟨w.heap.size,2,none⟩=some (.int .i64 e):=h3;have c1:wr.drew.cell? ⟨b,off+i,none⟩=some (.int .u8 x):=y;have c2:w.heap.size<wr.drew.heap.size:=O;have c3:=h4;have p:=Lib.hid (And.intro I (And.intro H (And.intro z.2 A)));clear I H z A G F E hB r O h1 h2 h3 u y;go_wp2;go_still_tail 15,(by kernel_rfl)
    change wpList _ _ _ _ _ wr.drew;go_wp2;go_roundw
    case rel=>exact⟨i+1,q,by go_num,by omega,p.out.2.2.1,p.out.1,p.out.2.1⟩
    case measure=>simp[intOf];omega
   ·have D:(i:Int)<(m.length:Nat):=by omega
    have M:¬(i:Int)<64:=by omega
    have p:=Lib.hid (And.intro r hB);clear r hB;go_wp2;go_ret;exact⟨_,rfl,p.out.1,rfl,_,0,e,m,p.out.2,Bytes.mono A (λk _ l=>⟨⟨by omega,by omega⟩,Nat.lt_of_lt_of_le l p.out.1.size,p.out.1.block k l (by simp)⟩),by omega,hs,by omega⟩
  ·have D:¬(i:Int)<(m.length:Nat):=by omega
   have p:=Lib.hid (And.intro r hB);clear r hB;go_wp2;go_ret;exact⟨_,rfl,p.out.1,rfl,_,0,e,m,p.out.2,Bytes.mono A (λk _ l=>⟨⟨by omega,by omega⟩,Nat.lt_of_lt_of_le l p.out.1.size,p.out.1.block k l (by simp)⟩),by omega,hs,by omega⟩
theorem Oc (J:Nat) (w:World) (sb:Nat) (K:J<=w.heap.size) (T:Src J w sb) :
  Calls Tryz.prog 70 #[.pointer (some ⟨sb,0,none⟩)] w (mA w (some sb) (qJ J sb (yG 7 (λ_=>True) w.heap.size))):=by
 have ad:=T.lt;have Q:=fG.made w 28 (.slice none 0 0) (.slice none 0 0) (.slice none 0 0);have L:Ext w (w.alloc (.cells #[.slice none 0 0,.slice none 0 0,.slice none 0 0] 28)):=World.grownBy_alloc _ _ _;have U:(w.alloc (.cells #[.slice none 0 0,.slice none 0 0,.slice none 0 0] 28)).heap.size=w.heap.size+1:=by simp
 have S:=Lib.hid (T.ext L);clear T;go_enter Tryz.func70,Tryz.ntmps70;go_wp2_with fail
 generalize w.alloc (.cells #[.slice none 0 0,.slice none 0 0,.slice none 0 0] 28)=w0 at *;have W:w.heap.size+1<=w0.heap.size:=by omega
 clear U;refine Calls.mono (kZ J w0 sb 16 S.out) ?_;rintro e3 O ⟨v3,rfl,y,x,rfl,_,r,hs3⟩;have M:=Q.moved y (by omega);have u:=dy (fH (some sb) L) y;have X:=y.size;have V:=Lib.hid hs3;clear hs3 y Q L S r;by_cases N:x=0
 ·subst N
  go_wp2_with fail
  refine Calls.mono (C4 J O sb 96 (by omega) V.out) ?_;rintro Y Z ⟨v4,rfl,hg4,⟨uo,up,uc,R,rfl,j,l,yK⟩,m⟩;obtain⟨z,A,B,hy1⟩:∃a n c,uo=.slice a n c:=by obtain⟨a,c,e,_⟩:=l.o.shape;exact⟨_,_,_,e⟩
  obtain⟨C,D,E,hy2⟩:∃a n c,up=.slice a n c:=by obtain⟨a,c,e,_⟩:=Sl.shape l.p;exact⟨_,_,_,e⟩
  obtain⟨F,G,H,kX⟩:∃a n c,uc=.slice a n c:=by obtain⟨a,c,e,_⟩:=Sl.shape l.c;exact⟨_,_,_,e⟩
  subst hy1 hy2 kX;have i:=M.moved hg4 (by omega);have b:=dy u hg4;obtain⟨b0,b1,b2,b3,b4⟩:=id i;have I:=i.all (.slice z A B) (.slice C D E) (.slice F G H);obtain⟨-,z0,z1,z2,-⟩:=id I;have q:=Lib.hid (And.intro b (And.intro m (And.intro l j)));clear I b m l j i hg4 yK;go_wp2_with fail
  refine bodyPost_ret (v := .agg #[.slice z A B,.slice C D E,.slice F G H]) (by simp[results,Tryz.results70,go_sem,z0,z1,z2]) rfl ?_;exact qK q.out.1 (br:=w.heap.size) (Nat.le_refl _) (λk hk _=>by have hk:O.heap.size<=k:=hk;exact⟨by omega,by omega⟩) q.out.2.1 K q.out.2.2.2 q.out.2.2.1 trivial
 have ab:(x == 0)=false:=by simp[N]
 by_cases r:x=1
 ·subst r
  go_wp2_with fail
  refine Calls.mono (C4 J O sb 32 (by omega) V.out) ?_;rintro Y Z ⟨v4,rfl,hg4,⟨uo,up,uc,R,rfl,j,l,yK⟩,m⟩;obtain⟨z,A,B,hy1⟩:∃a n c,uo=.slice a n c:=by obtain⟨a,c,e,_⟩:=l.o.shape;exact⟨_,_,_,e⟩
  obtain⟨C,D,E,hy2⟩:∃a n c,up=.slice a n c:=by obtain⟨a,c,e,_⟩:=Sl.shape l.p;exact⟨_,_,_,e⟩
  obtain⟨F,G,H,kX⟩:∃a n c,uc=.slice a n c:=by obtain⟨a,c,e,_⟩:=Sl.shape l.c;exact⟨_,_,_,e⟩
  subst hy1 hy2 kX;have i:=M.moved hg4 (by omega);have b:=dy u hg4;obtain⟨b0,b1,b2,b3,b4⟩:=id i;have I:=i.all (.slice z A B) (.slice C D E) (.slice F G H);obtain⟨-,z0,z1,z2,-⟩:=id I;have q:=Lib.hid (And.intro b (And.intro m (And.intro l j)));clear I b m l j i hg4 yK;go_wp2_with fail
  refine bodyPost_ret (v := .agg #[.slice z A B,.slice C D E,.slice F G H]) (by simp[results,Tryz.results70,go_sem,z0,z1,z2]) rfl ?_;exact qK q.out.1 (br:=w.heap.size) (Nat.le_refl _) (λk hk _=>by have hk:O.heap.size<=k:=hk;exact⟨by omega,by omega⟩) q.out.2.1 K q.out.2.2.2 q.out.2.2.1 trivial
 have ac:(x == 1)=false:=by simp[r]
 clear N r;go_wp2_with fail
 refine Calls.mono (C4 J O sb 24 (by omega) V.out) ?_;rintro Y Z ⟨v4,rfl,hg4,⟨uo,up,uc,R,rfl,j,l,yK⟩,m⟩;obtain⟨z,A,B,hy1⟩:∃a n c,uo=.slice a n c:=by obtain⟨a,c,e,_⟩:=l.o.shape;exact⟨_,_,_,e⟩
 obtain⟨C,D,E,hy2⟩:∃a n c,up=.slice a n c:=by obtain⟨a,c,e,_⟩:=Sl.shape l.p;exact⟨_,_,_,e⟩
 obtain⟨F,G,H,kX⟩:∃a n c,uc=.slice a n c:=by obtain⟨a,c,e,_⟩:=Sl.shape l.c;exact⟨_,_,_,e⟩
 subst hy1 hy2 kX;have i:=M.moved hg4 (by omega);have b:=dy u hg4;obtain⟨b0,b1,b2,b3,b4⟩:=id i;have I:=i.all (.slice z A B) (.slice C D E) (.slice F G H);obtain⟨-,z0,z1,z2,-⟩:=id I;have q:=Lib.hid (And.intro b (And.intro m (And.intro l j)));clear I b m l j i hg4 yK;go_wp2_with fail
 refine bodyPost_ret (v := .agg #[.slice z A B,.slice C D E,.slice F G H]) (by simp[results,Tryz.results70,go_sem,z0,z1,z2]) rfl ?_;exact qK q.out.1 (br:=w.heap.size) (Nat.le_refl _) (λk hk _=>by have hk:O.heap.size<=k:=hk;exact⟨by omega,by omega⟩) q.out.2.1 K q.out.2.2.2 q.out.2.2.1 trivial
theorem Od (w:World) (cv:Value) (O:List Int) (S:Nat->Prop) (R:Bytes S w cv O) :
  Calls Tryz.prog 21 #[cv] w (fq w (GY 7 w.heap.size)):=by
 obtain⟨a,cap,rfl,_,_⟩:=Sl.shape R;have z:=fG.made w 28 (.slice none 0 0) (.slice none 0 0) (.slice none 0 0);have q:Ext w (w.alloc (.cells #[.slice none 0 0,.slice none 0 0,.slice none 0 0] 28)):=World.grownBy_alloc _ _ _;have I:(w.alloc (.cells #[.slice none 0 0,.slice none 0 0,.slice none 0 0] 28)).heap.size=w.heap.size+1:=by simp
 have A:=Bytes.ext R q;go_enter Tryz.func21,Tryz.ntmps21;go_wp2_with fail
 generalize w.alloc (.cells #[.slice none 0 0,.slice none 0 0,.slice none 0 0] 28)=w0 at *;have B:w.heap.size+1<=w0.heap.size:=by omega
 clear I;refine Calls.mono (Ob w0 _ O S A) ?_;rintro Y wS ⟨v0,rfl,lI,rfl,b⟩;have J:w0.heap.size+1<=wS.heap.size:=by have:=b.lt;omega
 have C:=z.ext lI;obtain⟨sb,r⟩:∃sb,sb=w0.heap.size:=⟨_,rfl⟩;rw[<-r] at b;have T:w.heap.size+1<=sb/\sb+1<=wS.heap.size:=by omega
 have l:=dy q lI;have u:=Lib.hid r;clear z A q lI J B;go_wp2_with fail
 rw[<-u.out];refine Calls.mono (Oc (sb+1) wS sb (by omega) (by rw[u.out];rw[u.out] at b;exact b)) ?_;rintro Z U ⟨v1,rfl,i,⟨vo,vp,vc,Q,rfl,Oe,D,-⟩,hs1⟩;clear r;obtain⟨a1,E,c1,hy1⟩:∃a n c,vo=.slice a n c:=by obtain⟨a,c,e,_⟩:=D.o.shape;exact⟨_,_,_,e⟩
 obtain⟨a2,F,c2,hy2⟩:∃a n c,vp=.slice a n c:=by obtain⟨a,c,e,_⟩:=Sl.shape D.p;exact⟨_,_,_,e⟩
 obtain⟨G,H,c3,kX⟩:∃a n c,vc=.slice a n c:=by obtain⟨a,c,e,_⟩:=Sl.shape D.c;exact⟨_,_,_,e⟩
 subst hy1 hy2 kX;have V:=i.size;have y:=C.moved i (by omega);obtain⟨b0,b1,b2,b3,b4⟩:=id y;have W:=y.all (.slice a1 E c1) (.slice a2 F c2) (.slice G H c3);obtain⟨-,z0,z1,z2,-⟩:=id W;have K:=jh U w.heap.size (.slice a1 E c1) (.slice a2 F c2) (.slice G H c3);have L:∀k,some w.heap.size=some k->k<wS.heap.size:=λk hk=>by have:=Option.some.inj hk;omega
 have m:fq w (GY 7 w.heap.size) (.returned (.agg #[.slice a1 E c1,.slice a2 F c2,.slice G H c3])) (((U.setCell ⟨w.heap.size,0,none⟩ (.slice a1 E c1)).setCell ⟨w.heap.size,1,none⟩ (.slice a2 F c2)).setCell ⟨w.heap.size,2,none⟩ (.slice G H c3)):=
  ⟨_,rfl,fu (fu l i (λj M N=>by have:=Option.some.inj M;omega)) K (λj M N=>by have:=Option.some.inj M;omega),_,_,_,Q,rfl,Oe,(D.Oa K L).low (by omega)⟩
 have X:=Lib.hid m;clear m K W D i hs1 y C l b;go_wp2_with fail
 refine bodyPost_ret (v := .agg #[.slice a1 E c1,.slice a2 F c2,.slice G H c3]) (by simp[results,Tryz.results21,go_sem,z0,z1,z2]) rfl ?_;exact X.out
end Go.Proofs.YtoakmefajbbggaaGreat
namespace Go.Proofs.YtoakmefajbbggaaGreat
open Go.RowKit
theorem Og (P:Pr) (r:jH P=true) (w:World) (pv F:Value) (U:List (List Int)) (K H:Nat->Prop) (y:gy K w pv P) (k:dK H w F U) (z:fO P U) :
  Calls Tryz.prog 28 #[pv,F] w (fq w λ_ v=>v=.tuple #[.int .i64 (fJ P U U.length),.int .i64 0]):=by
 have G:=lZ r;have L:=G.v.n6;obtain⟨vo,vp,vc,rfl,h3⟩:=y;have l:=fB.box h3 28;have m:Ext w (w.alloc (.cells #[vo,vp,vc] 28)):=World.grownBy_alloc _ _ _;have i:(w.alloc (.cells #[vo,vp,vc] 28)).heap.size=w.heap.size+1:=by simp
 have p:=dK.ext k m;obtain⟨M,q,rfl,_,_⟩:=Sl.shape k;have j:Ext (w.alloc (.cells #[vo,vp,vc] 28)) ((w.alloc (.cells #[vo,vp,vc] 28)).alloc (.cells #[.slice M U.length q] 25)):=World.grownBy_alloc _ _ _;have I:=Ct p;have a:=x4 P _ _ _ [U] Any Any (l.ext j) I;rw[i] at a;clear I k;have J:U.length<=P.orders.length:=G.lz z;have A:=Lib.hid (And.intro r (And.intro z ((trivial:True))));clear r z;go_enter Tryz.func28,Tryz.ntmps28;go_wp2_with fail
 refine Calls.mono a ?_;rintro Q N ⟨v1,rfl,gK,r1,rfl,hr1⟩;clear a;obtain rfl:r1=true:=hr1.2 (by have:=A.out;simp only[List.mem_cons,List.mem_nil_iff,or_false];exact⟨this.1,λu k=>by subst k;exact this.2.1⟩);clear hr1;have b:=dy j gK;have R:=Lib.hid i;clear i;generalize B:(w.alloc (.cells #[vo,vp,vc] 28))=w0 at *;clear B j gK;have C:=l.ext b;have D:=dK.ext p b;have e:=G.iV (G.gG A.out.2.1);rw[<-A.out.2.1.2] at e;have O:=Lib.hid e;clear e;go_wp2_with fail
 refine Calls.mono (AU P G.v N _ _ U Any H C D O.out.1 (by omega)) ?_;rintro S T ⟨V,rfl,E,rfl⟩;go_wp2;go_ret2
 exact⟨_,rfl,dy m (dy b E),rfl⟩
theorem Oh (P:Pr) (z:jH P=true) (w:World) (p H:Value) (U:List (List Int)) (r I:Nat->Prop) (A:fB r w p P) (j:dK I w H U) (B:fO P U) (k:eW P<=128) :
  Calls Tryz.prog 143 #[p,H] w (fq w λ_ v=>v=.int .i64 0):=by
 have G:=lZ z;have M:=G.v.n6;have C:=G.v.kT;obtain⟨pb,po,rfl⟩:=A.shape;obtain⟨N,l,rfl,_,_⟩:=Sl.shape j;have i:Ext w (w.alloc (.cells #[.slice N U.length l] 25)):=World.grownBy_alloc _ _ _;have D:=Ct j;have e:=x4 P _ _ _ [U] r Any (A.ext i) D;have J:U.length<=P.orders.length:=G.lz B;have E:=Lib.hid (And.intro z (And.intro B D));clear z B D;go_enter Tryz.func143,Tryz.ntmps143;go_wp2_with fail
 refine Calls.mono e ?_;rintro W K ⟨v1,rfl,gK,r1,rfl,hr1⟩;clear e;obtain rfl:r1=true:=hr1.2 (by have:=E.out;simp only[List.mem_cons,List.mem_nil_iff,or_false];exact⟨this.1,λu j=>by subst j;exact this.2.1⟩);clear hr1;have a:=dy i gK;clear i gK;have m:=A.ext a;have F:=dK.ext j a;have b:=G.iV (G.gG E.out.2.1);rw[<-E.out.2.1.2] at b;have L:=Lib.hid b;clear b;go_wp2_with fail
 refine Calls.mono (BL K _ P r G.v m) ?_;rintro _ _ ⟨rfl,rfl⟩;go_wp2_with fail
 refine Calls.mono (AU P G.v K _ _ U r I m F L.out.1 (by omega)) ?_;rintro X Y ⟨Z,rfl,hg2,rfl⟩;have q:=ry G.v L.out.1 U.length (Nat.le_refl _);obtain⟨y,hy⟩:∃y,y=fJ P U U.length:=⟨_,rfl⟩;obtain⟨x,hx⟩:∃x,x=eW P:=⟨_,rfl⟩;rw[<-hy] at q ⊢;rw[<-hx] at k C ⊢;have O:y≠0:=by omega
 have Q:x.tdiv y=x/y:=Int.tdiv_eq_ediv_of_nonneg (by omega);have R:0<=x/y:=Int.ediv_nonneg (by omega) (by omega);have S:x/y<=128:=Int.le_trans (Int.ediv_le_self _ (by omega)) (by omega);have T:IntKind.i64.wrap (x/y)=x/y:=IntWalk.i64_in _ (by omega);have V:¬ 128<x/y:=by omega
 clear hx hy;go_wp2;go_ret;exact⟨_,rfl,dy a hg2,rfl⟩
theorem Oi (l:List Int) (x:Int) (w:World) (v:Value) (S:Nat->Prop) (z:Ints S w v l) :
  Calls Tryz.prog 284 #[v,.int .i64 x] w (fq w λ_ r=>∃k:Int,r=.int .i64 k/\(0<=k↔x∈l)):=by
 obtain⟨a,c,rfl,_,_⟩:=z.shape;have I:=Lib.hid z;clear z;go_enter Tryz.func284,Tryz.ntmps284;go_wp2;go_loopw [8] (λA wr=>∃i:Nat,A=.int .i64 i/\i<=l.length/\Ext w wr/\Hid (∀j,j<i->gt l j≠x)) (λA _=>l.length-(intOf A).toNat)
 case atStart=>exact⟨0,by go_num,by omega,Ext.refl _,Lib.hid (λj B=>by omega)⟩
 case round=>
  obtain⟨i,rfl,hi,hg,hN⟩:=hrel;by_cases p:i<l.length
  ·have H:(i:Int)<l.length:=by omega
   obtain⟨b,o,hab,_,_,hc⟩:=Ints.at I.out i p;subst hab;have C:=hg.cell hc (by simp);by_cases m:gt l i=x
   ·have q:x∈l:=by rw[<-m];exact iW p
    rw[m] at C;have D:=Lib.hid q;clear q m hc;go_wp2;go_ret;exact⟨_,rfl,hg,(i:Int),rfl,⟨λ_=>D.out,λ_=>by omega⟩⟩
   ·have E:(x == gt l i)=false:=by
     have:¬x=gt l i:=λe=>m e.symm;simpa using this
    have u:∀j,j<i+1->gt l j≠x:=λj B=>by
     rcases Nat.lt_succ_iff_lt_or_eq.1 B with h|h
     ·exact hN.out j h
     ·rw[h];exact m
    have F:=Lib.hid u;clear u m hc hN;generalize gt l i=y at *;go_wp2;clear E;go_roundw
    case rel=>exact⟨i+1,by go_num,by omega,hg,F⟩
    case measure=>simp[intOf];omega
  ·have G:i=l.length:=by omega
   have q:¬x∈l:=λh=>by
    obtain⟨j,B,e⟩:=oW h;exact hN.out j (by omega) e
   have J:¬(i:Int)<l.length:=by omega
   have D:=Lib.hid q;clear q G hN;go_wp2;go_ret;exact⟨_,rfl,hg,-1,rfl,⟨λh=>by omega,λh=>absurd h D.out⟩⟩
theorem G4 (l:List Int) (x:Int) (w:World) (v:Value) (S:Nat->Prop) (b:Ints S w v l) :
  Calls Tryz.prog 250 #[v,.int .i64 x] w (fq w λ_ r=>r=.bool (decide (x∈l))):=by
 have e:=Oi l x w v S b;obtain⟨a,c,rfl,_,_⟩:=b.shape;go_enter Tryz.func250,Tryz.ntmps250;go_wp2_with fail
 refine Calls.mono e ?_;rintro j m ⟨v1,rfl,hg1,k,rfl,hk⟩;have i:=Lib.hid hk;clear hk e;go_wp2;go_ret;refine⟨_,rfl,hg1,?_⟩;show Value.bool (decide (0<=k))=_
 rw[decide_eq_decide.2 i.out]
def mY (l:List Nat):List Value:=l.map (λi:Nat=>Value.int .i64 (i:Int))
def jW (U:List (List Int)) (k:Nat):List Nat:=(List.range k).filter (λi => !(U.map dep).contains i)
theorem G5 {U:List (List Int)}{k:Nat}(h:¬k∈U.map dep):jW U (k+1)=jW U k++[k]:=by
 unfold jW;rw[List.range_succ,List.filter_append,List.filter_cons_of_pos (by simpa using h),List.filter_nil]
theorem G6 {U:List (List Int)}{k:Nat}(h:k∈U.map dep):jW U (k+1)=jW U k:=by
 unfold jW;rw[List.range_succ,List.filter_append,List.filter_cons_of_neg (by simpa using h),List.filter_nil,List.append_nil]
theorem yL (U:List (List Int)) (k:Nat):(jW U k).length<=k:=by
 unfold jW;exact Nat.le_trans (List.length_filter_le _ _) (by rw[List.length_range];exact Nat.le_refl _)
theorem Oj (U:List (List Int)):ij U=(U.map (λz=>(dep z:Int))).map (Value.int .i64):=by unfold ij;rw[List.map_map];rfl
theorem G7 {U:List (List Int)}{k:Nat} : ((k:Nat):Int)∈U.map (λz=>(dep z:Int))↔k∈U.map dep:=by
 rw[List.mem_map,List.mem_map];constructor
 ·rintro⟨z,hz,e⟩;exact⟨z,hz,by omega⟩
 ·rintro⟨z,hz,e⟩;exact⟨z,hz,by rw[e]⟩
theorem Ol (P:Pr) (G:P.orders.length<=6) (w:World) (p uv:Value) (U:List (List Int)) (Sp Su:Nat->Prop) (H:fB Sp w p P) (hu:dK Su w uv U) (hU:∀z∈U,dep z<z.length) (I:U.length<=6) :
  Calls Tryz.prog 204 #[p,uv] w (fq w λw' r=>fK w.heap.size 3 w' r (mY (fV P U))):=by
 obtain⟨pb,po,rfl⟩:=H.shape;have al:=H;obtain⟨ao,co,gJ,hoi⟩:=H.iO;obtain⟨au,jA,rfl,_,_⟩:=Sl.shape hu;go_enter Tryz.func204,Tryz.ntmps204;go_wp2_with fail
 refine Calls.mono (C5 _ U w Su hu hU (by omega)) ?_;rintro e1 w1 ⟨v1,rfl,hg1,hO⟩;have q:(ij U).length<=6:=by unfold ij;rw[List.length_map];exact I
 rw[Oj] at hO q;have E:=C6 (S:=Any) hO (by rw[List.length_map];rw[List.length_map] at q;omega) (λ_ _=>trivial);obtain⟨l,u⟩:∃l,l=U.map (λz=>(dep z:Int)):=⟨_,rfl⟩;rw[<-u] at E;obtain⟨da,dc,rfl,_,_⟩:=E.shape;have B:∀w',Ext w1 w'->Ints Any w' (.slice da l.length dc) l:=λw' h=>Ints.ext E h;have F:=Lib.hid (And.intro u B);clear u B E hO q;have J:=hg1.cell gJ (by simp);obtain⟨N,K⟩:∃N,N=P.orders.length:=⟨_,rfl⟩;rw[<-K] at G J;have HN:=Lib.hid K;clear K;obtain⟨y,rfl⟩:∃y:World,y=w1:=⟨_,rfl⟩;go_wp2;go_loopw [6,15] (λov L wr=>∃(k:Nat) (v4:Value),v4=ov/\L=.int .i64 k/\k<=N/\Ext y wr/\fK y.heap.size 3 wr v4 (mY (jW U k))) (λ_ L _=>N-(intOf L).toNat)
 case atStart=>exact⟨0,_,rfl,rfl,by omega,Ext.refl _,World.ownsRow_nil _ _ _ _⟩
 case round=>
  obtain⟨k,v4,rfl,rfl,hk,C,hO⟩:=hrel;by_cases M:k<N
  ·have ag:(k:Int)<N:=by omega
   have O:=yL U k;have Q:(mY (jW U k)).length<=1000000:=by unfold mY;rw[List.length_map];omega
   by_cases A:k∈U.map dep
   ·have a:=G6 A
    have D:decide (((k:Nat):Int)∈l)=true:=by rw[F.out.1];exact decide_eq_true (G7.2 A)
    have R:=Lib.hid a;clear a A;go_wp2_with fail
    refine Calls.mono (G4 l (k:Int) wr _ Any (F.out.2 wr C)) ?_;rintro e2 w2 ⟨v2,rfl,hg2,rfl⟩;rw[D];clear D;have e:=World.ownsRow.kept hO hg2 (by cases hv:v4.ownBlock<;>simp);have i:=dy C hg2;go_wp2;go_roundw
    case rel=>exact⟨k+1,v4,rfl,by go_num,by omega,i,by rw[R.out];exact e⟩
    case measure=>simp[intOf];omega
   ·have a:mY (jW U (k+1))=mY (jW U k)++[.int .i64 (k:Int)]:=by rw[G5 A];unfold mY;rw[List.map_append];rfl
    have D:decide (((k:Nat):Int)∈l)=false:=by rw[F.out.1];exact decide_eq_false (λh=>A (G7.1 h))
    have R:=Lib.hid a;clear a A;go_wp2_with fail
    refine Calls.mono (G4 l (k:Int) wr _ Any (F.out.2 wr C)) ?_;rintro e2 w2 ⟨v2,rfl,hg2,rfl⟩;rw[D];clear D;have e:=World.ownsRow.kept hO hg2 (by cases hv:v4.ownBlock<;>simp);have i:=dy C hg2;go_wp2_with (first|(at_builtin;refine yM 171 3 (.int .i64 0) 8 C7 Tryz.C8 rfl (by decide) rfl _ _ rfl y.heap.size v4 _ (mY (jW U k)) rfl w2 e rfl rfl rfl Q i.size ?_;intro v5 w5 T V)|fail)
    have W:Ext y w5:=fu i V (λj hj M=>by have:=(e.lt j hj).1;omega);go_roundw
    case rel=>exact⟨k+1,v5,rfl,by go_num,by omega,W,by rw[R.out];exact T⟩
    case measure=>simp[intOf];omega
  ·have X:k=N:=by omega
   subst X;have he:jW U k=fV P U:=by unfold jW fV;rw[HN.out]
   have O:=yL U k
   have Y:∃Z b,v4=.slice Z (jW U k).length b:=by
    rcases hO.form with⟨h1,h2⟩|⟨g,cp,h1,_⟩
    ·have h3:(jW U k).length=0:=by unfold mY at h2;rw[List.map_eq_nil_iff] at h2;rw[h2];rfl
     exact⟨none,0,by rw[h1,h3]⟩
    ·exact⟨_,_,by rw[h1];unfold mY;rw[List.length_map]⟩
   obtain⟨Z,b,rfl⟩:=Y;have ab:=dy hg1 C;have m:fK w.heap.size 3 wr (.slice Z (jW U k).length b) (mY (fV P U)):=by rw[<-he];exact hO.weak hg1.size
   have HF:=Lib.hid m;clear m he hO;go_wp2;go_ret;exact⟨_,rfl,ab,HF.out⟩
theorem C9 (P:Pr) (l:List Nat) (i:Nat):iM P (l++[i])=tI P (iM P l) i:=by unfold iM;rw[List.foldl_append];rfl
theorem Om (P:Pr) (out:List (List Int)) (i:Nat):(tI P out i).length=out.length*iF P i:=by
 unfold tI;exact xU _ _ _ (λx _=>by rw[List.length_map,List.length_range])
theorem G8 (P:Pr) (a:∀i,i<P.orders.length->iF P i<=7):∀l:List Nat,(∀i∈l,i<P.orders.length)->(iM P l.reverse).length<=7 ^ l.length
 | [],_=>by simp[iM]
 | i :: l,h=>by
  rw[List.reverse_cons,C9,Om,List.length_cons,Nat.pow_succ];exact Nat.mul_le_mul (G8 P a l (λj b=>h j (List.mem_cons_of_mem _ b))) (a i (h i (List.mem_cons_self ..)))
theorem G9 (P:Pr):∀l:List Nat,∀x∈iM P l.reverse,x.length=P.orders.length
 | [],x,hx=>by
  have:x=zeros P.orders.length:=by simpa [iM] using hx
  rw[this];simp[zeros]
 | i :: l,x,hx=>by
  rw[List.reverse_cons,C9] at hx;unfold tI at hx;obtain⟨y,hy,hx⟩:=List.mem_flatMap.1 hx;obtain⟨e,_,rfl⟩:=List.mem_map.1 hx;rw[List.length_set];exact G9 P l y hy
theorem He (P:Pr) (b:∀i,i<P.orders.length->iF P i<=7) (l:List Nat) (e:l.length<=6) (h:∀i∈l,i<P.orders.length):(iM P l).length<=117649/\∀x∈iM P l,x.length=P.orders.length:=by
 have h1:=G8 P b l.reverse (λi j=>h i (List.mem_reverse.1 j));have a:=G9 P l.reverse;rw[List.reverse_reverse] at h1 a;rw[List.length_reverse] at h1;exact⟨Nat.le_trans h1 (Nat.pow_le_pow_right (by decide) e),a⟩
theorem Oo (P:Pr) (G:ez P) (w:World) (p uv:Value) (U:List (List Int)) (Sp Su:Nat->Prop) (hp:fB Sp w p P) (hu:dK Su w uv U) (hU:fO P U) :
  Calls Tryz.prog 144 #[p,uv] w (fq w λw' v=>iL w.heap.size w' v (iM P (fV P U))):=by
 have hP:=G.v;have aT:=hP.n6;obtain⟨pb,po,rfl⟩:=hp.shape;obtain⟨ao,iA,oH,aU⟩:=hp.iO;obtain⟨au,jA,rfl,_,_⟩:=Sl.shape hu;have aV:U.length<=6:=by have:=G.lz hU;omega
 have am:∀z∈U,dep z<z.length:=λz hz=>by
  have h1:=(G.iV (G.gG hU)).1;rw[<-hU.2] at h1;have:=h1.1 z hz;rw[this.1.1];exact this.2.1
 have A:∀i,i<P.orders.length->gt P.orders i=((iF P i:Nat):Int)/\iF P i<=7:=λi u=>by
  have:=hP.gh i u;unfold iF;omega
 have W:∀i∈fV P U,i<P.orders.length:=λi u=>(xX.1 u).1
 have aW:(fV P U).length<=6:=by
  have:=yL U P.orders.length;have e:jW U P.orders.length=fV P U:=rfl;rw[e] at this;omega
 have an:∀k,(iM P ((fV P U).take k)).length<=117649/\∀x∈iM P ((fV P U).take k),x.length=P.orders.length:=λk=>
  He P (λi u=>(A i u).2) _ (by rw[List.length_take];omega) (λi u=>W i (List.mem_of_mem_take u))
 obtain⟨m,hm⟩:∃m,m=(fV P U).length:=⟨_,rfl⟩;rw[<-hm] at aW;have I:=Lib.hid (And.intro an (And.intro A (And.intro W hm)));clear an A W hm hU;go_enter Tryz.func144,Tryz.ntmps144;go_wp2_with (first|(at_make;refine lU rfl _ _ rfl w.heap.size P.orders.length w.heap.size rfl _ rfl rfl rfl (by omega) (Nat.le_refl _) ?_;intro w1 r Y ap)|fail)
 have aq:gf (From w.heap.size) w1 (.slice (some ⟨w.heap.size,0,none⟩) P.orders.length P.orders.length) (zeros P.orders.length):=gf.of r (by simp[zeros];omega) (λj h1 _=>h1);have av:=Oq aq Y.size;have aw:Ext w1 (w1.alloc (.cells #[.slice (some ⟨w.heap.size,0,none⟩) P.orders.length P.orders.length] 24)):=World.grownBy_alloc _ _ _;have J:=dy Y aw;clear r aq aw Y ap;generalize aY:w1.alloc (.cells #[.slice (some ⟨w.heap.size,0,none⟩) P.orders.length P.orders.length] 24)=w2 at *;clear aY;refine Calls.mono (Ol P aT w2 _ _ U Sp Su (hp.ext J) (dK.ext hu J) am aV) ?_;rintro e3 w3 ⟨iv,rfl,hg3,K⟩;have S:=dy J hg3;have N:=gN.ext gX av hg3;clear av J hg3 am
 have ay:∃az aA,iv=.slice az m aA:=by
  rcases K.form with⟨h1,h2⟩|⟨g,cp,h1,_⟩
  ·have h3:m=0:=by unfold mY at h2;rw[List.map_eq_nil_iff] at h2;rw[I.out.2.2.2,h2];rfl
   exact⟨none,0,by rw[h1,h3]⟩
  ·exact⟨_,_,by rw[h1];unfold mY;rw[List.length_map,<-I.out.2.2.2]⟩
 obtain⟨ai,aB,rfl⟩:=ay
 have aC:Ints Any w3 (.slice ai m aB) ((fV P U).map (λi:Nat=>(i:Int))):=by
  have e:mY (fV P U)=((fV P U).map (λi:Nat=>(i:Int))).map (Value.int .i64):=by unfold mY;rw[List.map_map];rfl
  rw[e] at K;exact C6 K (by rw[List.length_map,<-I.out.2.2.2];omega) (λ_ _=>trivial)
 have HI:=Lib.hid aC;clear aC K;have N:iL w.heap.size w3 _ (iM P ((fV P U).take 0)):=N;go_wp2;go_loopw [5,24] (λov Z wr=>∃(k:Nat) (v5:Value),v5=ov/\Z=.int .i64 k/\k<=m/\Ext w3 wr/\iL w.heap.size wr v5 (iM P ((fV P U).take k))) (λ_ Z _=>m-(intOf Z).toNat)
 case atStart=>exact⟨0,_,rfl,rfl,by omega,Ext.refl _,N⟩
 case round=>
  clear N;obtain⟨k,v5,rfl,rfl,hk,hg,hO⟩:=hrel;by_cases aa:k<m
  ·have bf:(k:Int)<m:=by omega
   have B:k<(fV P U).length:=by rw[<-I.out.2.2.2];exact aa
   obtain⟨bi,oi,hai,_,_,ab⟩:=Ints.at (Ints.ext HI.out hg) k (by rw[List.length_map];exact B);subst hai;rw[jM _ _ _ B] at ab;obtain⟨i,u⟩:∃i,i=gt (fV P U) k:=⟨_,rfl⟩;have aD:i<P.orders.length:=by rw[u];exact I.out.2.2.1 _ (fT B)
   obtain⟨r,aE⟩:=I.out.2.1 i aD;obtain⟨o,ho⟩:∃o,o=iF P i:=⟨_,rfl⟩;obtain⟨X,hX⟩:∃X,X=iM P ((fV P U).take k):=⟨_,rfl⟩;have ac:=I.out.1 k
   have ad:iM P ((fV P U).take (k+1))=X.flatMap (λx=>(List.range o).map (λe:Nat=>x.set i (e:Int))):=by
    rw[je _ k B,C9,<-hX,<-u,ho];rfl
   have C:=I.out.1 (k+1);rw[ad] at C;rw[<-u] at ab;rw[<-ho] at r aE;rw[<-hX] at hO ac;have ae:=gY.rows (gN.iB hO (by omega));obtain⟨ax,aF,Ot,_⟩:=Sl.shape ae;subst Ot;obtain⟨D,rfl⟩:∃D:World,D=wr:=⟨_,rfl⟩;have E:=dy S hg;have T:dK Any D (.slice ax X.length aF) X:=dK.sub ae (λ_ _ _=>trivial);obtain⟨bo,oo,hao,_,_,b⟩:=Ints.at (aU.ext E) i aD;subst hao;rw[r] at b;have O:=E.cell oH (by simp);have bg:(i:Int)<P.orders.length:=by omega
   have HX:=Lib.hid (And.intro ad (And.intro ac (And.intro C (And.intro T (And.intro O b)))));clear ad ac C T ae O b hX u ho r hO B;have bA:X.length<=117649:=HX.out.2.1.1;go_wp2;clear ab;go_loopw [8,30] (λnv Z wr=>∃(j:Nat) (v8:Value),v8=nv/\Z=.int .i64 j/\j<=X.length/\Ext D wr/\iL D.heap.size wr v8 ((X.take j).flatMap (λx=>(List.range o).map (λe:Nat=>x.set i (e:Int))))) (λ_ Z _=>X.length-(intOf Z).toNat)
   case atStart=>exact⟨0,_,rfl,rfl,by omega,Ext.refl _,gN.nil _ _ _ _⟩
   case round=>
    obtain⟨j,v8,rfl,rfl,hj,sO,y⟩:=hrel;by_cases ag:j<X.length
    ·have bh:(j:Int)<X.length:=by omega
     obtain⟨bx,ox,ar,cr,Ou,_,_,Q,ah⟩:=dK.at HX.out.2.2.2.1 j ag;subst Ou;have Q:=sO.cell Q (by simp);have F:=HX.out.2.1.2 _ (fT ag);have O:=sO.cell HX.out.2.2.2.2.1 (by simp);have b:=sO.cell HX.out.2.2.2.2.2 (by simp)
     have l:(X.take (j+1)).flatMap (λx=>(List.range o).map (λe:Nat=>x.set i (e:Int)))=(X.take j).flatMap (λx=>(List.range o).map (λe:Nat=>x.set i (e:Int)))++(List.range o).map (λe:Nat=>(gt X j).set i (e:Int)):=by
      rw[je X j ag,List.flatMap_append,List.flatMap_singleton]
     have a4:((X.take j).flatMap (λx=>(List.range o).map (λe:Nat=>x.set i (e:Int)))).length<=117649*7:=by
      rw[xU _ _ o (λx _=>by rw[List.length_map,List.length_range]),List.length_take];exact Nat.mul_le_mul (by omega) aE
     obtain⟨x,hx⟩:∃x,x=gt X j:=⟨_,rfl⟩;obtain⟨L,hL⟩:∃L,L=(X.take j).flatMap (λx=>(List.range o).map (λe:Nat=>x.set i (e:Int))):=⟨_,rfl⟩;rw[<-hx] at Q ah F l;rw[<-hL] at l a4 y;have V:∀w',Ext D w'->Ints Any w' (.slice ar x.length cr) x:=λw' h=>Ints.sub (Ints.ext ah h) (λ_ _ _=>trivial);obtain⟨wj,rfl⟩:∃wj:World,wj=wr:=⟨_,rfl⟩;have HJ:=Lib.hid (And.intro l (And.intro hL (And.intro hx (And.intro V F))));clear l hL hx V ah F;go_wp2;clear O b Q;go_loopw [8,41] (λnv tv wr=>∃(e:Nat) (v9:Value),v9=nv/\tv=.int .i64 e/\e<=o/\Ext D wr/\iL D.heap.size wr v9 (L++(List.range e).map (λe:Nat=>x.set i (e:Int)))) (λ_ tv _=>o-(intOf tv).toNat)
     case atStart=>exact⟨0,_,rfl,rfl,by omega,sO,by rw[List.range_zero,List.map_nil,List.append_nil];exact y⟩
     case round=>
      clear y;obtain⟨e,v9,rfl,rfl,he,R,y⟩:=hrel;by_cases bD:e<o
      ·have bk:(e:Int)<o:=by omega
       have l:L++(List.range (e+1)).map (λe:Nat=>x.set i (e:Int))=(L++(List.range e).map (λe:Nat=>x.set i (e:Int)))++[x.set i (e:Int)]:=by
        rw[List.range_succ,List.map_append,List.append_assoc];rfl
       have aG:(L++(List.range e).map (λe:Nat=>x.set i (e:Int))).length<=1000000:=by
        rw[List.length_append,List.length_map,List.length_range];omega
       obtain⟨M,hM⟩:∃M,M=L++(List.range e).map (λe:Nat=>x.set i (e:Int)):=⟨_,rfl⟩;rw[<-hM] at l aG y;have HE:=Lib.hid l;clear l hM;obtain⟨q,rfl⟩:∃q:World,q=wr:=⟨_,rfl⟩;go_wp2_with fail
       refine Calls.mono (xz q _ x Any (HJ.out.2.2.2.1 q R) (by have:=HJ.out.2.2.2.2;omega)) ?_;rintro e6 w6 ⟨v6,rfl,qL,rU⟩;have F:=HJ.out.2.2.2.2;obtain⟨g6,c6,rfl,Ev,Vj⟩:=rU.form (by omega);have bF:=rU.cell i (by omega);have bG:=rU.frozen i;have aj:=rU.store i (e:Int);have bm:(i:Int)<x.length:=by omega
       have aJ:gf (From q.heap.size) (w6.setCell ⟨g6,i,none⟩ (.int .i64 e)) (.slice (some ⟨g6,0,none⟩) x.length c6) (x.set i (e:Int)):=gf.of aj.1 (by rw[List.length_set];omega) (λj h1 _=>h1);have a6:Ext q (w6.setCell ⟨g6,i,none⟩ (.int .i64 e)):=fu qL aj.2 (λj hj aa=>by have:=Option.some.inj hj;omega);have aK:(w6.setCell ⟨g6,i,none⟩ (.int .i64 e)).heap.size=w6.heap.size:=by simp[World.setCell]
       have HY:=Lib.hid (And.intro aJ aK);clear aJ aj F aK;go_wp2_with (first|(at_builtin;refine rA rfl _ _ rfl D.heap.size q (w6.setCell ⟨g6,i,none⟩ (.int .i64 e)) v9 _ M (x.set i (e:Int)) rfl y a6 HY.out.1 rfl (by rw[HY.out.2];rfl) aG R.size ?_;intro v8 w8 a7 a8 _)|fail)
       have H:Ext D w8:=fu R a8 (λj hj aa=>by have:=(y.lt j hj).1;omega);go_roundw
       case rel=>exact⟨e+1,v8,rfl,by go_num,by omega,H,by rw[HE.out];exact a7⟩
       case measure=>simp[intOf];omega
      ·have a9:e=o:=by omega
       subst a9;have a:iL D.heap.size wr v9 ((X.take (j+1)).flatMap (λx=>(List.range e).map (λe:Nat=>x.set i (e:Int)))):=by rw[HJ.out.1];exact y
       have HF:=Lib.hid a;clear a y;have H:=R;go_wp2;go_roundw
       case rel=>exact⟨j+1,v9,rfl,by go_num,by omega,H,HF.out⟩
       case measure=>simp[intOf];omega
    ·have a':j=X.length:=by omega
     subst a';rw[List.take_length] at y;have a:iL w.heap.size wr v8 (iM P ((fV P U).take (k+1))):=by rw[HX.out.1];exact y.weak E.size
     have HF:=Lib.hid a;clear a y;have H:=dy hg sO;go_wp2;go_roundw
     case rel=>exact⟨k+1,v8,rfl,by go_num,by omega,H,HF.out⟩
     case measure=>simp[intOf];omega
  ·have ba:k=m:=by omega
   subst ba
   have a:iL w.heap.size wr v5 (iM P (fV P U)):=by
    have e:(fV P U).take k=fV P U:=by rw[I.out.2.2.2];exact List.take_length
    rw[e] at hO;exact hO
   have HF:=Lib.hid a;clear a hO;have E:=dy S hg;go_wp2;go_ret;exact⟨_,rfl,E,HF.out⟩
end Go.Proofs.YtoakmefajbbggaaGreat
namespace Go.Proofs.YtoakmefajbbggaaGreat
open Go.RowKit
open Classical
theorem Ov (P:Pr) (G:ez P) (w:World) (T p:Value) (y x:List Int) (U:List (List Int)) (H I:Nat) (J K:Option Addr) (a b:Nat) (L V W X:Nat->Prop) (F:fO P U) (M:fB L w p P)
  (z:w.cell? ⟨H,0,none⟩=some (.slice J U.length a)) (hu:dK V w (.slice J U.length a) U) (A:w.cell? ⟨I,0,none⟩=some (.slice K x.length b)) (hx:Ints W w (.slice K x.length b) x) (hy:Ints X w T y) (e:dL P.orders y) (u:Zr P U x) :
  Calls Tryz.prog 146 #[T,p,.pointer (some ⟨H,0,none⟩),.pointer (some ⟨I,0,none⟩)] w (fq w λ_ v=>v=.bool (!(decide (gP P U (fW P y x))))):=by
 have ab:=G.v.n6;have S:=G.gG F;have i:fD P (gP P U)=U:=F.2.symm;have l:=(G.iV S).1;rw[i] at l;have N:U.length<=100:=by have:=G.lz F;omega
 have j:=λY (hR:nK P U (fC P y x) U.length Y)=>G.LV S (x:=x) (y:=y) (Y:=Y) (by rw[i];exact u) e (by rw[i];exact hR);have B:=G.gz e u.1;have C:=G.oI e u.1;have D:=u.1.1;obtain⟨pb,po,rfl⟩:=M.shape;obtain⟨ay,cy,rfl,_,_⟩:=hy.shape;have m:=Lib.hid (And.intro l (And.intro j (And.intro B (And.intro C (And.intro e (And.intro u D))))));clear l j B C e u D S i F;have O:∀w',Ext w w'->w'.cell? ⟨H,0,none⟩=some (.slice J U.length a):=λw' h=>h.cell z (by simp);have Q:∀w',Ext w w'->w'.cell? ⟨I,0,none⟩=some (.slice K x.length b):=λw' h=>h.cell A (by simp);clear z A;go_enter Tryz.func146,Tryz.ntmps146;go_wp2
 go_region_held3 (λw'=>Ext w w') (first|exact gZ _ _|exact fk _ _|assumption)
  (first
   | (revert q;intro q;go_at_call 147;refine Calls.mono (Calls.rel (w0:=w) (by assumption) (rS _ _ Y x _ Any Any q.out (Ints.sub (Ints.ext hx (by assumption)) (λ_ _ _=>trivial)))) ?_;rintro eE wE ⟨vE,rfl,tW,_,rfl⟩)
   | (revert r;intro r;go_at_call 148;refine Calls.mono (Calls.jF (w0:=w) (by assumption) (Da P G _ _ _ _ U (fC P y x) L V Any (M.ext (by assumption)) (dK.ext hu (by assumption)) m.out.1 N r.out m.out.2.2.1)) ?_;rintro eR wR ⟨vR,rfl,Vk,_,_,Y,R,E⟩;have q:=Lib.hid (R.ints (by rw[E.vec.1];omega)))
   | (go_at_call 149;refine Calls.mono (Calls.jF (w0:=w) (by assumption) (vQ P G.v _ _ _ _ y x L X W (M.ext (by assumption)) (Ints.ext hy (by assumption)) (Ints.ext hx (by assumption)) m.out.2.2.2.2.1 m.out.2.2.2.2.2.1.1)) ?_;rintro eM wM ⟨vM,rfl,tL,_,_,hO⟩;rw[m.out.2.2.2.1] at hO;have r:=Lib.hid (hO.ints (by rw[m.out.2.2.1.1];omega))))
 have Z:jk Y x=decide (gP P U (fW P y x)):=by
  have:=m.out.2.1 Y E;by_cases h:Y=x
  ·rw[kC.2 h];exact(decide_eq_true (this.1 h)).symm
  ·rw[lu.2 h];exact(decide_eq_false (λk=>h (this.2 k))).symm
 rw[Z];clear O Q Z;go_wp2;go_ret;exact⟨_,rfl,by assumption,rfl⟩
end Go.Proofs.YtoakmefajbbggaaGreat
