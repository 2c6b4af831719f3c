/- Merged from templates. -/
import Derived.Test.YtdcobapnlpeaaaaGreatY11
import Derived.Deep.CutBlock
set_option maxRecDepth 100000
set_option maxHeartbeats 8000000
namespace Go.Proofs.YtdcobapnlpeaaaaGreat
open Go.RowKit
attribute [local go_sem ↓] Go.wp_at_zero Go.wp_at_succ
theorem sW {i:Array Oper}{o:Oper}{a:Act}{K:Act->World->Prop}{Q:Exit->Act->World->Prop}{m:Prop}{w:World}(j:o.guard=none) (s x:Operand)
  (n:o.op=Op.call { callee:=Callee.builtin Builtin.append,args := #[s,x],argTypes := #[24,24] }) (B:Nat) (v:Value) (l:List Int) (y:Int) (p:a.eval s=v) (e:Own B w v l)
  (H:Nat) (hx:a.eval x=.slice (some ⟨H,0,none⟩) 1 1) (q:w.cell? ⟨H,0,none⟩=some (.int .i64 y)) (k:l.length<=1000000) (b:B<=w.heap.size)
  (h:∀g w',Own B w' g (l++[y])->w.grownBy w' v.ownBlock->K (a.put o.dst g) w') :
  if Region.wanted o (yielded i a.tmps)=true then Oper.wp Tryz.prog o a w K Q else m:=by
 refine step_app 24 2 (.int .i64 0) 8 und_ints Tryz.infoInt rfl (by decide) j s x n B v (l.map (Value.int .i64)) p e.v H (.int .i64 y) hx q rfl (by simpa using (by omega:l.length<=2000000)) b ?_;intro g w' h1 r _;exact h g w' (Own.of (by rw[List.map_append];exact h1)) r
theorem PresX.yS {F:Nat->Prop}{w:World}{vo vp vc:Value}{P:Pr}(h:PresX F w vo vp vc P) (i:Nat) (a:i<P.conj.length) :
  ∃g cap z,vc=.slice (some ⟨g,0,none⟩) P.conj.length cap/\F g/\w.cell? ⟨g,i,none⟩=some z/\g<w.heap.size/\w.frozen? ⟨g,i,none⟩=false:=by
 obtain⟨Fo,Fp,Fc,h1,h2,b,h4,h5,h6⟩:=h;rcases SlI.form b with⟨_,e⟩|⟨g,cap,rfl,hFg,hgl⟩
 ·rw[e] at a;simp at a
 obtain⟨⟨z,hz⟩,hf⟩:=SlI.place b i a;exact⟨g,cap,z,rfl,h6 g hFg,hz,hgl,hf⟩
theorem yT {j:Array Oper}{o:Oper}{a:Act}{K:Act->World->Prop}{Q:Exit->Act->World->Prop}{n:Prop}{w:World}(k:o.guard=none) (s x:Operand)
  (p:o.op=Op.call { callee:=Callee.builtin Builtin.append,args := #[s,x],argTypes := #[25,25] }) (B:Nat) (v:Value) (g:List Value) (q:a.eval s=v) (e:OwnV B 24 w v g)
  (H:Nat) (u:Value) (hx:a.eval x=.slice (some ⟨H,0,none⟩) 1 1) {a1:Option Addr}{r c1:Nat}(l:w.cell? ⟨H,0,none⟩=some u/\u=.slice a1 r c1) (m:g.length<=1000000) (b:B<=w.heap.size)
  (h:∀i w',OwnV B 24 w' i (g++[u])->w.grownBy w' v.ownBlock->(i.ownBlock=v.ownBlock\/i.ownBlock=some w.heap.size)->K (a.put o.dst i) w') :
  if Region.wanted o (yielded j a.tmps)=true then Oper.wp Tryz.prog o a w K Q else n:=
 step_app 25 24 (.slice none 0 0) 24 und_rows Tryz.infoRow rfl (by decide) k s x p B v g q e H u hx l.1 (by rw[l.2];rfl) (by omega) b h
theorem yU {B:Nat}{z wc q:World}{r v6 u:Value}{b:List Value}{L:List (List Int)}{y:List Int}{U:Nat->Prop}(j:OwnV B 24 q v6 (b++[u])) (A:b.length=L.length) (D:L.length<=1000000)
  (E:∀i,i<L.length->Ints (λk=>B<=k/\r.ownBlock≠some k) z (gt b i) (gt L i)) (v:Ext z wc) (n:wc.grownBy q r.ownBlock) (F:Ints U wc u y) (C:∀k,U k->B<=k/\r.ownBlock≠some k) :
  Rows2 (λk=>B<=k) q v6 (L++[y]):=by
 have l:=j.lt;rcases j.form with⟨_,h2⟩|⟨g,cap,rfl,hnc,_,_⟩
 ·simp at h2
 refine⟨some ⟨g,0,none⟩,cap,by simp[A],⟨by simp at hnc;simp;omega,by simp;omega,λh=>by cases h⟩,λi p => ?_⟩
 ·have p:i<(b++[u]).length:=by simp at p ⊢;omega
  refine⟨g,0,gt (b++[u]) i,rfl,(l g rfl).1,(l g rfl).2,by rw[Nat.zero_add];exact j.cell i p,?_⟩;by_cases m:i<b.length
  ·rw [gt_append_left _ _ _ m,gt_append_left _ _ _ (by omega)]
   exact Ints.mono (E i (by omega)) (λk hk a=>⟨hk.1,Nat.lt_of_lt_of_le a (Nat.le_trans v.size n.size),(n.block k (Nat.lt_of_lt_of_le a v.size) (λe=>hk.2 e.symm)).trans (v.block k a (by simp))⟩)
  ·have w:i=b.length:=by simp at p;omega
   subst w;rw[gt_concat,A,gt_concat];exact Ints.mono F (λk hk a=>⟨(C k hk).1,Nat.lt_of_lt_of_le a n.size,n.block k a (λe=>(C k hk).2 e.symm)⟩)
theorem PresX.putRow {F:Nat->Prop}{w b:World}{vo vp:Value}{P:Pr}{g n cap:Nat}{u:Value}{L:List (List Int)}(h:PresX F w vo vp (.slice (some ⟨g,0,none⟩) n cap) P) (i:Nat) (I:i<n) (J:P.conj.length=n) (j:Ext w b) (A:Rows2 (λk=>w.heap.size<=k) b u L) :
  ∃Q:Pr,Q.orders=P.orders/\Pres3 (λk=>F k\/w.heap.size<=k) (b.setCell ⟨g,i,none⟩ u) vo vp (.slice (some ⟨g,0,none⟩) n cap) Q:=by
 obtain⟨Fo,Fp,Fc,h1,B,m,v,y,C⟩:=h
 have l:Fc g:=by
  rcases SlI.form m with⟨e,_⟩|⟨D,c',e,hF,_⟩
  ·cases e
  ·cases e;exact hF
 have E:g<w.heap.size:=by
  rcases SlI.form m with⟨e,_⟩|⟨D,c',e,_,hl⟩
  ·cases e
  ·cases e;exact hl
 have z:=grown_set1 b g i u;have hblk:∀k,k<w.heap.size->k≠g->k<(b.setCell ⟨g,i,none⟩ u).heap.size/\(b.setCell ⟨g,i,none⟩ u).heap[k]? = w.heap[k]? :=λk hk p=>⟨Nat.lt_of_lt_of_le hk (Nat.le_trans j.size z.size),(z.block k (Nat.lt_of_lt_of_le hk j.size) (λe=>p (Option.some.inj e))).trans (j.block k hk (by simp))⟩
 have q:SlI (λF w u (x:List (List Int))=>Rows2 F w u x) 25 (λk=>Fc k/\k<w.heap.size) b (.slice (some ⟨g,0,none⟩) n cap) P.conj:=
  SlI.map (λ_ _ _ _ h=>RowsI.rows h) (rdRows3I.mono m (λk hk a=>⟨⟨hk,a⟩,Nat.lt_of_lt_of_le a j.size,j.block k a (by simp)⟩))
 have r:RdOk (λF w u (x:List (List Int))=>Rows2 F w u x):=⟨λh G=>Rows2.mono h G,λh=>by obtain⟨_,_,rfl,_⟩:=Sl.shape h;rfl⟩;have H:=SlI.p5 r q A (λk hk h=>by omega) i;refine⟨⟨P.orders,P.powers,P.conj.set i L⟩,rfl,⟨?_,?_,?_⟩⟩
 ·exact Ints.mono h1.ints (λk hk a=>by
   have h:=hblk k a (λe=>(v k hk).2.2 (e▸l));exact⟨.inl (v k hk).1,h.1,h.2⟩)
 ·exact Rows2.mono (RowsI.rows B) (λk hk a=>by
   have h:=hblk k a (λe=>(y k hk).2 (e▸l));exact⟨.inl (y k hk).1,h.1,h.2⟩)
 ·exact Rows3.sub (S:=λk=>(Fc k/\k<w.heap.size)\/w.heap.size<=k) H (λk hk _=>hk.elim (λh => .inl (C k h.1)) .inr)
def yV (j:Pr) (l sb m:Nat) (w a:World):Prop:=∃(a1:Option Addr) (b c1:Nat) (a2:Option Addr) (e c2:Nat) (g:Option Addr) (i c3:Nat) (Q:Pr),Box3 a m (.slice a1 b c1) (.slice a2 e c2) (.slice g i c3)/\Box3 a (w.heap.size+1) (.slice none 0 0) (.slice none 0 0) (.slice none 0 0) /\
 w.grownBy a (some sb)/\Src l a sb/\Q.orders.length<=7/\gm j Q/\Pres3 (λk=>w.heap.size+2<=k) a (.slice a1 b c1) (.slice a2 e c2) (.slice g i c3) Q
set_option linter.unusedSimpArgs false in
set_option maxHeartbeats 16000000 in
theorem yX (B0:Nat) (w:World) (sb:Nat) (pv:Value) (P:Pr) (F:Nat->Prop) (dh:B0<=w.heap.size) (hs:Src B0 w sb) (hp:PresV F w pv P) (hV:Valid P) :
  Calls Tryz.prog 238 #[.pointer (some ⟨sb,0,none⟩),pv] w (Mut w (some sb) (iV B0 sb (kV 7 (gm P) w.heap.size))):=by
 have dS:=hs.lt;have hS:=hV.pW;obtain⟨vo,vp,vc,rfl,h3⟩:=hp;obtain⟨ao,co,ig,_,_⟩:=h3.o.shape;obtain⟨ap,cp,am,_,_⟩:=Sl.shape h3.p;obtain⟨ac,cc,cq,_,_⟩:=Sl.shape h3.c;rw[hS.p] at am;rw[hS.c] at cq;subst ig am cq;obtain⟨n,hn⟩:∃n,n=P.orders.length:=⟨_,rfl⟩;rw[<-hn] at h3;rw[<-hn];have dT:n<=6:=by rw[hn];exact hS.n
 have cs:Ext w (w.alloc (.cells #[.slice ao n co,.slice ap n cp,.slice ac n cc] 28)):=World.grownBy_alloc _ _ _;have bS:(w.alloc (.cells #[.slice ao n co,.slice ap n cp,.slice ac n cc] 28)).heap.size=w.heap.size+1:=by simp
 have dk:=Box3.made w 28 (.slice ao n co) (.slice ap n cp) (.slice ac n cc);have HH:=Lib.hid (And.intro hS (And.intro hV (And.intro hn hs)));clear hS hV hn hs;go_enter Tryz.func238,Tryz.ntmps238;go_wp2_with fail
 generalize w.alloc (.cells #[.slice ao n co,.slice ap n cp,.slice ac n cc] 28)=wA at *;have aK:Ext wA (wA.alloc (.cells #[.slice none 0 0,.slice none 0 0,.slice none 0 0] 28)):=World.grownBy_alloc _ _ _;have bn:=Box3.made wA 28 (.slice none 0 0) (.slice none 0 0) (.slice none 0 0);have bT:=grown_trans cs aK;have dl:(wA.alloc (.cells #[.slice none 0 0,.slice none 0 0,.slice none 0 0] 28)).heap.size=w.heap.size+2:=by simp[bS]
 rw[bS] at bn;generalize wA.alloc (.cells #[.slice none 0 0,.slice none 0 0,.slice none 0 0] 28)=w0 at *;have dD:w.heap.size+2<=w0.heap.size:=by omega
 clear aK cs dk bS dl;refine Calls.mono (pZ w0 _ P F 6 ⟨_,_,_,rfl,h3.mono (frame_of bT (λk hk _=>⟨hk,by simp⟩))⟩ HH.out.1 (by omega)) ?_;rintro e1 w1 ⟨v1,rfl,hg1,qo,qp,qc,rfl,hX1⟩;obtain⟨ag,Y,ax,ah,ay,an,e1,e2,e3⟩:=hX1.shape;rw[HH.out.1.p] at e2;rw[HH.out.1.c] at e3;rw[<-HH.out.2.2.1] at e1 e2 e3;subst e1 e2 e3;obtain⟨V,bU⟩:∃V,V=w1.heap.size:=⟨_,rfl⟩;have aC:Ext w1 (w1.alloc (.cells #[.slice ag n Y,.slice ax n ah,.slice ay n an] 28)):=World.grownBy_alloc _ _ _;have bV:=Box3.made w1 28 (.slice ag n Y) (.slice ax n ah) (.slice ay n an);rw[<-bU] at bV;have dn:=hg1.size;have cu:PresX (λk=>w0.heap.size<=k/\k≠V) (w1.alloc (.cells #[.slice ag n Y,.slice ax n ah,.slice ay n an] 28)) (.slice ag n Y) (.slice ax n ah) (.slice ay n an) P:=hX1.mono (λk hk D=>⟨⟨hk,by omega⟩,Nat.lt_of_lt_of_le D aC.size,aC.block k D (by simp)⟩);have bd:=grown_trans hg1 aC;have cw:=Lib.hid bU;go_wp2_with fail
 rw[<-cw.out];generalize w1.alloc (.cells #[.slice ag n Y,.slice ax n ah,.slice ay n an] 28)=w2 at *;have dV:w0.heap.size<=V:=by omega
 clear hX1 hg1 aC bU cw dn;have cx:=bn.ext bd;have be:=grown_trans bT bd;have cy:=HH.out.2.2.2.ext be;clear bn bd bT h3;refine Calls.mono (l01Next_ok B0 w2 sb 6 cy) ?_;rintro e3 l ⟨v3,rfl,bf,x,rfl,_,hx1,cz⟩;have cA:=cu.moved bf (λh=>by omega);have M:=bV.moved bf (by omega);have N:=cx.moved bf (by omega);have T:=grown_trans (grown_of_ext (some sb) be) bf;have hx:=hx1 (by omega);have bo:=HH.out.2.2.1;have cB:P.powers.length=n:=by rw[bo];exact HH.out.2.1.pl
 have cC:P.conj.length=n:=by rw[bo];exact HH.out.2.1.cl
 have dW:V<l.heap.size:=M.1;have E:=Lib.hid (And.intro cA (And.intro cz (And.intro bo (And.intro cB cC))));clear cu bV cx be cy bf cA cz hx1 bo cB cC;obtain⟨q0,q1,q2,q3,q4⟩:=id M;go_upto_block 0 with fail
 go_cut [] (λwx=>yV P B0 sb V w wx)
 case' rest=>
  obtain⟨a1,n1,c1,a2,n2,c2,a3,n3,c3,Q,yY,sX,cE,cF,cG,cH,cI⟩:=hcut;clear q0 q1 q2 q3 q4 M N E T;obtain⟨q0,q1,q2,q3,q4⟩:=id yY;obtain⟨b0,b1,b2,b3,b4⟩:=id sX;have hZ:=sX.all (.slice a1 n1 c1) (.slice a2 n2 c2) (.slice a3 n3 c3);obtain⟨-,z0,z1,z2,-⟩:=id hZ;have HF:=Lib.hid (And.intro cE (And.intro cF (And.intro cI (And.intro cG cH))));clear hZ cE cF cI cG cH;go_wp2_with fail
  refine bodyPost_ret (v := .agg #[.slice a1 n1 c1,.slice a2 n2 c2,.slice a3 n3 c3]) (by simp[results,Tryz.results238,go_sem,z0,z1,z2]) rfl ?_;exact iE HF.out.1 (br:=w.heap.size+1) (by omega) (λk hk _=>⟨by omega,by omega⟩) HF.out.2.1 dh HF.out.2.2.2.1 HF.out.2.2.1 HF.out.2.2.2.2
 rcases(show x=0\/x=1\/x=2\/x=3\/x=4\/x=5 by omega) with rfl|rfl|rfl|rfl|rfl|rfl
 all_goals clear hx
 ·obtain ⟨Fo,Fp,Fc,h1,h2,h3,h4,h5,h6⟩:=E.out.1
  have hO:=h1.1;have cK:∀k,(Value.slice ag n Y).ownBlock=some k->(w0.heap.size<=k/\k≠V)/\¬Fp k/\¬Fc k:=λk hk=>h4 k (h1.2.1 k hk);have dJ:l.heap.size<=l.heap.size:=Nat.le_refl _;have HO:=Lib.hid (And.intro cK (And.intro h2 (And.intro h3 (And.intro h5 h6))));clear cK h1 h2 h3 h4 h5 h6;have bp:P.orders.length<=1000000:=by have:=E.out.2.2.1;omega
  have bW:(P.orders++[2]).length=P.orders.length+1:=by simp
  go_wp2_with (first|(at_builtin;refine wp_app_intb rfl _ _ rfl 0 (.slice ag n Y) P.orders 2 rfl l hO rfl rfl bp (Nat.zero_le _) ?_;intro v5 C K H aU;have bX:Box3 C V (.slice ag n Y) (.slice ax n ah) (.slice ay n an):=M.keep H.size (H.block _ M.1 (λe=>(HO.out.1 V e.symm).1.2 rfl));have aM:=N.keep H.size (H.block _ N.1 (λe=>by have:=(HO.out.1 _ e.symm).1.1;omega));obtain⟨r0,r1,r2,r3,r4⟩:=id bX;obtain⟨a5,n5,aN,_⟩:=(K.ints (by omega)).shape;rw[bW] at aN;subst aN;have aE:=(bX.put (.slice a5 (P.orders.length+1) n5)).1;have az:=grown_set1 C V 0 (.slice a5 (P.orders.length+1) n5);have aa:=aM.moved az (by omega);have cL:=Lib.hid (And.intro aE aa);have HF:=Lib.hid (And.intro K (And.intro H (And.intro aU az)));clear K H aU az aa aE bX aM)|fail)
  obtain⟨K,H,aU,az⟩:=HF.out;have I:w.grownBy (C.setCell ⟨V,0,none⟩ (.slice a5 (P.orders.length+1) n5)) (some sb):=grown_own (grown_own T H (λj hj D=>by have:=(HO.out.1 j hj).1.1;omega)) az (λj hj D=>by have:=Option.some.inj hj;omega);have aO:=(E.out.2.1.own H (λj hj=>by have:=(HO.out.1 j hj).1.1;omega)).own az (λk hk=>by have:=Option.some.inj hk;omega)
  have bY:Pres3 (λk=>(w0.heap.size<=k/\k≠V)) (C.setCell ⟨V,0,none⟩ (.slice a5 (P.orders.length+1) n5)) (.slice a5 (P.orders.length+1) n5) (.slice ax n ah) (.slice ay n an) ⟨P.orders++[2],P.powers,P.conj⟩:=by
   have hblk:∀k,k<l.heap.size->(Value.slice ag n Y).ownBlock≠some k->k≠V->k<(C.setCell ⟨V,0,none⟩ (.slice a5 (P.orders.length+1) n5)).heap.size/\(C.setCell ⟨V,0,none⟩ (.slice a5 (P.orders.length+1) n5)).heap[k]? = l.heap[k]? :=λk hk h1 h2=>
    ⟨Nat.lt_of_lt_of_le hk (Nat.le_trans H.size az.size),(az.block k (Nat.lt_of_lt_of_le hk H.size) (λe=>h2 (Option.some.inj e))).trans (H.block k hk (λe=>h1 e.symm))⟩
   refine⟨?_,?_,?_⟩
   ·have hI:Ints (λk=>w0.heap.size<=k/\k≠V) C (.slice a5 (P.orders.length+1) n5) (P.orders++[2]):=ints_of_own K (by omega) (λk hk=>by
     rcases aU with e|e
     ·rw[e] at hk;exact(HO.out.1 k hk).1
     ·have:=e k hk;exact⟨by omega,by omega⟩)
    exact Ints.mono hI (λk hk D=>⟨hk,Nat.lt_of_lt_of_le D az.size,az.block k D (λe=>hk.2 (Option.some.inj e))⟩)
   ·exact Rows2.mono (RowsI.rows HO.out.2.1) (λk hk D=>by
     have h5:=HO.out.2.2.2.1 k hk;have h:=hblk k D (λe=>(HO.out.1 k e).2.1 hk) h5.1.2;exact⟨h5.1,h.1,h.2⟩)
   ·exact Rows3.mono (Rows3I.rows HO.out.2.2.1) (λk hk D=>by
     have h5:=HO.out.2.2.2.2 k hk;have h:=hblk k D (λe=>(HO.out.1 k e).2.2 hk) h5.2;exact⟨h5,h.1,h.2⟩)
  try go_meet
  exact⟨_,_,_,_,_,_,_,_,_,_,cL.out.1,cL.out.2,I,aO,(by simp;have:=E.out.2.2.1;omega),(by exact λh=>absurd h.pl (by show ¬P.powers.length=(P.orders++[2]).length;rw[E.out.2.2.2.1,List.length_append,<-E.out.2.2.1,List.length_singleton];omega)),bY.mono (λk hk D=>⟨by omega,D,rfl⟩)⟩
 ·by_cases Z:n=0
  ·have bZ:decide (0<n)=false:=by simp[Z]
   clear Z;go_wp2_with fail
   try go_wp2_with fail
   go_meet;exact⟨_,_,_,_,_,_,_,_,_,_,M,N,T,E.out.2.1,(by rw[<-E.out.2.2.1];omega),(by exact gm.same rfl),Pres3.mono E.out.1.p3 (λk hk D=>⟨by omega,D,rfl⟩)⟩
  ·have O:0<n:=by omega
   clear Z;obtain⟨Fo,Fp,Fc,h1,h2,h3,h4,h5,h6⟩:=E.out.1;have hO:=h1.1;obtain⟨g,capg,ig,_,aX⟩:=hO.form (by rw[<-E.out.2.2.1];exact O);obtain⟨rfl,rfl⟩:ag=some ⟨g,0,none⟩/\Y=capg:=by cases ig;exact⟨rfl,rfl⟩
   clear ig;have cM:=h1.2.1 g rfl;have bs:=h4 g cM;have aK:w0.heap.size<=g:=bs.1.1;have aC:g≠V:=bs.1.2;have b5:=hO.cell 0 (by rw[<-E.out.2.2.1];exact O);have cN:=hO.frozen 0;generalize gt P.orders 0=oz at b5;have HO:=Lib.hid (And.intro hO (And.intro h2 (And.intro h3 (And.intro h5 (And.intro h6 bs)))));clear h1 h2 h3 h4 h5 h6 hO bs cM;have e0:∀w',dX l sb g w'->w'.cell? ⟨V,0,none⟩=some (.slice (some ⟨g,0,none⟩) n Y):=λw' h=>h.cell M.2.1 (by simp;omega) (by simp;omega);have hL:=fq l.drew [4,1,11,0,-2] (by simp);have cO:∀y∈([4,1,11,0,-2]:List Int),-2<=y:=by simp
   have HL:=Lib.hid (And.intro hL cO);clear hL cO;have b6:(0:Int)<n:=by omega
   go_wp2_with fail
   go_region_held3 (λw'=>dX l sb g w') (first|exact dX.ext (grown_drew _ _)|exact dX.ext (grown_trans (grown_drew _ _) (World.grownBy_alloc _ _ _))|exact dX.of (by assumption)|exact dX.two H (grown_set1 _ _ _ _)|assumption)
    (first
     | (go_at_call 158;refine Calls.mono (l01Pick_ok B0 _ sb _ [4,1,11,0,-2] _ (E.out.2.1.ext (grown_trans (grown_drew _ _) (World.grownBy_alloc _ _ _))) HL.out.1 (λk hk=>by have hk:k=l.heap.size:=hk;omega) (by simp) (by simp)) ?_;rintro e5 C ⟨v5,rfl,bG,i,hi,rfl,bh⟩;have H:l.grownBy C (some sb):=grown_trans (grown_of_ext (some sb) (grown_trans (grown_drew _ _) (World.grownBy_alloc _ _ _))) bG;have aF:=H.cell b5 (by simp;omega);have dq:=(World.frozen?_of_block (a:=⟨g,0,none⟩) (H.block g aX (λe=>by have:=Option.some.inj e;omega))).trans cN))
   have cP:=H.size;have hT:=grown_set1 C g 0 (.int .i64 (gt [4,1,11,0,-2] i));have aE:=(M.moved H (by omega)).moved hT (by omega);have aa:=(N.moved H (by omega)).moved hT (by omega);have aq:=grown_own (grown_trans T H) hT (λj hj D=>by have:=Option.some.inj hj;omega);have aO:=bh.own hT (λk hk=>by have:=Option.some.inj hk;omega);have K:Own 0 C (.slice (some ⟨g,0,none⟩) n Y) P.orders:=HO.out.1.kept H (.inr (λe=>by have:=own_blk e;omega));have ak:=(K.store 0 (gt [4,1,11,0,-2] i)).1
   have bY:Pres3 (λk=>(w0.heap.size<=k/\k≠V)) (C.setCell ⟨g,0,none⟩ (.int .i64 (gt [4,1,11,0,-2] i))) (.slice (some ⟨g,0,none⟩) n Y) (.slice ax n ah) (.slice ay n an) ⟨P.orders.set 0 (gt [4,1,11,0,-2] i),P.powers,P.conj⟩:=by
    have hblk:∀k,k<l.heap.size->g≠k->(w0.heap.size<=k/\k≠V)->k<(C.setCell ⟨g,0,none⟩ (.int .i64 (gt [4,1,11,0,-2] i))).heap.size/\(C.setCell ⟨g,0,none⟩ (.int .i64 (gt [4,1,11,0,-2] i))).heap[k]? = l.heap[k]? :=λk hk h1 h2=>
     ⟨Nat.lt_of_lt_of_le hk (Nat.le_trans H.size hT.size),(hT.block k (Nat.lt_of_lt_of_le hk H.size) (λe=>h1 (Option.some.inj e).symm)).trans (H.block k hk (λe=>by have:=Option.some.inj e;omega))⟩
    refine⟨?_,?_,?_⟩
    ·exact ints_of_own ak (by rw[List.length_set,<-E.out.2.2.1];omega) (λk hk=>by have:=own_blk hk;subst this;exact⟨aK,aC⟩)
    ·exact Rows2.mono (RowsI.rows HO.out.2.1) (λk hk D=>by
      have h5:=HO.out.2.2.2.1 k hk;have h:=hblk k D (λe=>HO.out.2.2.2.2.2.2.1 (e▸hk)) h5.1;exact⟨h5.1,h.1,h.2⟩)
    ·exact Rows3.mono (Rows3I.rows HO.out.2.2.1) (λk hk D=>by
      have h5:=HO.out.2.2.2.2.1 k hk;have h:=hblk k D (λe=>HO.out.2.2.2.2.2.2.2 (e▸hk)) h5;exact⟨h5,h.1,h.2⟩)
   clear aF dq e0 hT ak bh bG H M N T q0 q1 q2 q3 q4 b5 cN;have bH:(P.orders.set 0 (gt [4,1,11,0,-2] i)).length<=7:=by rw[List.length_set,<-E.out.2.2.1];omega
   have cQ:gm P ⟨P.orders.set 0 (gt [4,1,11,0,-2] i),P.powers,P.conj⟩:=λh=>by
    have h1:gt (P.orders.set 0 (gt [4,1,11,0,-2] i)) 0=2\/gt (P.orders.set 0 (gt [4,1,11,0,-2] i)) 0=3\/gt (P.orders.set 0 (gt [4,1,11,0,-2] i)) 0=5\/gt (P.orders.set 0 (gt [4,1,11,0,-2] i)) 0=7:=h.ord 0 (by show 0<(P.orders.set 0 _).length;rw[List.length_set,<-E.out.2.2.1];exact O);exfalso
    rw[gt_set_eq _ _ _ (by rw[<-E.out.2.2.1];exact O)] at h1;have ea:i<5:=hi;obtain rfl|rfl|rfl|rfl|rfl:i=0\/i=1\/i=2\/i=3\/i=4:=by omega
    all_goals simp[gt] at h1
   have bI:=Lib.hid (And.intro bH cQ);clear bH cQ;generalize C.setCell ⟨g,0,none⟩ (.int .i64 (gt [4,1,11,0,-2] i))=w6 at *;try go_wp2_with fail
   go_meet;exact⟨_,_,_,_,_,_,_,_,_,_,aE,aa,aq,aO,bI.out.1,bI.out.2,Pres3.mono bY (λk hk D=>⟨by omega,D,rfl⟩)⟩
 ·by_cases Z:n=0
  ·have bZ:decide (0<n)=false:=by simp[Z]
   clear Z;go_wp2_with fail
   try go_wp2_with fail
   go_meet;exact⟨_,_,_,_,_,_,_,_,_,_,M,N,T,E.out.2.1,(by rw[<-E.out.2.2.1];omega),(by exact gm.same rfl),Pres3.mono E.out.1.p3 (λk hk D=>⟨by omega,D,rfl⟩)⟩
  ·have O:0<n:=by omega
   clear Z;have b6:(0:Int)<n:=by omega
   have bi:=E.out.1.p3.p;obtain⟨bq,oq,ae,ce,hap,yZ,_,al,aR⟩:=Rows2.at bi 0 (by rw[E.out.2.2.2.1];exact O);obtain⟨g,capg,z,am,⟨aK,aC⟩,aX,b9,b',_⟩:=E.out.1.p6 0 (by rw[E.out.2.2.2.1];exact O) (U:=λ_=>False) (y:=[]) (u := .slice none 0 0) ⟨none,0,rfl,⟨by simp,by simp,λ_=>rfl⟩,λi hi=>by simp at hi⟩ (λ_ h=>h.elim);obtain⟨rfl,rfl⟩:ax=some ⟨g,0,none⟩/\ah=capg:=by cases am;exact⟨rfl,rfl⟩
   have bt:g=bq:=by cases hap;rfl
   have ca:oq=0:=by cases hap;rfl
   clear hap;subst bt ca;rw[Nat.zero_add] at al;have ds:(gt P.powers 0).length<=6:=HH.out.1.pv _ (gtMem (by rw[E.out.2.2.2.1];exact O));obtain⟨e,he⟩:∃e,e=gt P.powers 0:=⟨_,rfl⟩;rw[<-he] at al aR ds;clear am he b9 bi;have dt:=M.ext (grown_drew _ none);obtain⟨d0,d1,d2,d3,d4⟩:=id dt;have f1:l.drew.cell? ⟨g,0,none⟩=some (.slice ae e.length ce):=al;have bW:(e++[(0:Int)]).length=e.length+1:=by simp
   go_wp2_with fail
   have e1:∀w',Near l g w'->w'.cell? ⟨V,1,none⟩=some (.slice (some ⟨g,0,none⟩) n ah):=λw' h=>h.cell M.2.2.1 (by simp;omega);refine wp_region_held_drew (S:=λw'=>Near l g w') (by kernel_rfl) (Near.of (grown_drew _ _)) (λA => ?_);refine tk 0 ?_;refine tk 1 ?_;refine tk 2 ?_;refine tk 3 ?_;refine tk 4 ?_;have X:Ext l (l.alloc (.cells #[.int .i64 0] 2)).drew:=grown_trans (World.grownBy_alloc _ _ _) (grown_drew _ _);refine jx 5 7 (λJ q => ?_) (λJ q => ?_)
   focus
    go_simp;refine ko q (by assumption) (λA => ?_);clear q J;refine jx 6 7 (λJ q => ?_) (λJ q => ?_)
    focus
     go_simp;go_at_call 199;refine Calls.mono (l01Own_ok l.drew _ e _ (aR.ext (grown_drew _ _)) (by omega)) ?_;rintro e5 C ⟨v5,rfl,H,lZ⟩;have B:Ext l C:=grown_trans (grown_drew _ _) H;have K:Own l.heap.size C v5 e:=lZ;obtain⟨a5,c5,aN,_⟩:=(K.ints (by omega)).shape;subst aN;go_wp2_with fail
     refine ko q (Near.of B) (λA => ?_);clear q J;refine eu 7 (λJ q => ?_);go_simp;refine ko q (Near.of (grown_trans B (World.grownBy_alloc _ _ _))) (λA => ?_);clear q J;refine eu 8 (λJ q => ?_);refine step_app_int (by rfl) _ _ (by rfl) l.heap.size _ e 0 (by rfl) C K (by rfl) (by rfl) (by omega) B.size ?_
    rotate_left
    focus
     go_simp;refine ko q (Near.of X) (λA => ?_);clear q J;refine eu 6 (λJ q => ?_);go_simp;go_at_call 199;refine Calls.mono (l01Own_ok (l.alloc (.cells #[.int .i64 0] 2)).drew _ e _ (aR.ext X) (by omega)) ?_;rintro e5 C ⟨v5,rfl,H,lZ⟩;have B:Ext l C:=grown_trans X H;have du:(l.alloc (.cells #[.int .i64 0] 2)).drew.heap.size=l.heap.size+1:=(by simp:(l.alloc (.cells #[.int .i64 0] 2)).heap.size=l.heap.size+1);have K:Own l.heap.size C v5 e:=lZ.weak (by omega);have cb:(l.alloc (.cells #[.int .i64 0] 2)).drew.cell? ⟨l.heap.size,0,none⟩=some (.int .i64 0):=(by rw[World.cell?_alloc_at _ _ _ _ rfl];rfl:(l.alloc (.cells #[.int .i64 0] 2)).cell? ⟨l.heap.size,0,none⟩=some (.int .i64 0));have cd:=H.cell cb (by simp);obtain⟨a5,c5,aN,_⟩:=(K.ints (by omega)).shape;subst aN;go_wp2_with fail
     refine ko q (Near.of B) (λA => ?_);clear q J;refine eu 8 (λJ q => ?_);refine sW (by rfl) _ _ (by rfl) l.heap.size _ e 0 (by rfl) K l.heap.size (by rfl) cd (by omega) B.size ?_
   rotate_left 2
   focus
    go_simp;refine ko q (Near.of X) (λA => ?_);clear q J;refine eu 5 (λJ q => ?_);have f2:(l.alloc (.cells #[.int .i64 0] 2)).drew.cell? ⟨g,0,none⟩=some (.slice ae e.length ce):=(X:Ext l (l.alloc (.cells #[.int .i64 0] 2)).drew).cell al (by simp);go_simp;refine ko q (by assumption) (λA => ?_);clear q J;refine eu 6 (λJ q => ?_);go_simp;go_at_call 199;refine Calls.mono (l01Own_ok (l.alloc (.cells #[.int .i64 0] 2)).drew _ e _ (aR.ext X) (by omega)) ?_;rintro e5 C ⟨v5,rfl,H,lZ⟩;have B:Ext l C:=grown_trans X H;have du:(l.alloc (.cells #[.int .i64 0] 2)).drew.heap.size=l.heap.size+1:=(by simp:(l.alloc (.cells #[.int .i64 0] 2)).heap.size=l.heap.size+1);have K:Own l.heap.size C v5 e:=lZ.weak (by omega);have cb:(l.alloc (.cells #[.int .i64 0] 2)).drew.cell? ⟨l.heap.size,0,none⟩=some (.int .i64 0):=(by rw[World.cell?_alloc_at _ _ _ _ rfl];rfl:(l.alloc (.cells #[.int .i64 0] 2)).cell? ⟨l.heap.size,0,none⟩=some (.int .i64 0));have cd:=H.cell cb (by simp);obtain⟨a5,c5,aN,_⟩:=(K.ints (by omega)).shape;subst aN;go_wp2_with fail
    refine ko q (Near.of B) (λA => ?_);clear q J;refine eu 8 (λJ q => ?_);refine sW (by rfl) _ _ (by rfl) l.heap.size _ e 0 (by rfl) K l.heap.size (by rfl) cd (by omega) B.size ?_
   all_goals
    intro v6 w6 ak aq;have I:Ext l w6:=grown_own B aq (λj hj D=>by have:=(K.lt j hj).1;omega);obtain⟨a6,c6,bu,_⟩:=(ak.ints (by simp;omega)).shape;rw[bW] at bu;subst bu;have r1:=I.cell al (by simp);have r2:=(World.frozen?_of_block (a:=⟨g,0,none⟩) (I.block g aX (by simp))).trans b';refine ko q (Near.of I) (λA => ?_);clear q J;refine tk 9 ?_;refine eu 10 (λJ q => ?_);go_simp;refine ko q (Near.store I) (λA => ?_);clear q J;refine wpAnyH_done (by kernel_rfl) ?_ _;have hT:=grown_set1 w6 g 0 (.slice a6 (e.length+1) c6);have aG:=(M.ext I).moved hT (by omega);have ab:=(N.ext I).moved hT (by omega);have ad:=grown_own (grown_trans T (grown_of_ext (some sb) I)) hT (λj hj D=>by have:=Option.some.inj hj;omega);have aH:=(E.out.2.1.ext I).own hT (λk hk=>by have:=Option.some.inj hk;omega);have cR:PresX (λk=>w0.heap.size<=k/\k≠V/\k<l.heap.size) w6 (.slice ag n Y) (.slice (some ⟨g,0,none⟩) n ah) (.slice ay n an) P:=E.out.1.mono (λk hk D=>⟨⟨hk.1,hk.2,D⟩,Nat.lt_of_lt_of_le D I.size,I.block k D (by simp)⟩);have cS:Ints (λk=>l.heap.size<=k) w6 (.slice a6 (e.length+1) c6) (e++[0]):=ints_of_own ak (by omega) (λk hk=>(ak.lt k hk).1);obtain⟨g',_,_,he1,_,_,_,_,aI⟩:=cR.p6 0 (by rw[E.out.2.2.2.1];exact O) cS (λk hk h=>by omega);have cT:g'=g:=by simp only[Value.slice.injEq,Option.some.injEq,Addr.mk.injEq] at he1;exact he1.1.1.symm
    rw[cT] at aI;clear he1 cT;clear X hT cR cS ak K r1 r2;go_wp2_with fail
    go_meet;exact⟨_,_,_,_,_,_,_,_,_,_,aG,ab,ad,aH,(by show P.orders.length<=7;rw[<-E.out.2.2.1];omega),(by exact gm.same rfl),aI.mono (λk hk D=>⟨by rcases hk with hk|hk<;>omega,D,rfl⟩)⟩
 ·by_cases Z:n=0
  ·have bZ:decide (0<n)=false:=by simp[Z]
   clear Z;go_wp2_with fail
   try go_wp2_with fail
   go_meet;exact⟨_,_,_,_,_,_,_,_,_,_,M,N,T,E.out.2.1,(by rw[<-E.out.2.2.1];omega),(by exact gm.same rfl),Pres3.mono E.out.1.p3 (λk hk D=>⟨by omega,D,rfl⟩)⟩
  ·have O:0<n:=by omega
   clear Z;have b6:(0:Int)<n:=by omega
   have cf:(gt P.powers 0).length=n:=by rw[E.out.2.2.1];exact(HH.out.2.1.pv 0 (by rw[<-E.out.2.2.1];exact O)).1.1
   obtain⟨g,capg,b,capb,am,⟨aK,aC⟩,aX,b9,⟨bn,sU⟩,bt,hbl,dv,hst⟩:=E.out.1.sS (r:=sb) 0 0 (by rw[E.out.2.2.2.1];exact O) (by rw[cf];exact O) (λh=>by omega);obtain⟨rfl,rfl⟩:ax=some ⟨g,0,none⟩/\ah=capg:=by cases am;exact⟨rfl,rfl⟩
   clear am;rw[cf] at b9;obtain⟨ec,aZ⟩:=hst l (grown_refl _ _);have aZ:=aZ 1;have hT:=grown_set1 l b 0 (.int .i64 1);have aE:=M.moved hT (by omega);have aa:=N.moved hT (by omega);have aq:=grown_own T hT (λj hj D=>by have:=Option.some.inj hj;omega);have aO:=E.out.2.1.own hT (λk hk=>by have:=Option.some.inj hk;omega);generalize gt (gt P.powers 0) 0=oz at dv;have dw:=Lib.hid (And.intro aZ (And.intro aE (And.intro aa (And.intro aq aO))));clear aZ aE aa aq aO hT hst cf;go_wp2_with fail
   go_meet;obtain⟨aZ,aE,aa,aq,aO⟩:=dw.out;exact⟨_,_,_,_,_,_,_,_,_,_,aE,aa,aq,aO,(by show P.orders.length<=7;rw[<-E.out.2.2.1];omega),(by exact gm.same rfl),aZ.p3.mono (λk hk D=>⟨by rcases hk with hk|hk<;>omega,D,rfl⟩)⟩
 ·by_cases Z:n=0
  ·have bZ:decide (0<n)=false:=by simp[Z]
   clear Z;go_wp2_with fail
   try go_wp2_with fail
   go_meet;exact⟨_,_,_,_,_,_,_,_,_,_,M,N,T,E.out.2.1,(by rw[<-E.out.2.2.1];omega),(by exact gm.same rfl),Pres3.mono E.out.1.p3 (λk hk D=>⟨by omega,D,rfl⟩)⟩
  ·have O:0<n:=by omega
   clear Z;have b6:(0:Int)<n:=by omega
   have bi:=E.out.1.p3.c;obtain⟨bq,oq,ae,ce,hap,yZ,_,al,aR⟩:=Rows3.at bi 0 (by rw[E.out.2.2.2.2];exact O);obtain⟨g,capg,z,am,aK,aC,aX,b'⟩:=E.out.1.yS 0 (by rw[E.out.2.2.2.2];exact O);obtain⟨rfl,rfl⟩:ay=some ⟨g,0,none⟩/\an=capg:=by cases am;exact⟨rfl,rfl⟩
   have bt:g=bq:=by cases hap;rfl
   have ca:oq=0:=by cases hap;rfl
   clear hap;subst bt ca;rw[Nat.zero_add] at al;have e1:∀w',Near l g w'->w'.cell? ⟨V,2,none⟩=some (.slice (some ⟨g,0,none⟩) n an):=λw' h=>h.cell M.2.2.2.1 (by simp;omega);have e0:∀w',Near l g w'->w'.cell? ⟨V,0,none⟩=some (.slice ag n Y):=λw' h=>h.cell M.2.1 (by simp;omega);have dx:(gt P.conj 0).length<=6:=by rw[HH.out.1.cl 0 (by rw[<-E.out.2.2.1];exact O),<-E.out.2.2.1];omega
   have cg:∀x∈gt P.conj 0,x.length<=1000000:=λx hx=>by have:=HH.out.1.cv _ (gtMem (by rw[E.out.2.2.2.2];exact O)) x hx;omega
   obtain⟨R,hR⟩:∃R,R=gt P.conj 0:=⟨_,rfl⟩;rw[<-hR] at al aR dx cg;have HR:=Lib.hid (And.intro cg hR);clear am cg hR bi aK;have dz:=λw=>run_mk_ints n (by omega) w;go_wp2_with fail
   refine wp_region_held_drew (S:=λw'=>Near l g w') (by kernel_rfl) (Near.of (grown_drew _ _)) (λA => ?_);refine tk 0 ?_;refine tk 1 ?_;refine tk 2 ?_;refine tk 3 ?_;refine tk 4 ?_;refine tk 7 ?_;refine tk 8 ?_;refine tk 9 ?_;have bv:Ext l l.drew:=grown_drew _ _;have X:Ext l (l.alloc (.cells (madeCells #[.int .i64 0] n) 2)).drew:=grown_trans (World.grownBy_alloc _ _ _) (grown_drew _ _);have aJ:Ext l ((l.alloc (.cells (madeCells #[.int .i64 0] n) 2)).alloc (.cells #[.slice (some ⟨l.heap.size,0,none⟩) n n] 24)).drew:=grown_trans (World.grownBy_alloc _ _ _) (grown_trans (World.grownBy_alloc _ _ _) (grown_drew _ _))
   have ar:∀(w':World) (m:Nat),Ext l w'->w'.heap.size=l.heap.size+m->Calls Tryz.prog 213 #[.slice ae R.length ce] w' (λe5 C=>∃a5 c5 vs,e5=.returned (.slice a5 vs.length c5)/\Ext w' C/\Ext l C/\vs.length<=6/\OwnV l.heap.size 24 C (.slice a5 vs.length c5) vs/\(∀k,(Value.slice a5 vs.length c5).ownBlock=some k->l.heap.size+m<=k)/\Hid ((∀i,i<R.length->Ints (λk=>l.heap.size<=k/\(Value.slice a5 vs.length c5).ownBlock≠some k) C (gt vs i) (gt R i))/\vs.length=R.length)):=λw' m hx hm=>by
    refine Calls.mono (l01Own2_ok w' _ R _ (Rows2.ext aR hx) HR.out.1 (by omega)) ?_;rintro e5 C ⟨v5,rfl,H,vs,G,hvl,K,cU,_,dA⟩;have cV:=hx.size;have ak:OwnV l.heap.size 24 C v5 vs:=ownsRow_move K (λk hk=>⟨rfl,Nat.le_trans cV (K.lt k hk).1⟩)
    obtain ⟨a5,c5,rfl⟩:∃a c,v5=.slice a vs.length c:=by
     rcases K.form with⟨h1,h2⟩|⟨g5,lW,h1,_⟩
     ·exact⟨_,_,by rw[h1,h2];rfl⟩
     ·exact⟨_,_,h1⟩
    exact⟨a5,c5,vs,rfl,H,grown_trans hx H,by omega,ak,λk hk=>by have:=(K.lt k hk).1;omega,Lib.hid ⟨λi hi=>Ints.sub (dA i hi).ints (λk hk _=>⟨Nat.le_trans cV (cU i k hi hk).1,(cU i k hi hk).2.1⟩),hvl⟩⟩
   have cW:l.drew.heap.size=l.heap.size+0:=rfl;have ch:(l.alloc (.cells (madeCells #[.int .i64 0] n) 2)).drew.heap.size=l.heap.size+1:=(by simp:(l.alloc (.cells (madeCells #[.int .i64 0] n) 2)).heap.size=l.heap.size+1);have bw:((l.alloc (.cells (madeCells #[.int .i64 0] n) 2)).alloc (.cells #[.slice (some ⟨l.heap.size,0,none⟩) n n] 24)).drew.heap.size=l.heap.size+2:=(by simp:((l.alloc (.cells (madeCells #[.int .i64 0] n) 2)).alloc (.cells #[.slice (some ⟨l.heap.size,0,none⟩) n n] 24)).heap.size=l.heap.size+2);have bp:∀(vs:List Value) (u:Value),(vs++[u]).length=vs.length+1:=λvs u=>by simp
   refine jx 5 10 (λJ q => ?_) (λJ q => ?_)
   focus
    have f2:l.drew.cell? ⟨g,0,none⟩=some (.slice ae R.length ce):=(bv:Ext l l.drew).cell al (by simp);go_simp;refine ko q (Near.of bv) (λA => ?_);clear q J;refine jx 6 10 (λJ q => ?_) (λJ q => ?_)
    focus
     go_simp;go_at_call 213;refine Calls.mono (ar _ 0 bv cW) ?_;rintro e5 C ⟨a5,c5,vs,rfl,H,B,l5,K,kW,aS⟩;go_wp2_with fail
     refine ko q (Near.of B) (λA => ?_);clear q J;refine eu 10 (λJ q => ?_);go_simp;refine ko q (Near.of (grown_trans B (World.grownBy_alloc C (.cells (madeCells #[.int .i64 0] n) 2) none))) (λA => ?_);clear q J;refine eu 11 (λJ q => ?_);go_simp;refine ko q (Near.of (grown_trans (grown_trans B (World.grownBy_alloc C (.cells (madeCells #[.int .i64 0] n) 2) none)) (World.grownBy_alloc (C.alloc (.cells (madeCells #[.int .i64 0] n) 2)) (.cells #[.slice (some ⟨C.heap.size,0,none⟩) n n] 24) none))) (λA => ?_);clear q J;refine eu 12 (λJ q => ?_);have au:Ints (λk=>l.heap.size<=k/\k=C.heap.size) (C.alloc (.cells (madeCells #[.int .i64 0] n) 2)) (.slice (some ⟨C.heap.size,0,none⟩) n n) (List.replicate n 0):=ints_of_own (own_mk_ints n (by omega) C) (by simp;omega) (λk hk=>by have:=own_blk hk;subst this;exact⟨by first|exact Nat.le_refl _|exact B.size,rfl⟩);have hM:Ints (λk=>l.heap.size<=k/\k=C.heap.size) ((C.alloc (.cells (madeCells #[.int .i64 0] n) 2)).alloc (.cells #[.slice (some ⟨C.heap.size,0,none⟩) n n] 24)) (.slice (some ⟨C.heap.size,0,none⟩) n n) (List.replicate n 0):=Ints.ext au (grown_trans (grown_refl _ none) (World.grownBy_alloc (C.alloc (.cells (madeCells #[.int .i64 0] n) 2)) (.cells #[.slice (some ⟨C.heap.size,0,none⟩) n n] 24) none));have W:(C.alloc (.cells (madeCells #[.int .i64 0] n) 2)).heap.size=C.heap.size+1:=by simp
     have av:((C.alloc (.cells (madeCells #[.int .i64 0] n) 2)).alloc (.cells #[.slice (some ⟨C.heap.size,0,none⟩) n n] 24)).cell? ⟨C.heap.size+1,0,none⟩=some (.slice (some ⟨C.heap.size,0,none⟩) n n):=by rw[World.cell?_alloc_at _ _ _ _ W.symm];rfl
     have hu:=av;have aw:Ext l ((C.alloc (.cells (madeCells #[.int .i64 0] n) 2)).alloc (.cells #[.slice (some ⟨C.heap.size,0,none⟩) n n] 24)):=(grown_trans (grown_trans B (World.grownBy_alloc C (.cells (madeCells #[.int .i64 0] n) 2) none)) (World.grownBy_alloc (C.alloc (.cells (madeCells #[.int .i64 0] n) 2)) (.cells #[.slice (some ⟨C.heap.size,0,none⟩) n n] 24) none));have aF:Ext C ((C.alloc (.cells (madeCells #[.int .i64 0] n) 2)).alloc (.cells #[.slice (some ⟨C.heap.size,0,none⟩) n n] 24)):=(grown_trans (grown_trans (grown_refl _ none) (World.grownBy_alloc C (.cells (madeCells #[.int .i64 0] n) 2) none)) (World.grownBy_alloc (C.alloc (.cells (madeCells #[.int .i64 0] n) 2)) (.cells #[.slice (some ⟨C.heap.size,0,none⟩) n n] 24) none))
    rotate_left
    focus
     go_simp;refine ko q (Near.of X) (λA => ?_);clear q J;refine jx 6 11 (λJ q => ?_) (λJ q => ?_)
     focus
      go_simp;go_at_call 213;refine Calls.mono (ar _ 1 X ch) ?_;rintro e5 C ⟨a5,c5,vs,rfl,H,B,l5,K,kW,aS⟩;go_wp2_with fail
      refine ko q (Near.of B) (λA => ?_);clear q J;refine eu 11 (λJ q => ?_);go_simp;refine ko q (Near.of (grown_trans B (World.grownBy_alloc C (.cells #[.slice (some ⟨l.heap.size,0,none⟩) n n] 24) none))) (λA => ?_);clear q J;refine eu 12 (λJ q => ?_);have au:Ints (λk=>l.heap.size<=k/\k=l.heap.size) (l.alloc (.cells (madeCells #[.int .i64 0] n) 2)) (.slice (some ⟨l.heap.size,0,none⟩) n n) (List.replicate n 0):=ints_of_own (own_mk_ints n (by omega) l) (by simp;omega) (λk hk=>by have:=own_blk hk;subst this;exact⟨by first|exact Nat.le_refl _|exact B.size,rfl⟩);have hM:Ints (λk=>l.heap.size<=k/\k=l.heap.size) (C.alloc (.cells #[.slice (some ⟨l.heap.size,0,none⟩) n n] 24)) (.slice (some ⟨l.heap.size,0,none⟩) n n) (List.replicate n 0):=Ints.ext au (grown_trans (grown_trans (grown_trans (grown_refl _ none) (grown_drew (l.alloc (.cells (madeCells #[.int .i64 0] n) 2)) none)) (H)) (World.grownBy_alloc C (.cells #[.slice (some ⟨l.heap.size,0,none⟩) n n] 24) none));have W:C.heap.size=C.heap.size:=rfl;have av:(C.alloc (.cells #[.slice (some ⟨l.heap.size,0,none⟩) n n] 24)).cell? ⟨C.heap.size,0,none⟩=some (.slice (some ⟨l.heap.size,0,none⟩) n n):=by rw[World.cell?_alloc_at _ _ _ _ W.symm];rfl
      have hu:=av;have aw:Ext l (C.alloc (.cells #[.slice (some ⟨l.heap.size,0,none⟩) n n] 24)):=(grown_trans B (World.grownBy_alloc C (.cells #[.slice (some ⟨l.heap.size,0,none⟩) n n] 24) none));have aF:Ext C (C.alloc (.cells #[.slice (some ⟨l.heap.size,0,none⟩) n n] 24)):=(grown_trans (grown_refl _ none) (World.grownBy_alloc C (.cells #[.slice (some ⟨l.heap.size,0,none⟩) n n] 24) none))
     rotate_left
     focus
      go_simp;refine ko q (Near.of aJ) (λA => ?_);clear q J;refine eu 6 (λJ q => ?_);go_simp;go_at_call 213;refine Calls.mono (ar _ 2 aJ bw) ?_;rintro e5 C ⟨a5,c5,vs,rfl,H,B,l5,K,kW,aS⟩;go_wp2_with fail
      refine ko q (Near.of B) (λA => ?_);clear q J;refine eu 12 (λJ q => ?_);have au:Ints (λk=>l.heap.size<=k/\k=l.heap.size) (l.alloc (.cells (madeCells #[.int .i64 0] n) 2)) (.slice (some ⟨l.heap.size,0,none⟩) n n) (List.replicate n 0):=ints_of_own (own_mk_ints n (by omega) l) (by simp;omega) (λk hk=>by have:=own_blk hk;subst this;exact⟨by first|exact Nat.le_refl _|exact B.size,rfl⟩);have hM:Ints (λk=>l.heap.size<=k/\k=l.heap.size) C (.slice (some ⟨l.heap.size,0,none⟩) n n) (List.replicate n 0):=Ints.ext au (grown_trans (grown_trans (grown_trans (grown_refl _ none) (World.grownBy_alloc (l.alloc (.cells (madeCells #[.int .i64 0] n) 2)) (.cells #[.slice (some ⟨l.heap.size,0,none⟩) n n] 24) none)) (grown_drew ((l.alloc (.cells (madeCells #[.int .i64 0] n) 2)).alloc (.cells #[.slice (some ⟨l.heap.size,0,none⟩) n n] 24)) none)) (H));have W:(l.alloc (.cells (madeCells #[.int .i64 0] n) 2)).heap.size=l.heap.size+1:=by simp
      have av:((l.alloc (.cells (madeCells #[.int .i64 0] n) 2)).alloc (.cells #[.slice (some ⟨l.heap.size,0,none⟩) n n] 24)).cell? ⟨l.heap.size+1,0,none⟩=some (.slice (some ⟨l.heap.size,0,none⟩) n n):=by rw[World.cell?_alloc_at _ _ _ _ W.symm];rfl
      have hu:C.cell? ⟨l.heap.size+1,0,none⟩=some (.slice (some ⟨l.heap.size,0,none⟩) n n):=H.cell av (by simp);have aw:Ext l C:=B;have aF:Ext C C:=(grown_refl _ none)
   rotate_left 3
   focus
    go_simp;refine ko q (Near.of X) (λA => ?_);clear q J;refine jx 5 11 (λJ q => ?_) (λJ q => ?_)
    focus
     have f2:(l.alloc (.cells (madeCells #[.int .i64 0] n) 2)).drew.cell? ⟨g,0,none⟩=some (.slice ae R.length ce):=(X:Ext l (l.alloc (.cells (madeCells #[.int .i64 0] n) 2)).drew).cell al (by simp);go_simp;refine ko q (Near.of X) (λA => ?_);clear q J;refine jx 6 11 (λJ q => ?_) (λJ q => ?_)
     focus
      go_simp;go_at_call 213;refine Calls.mono (ar _ 1 X ch) ?_;rintro e5 C ⟨a5,c5,vs,rfl,H,B,l5,K,kW,aS⟩;go_wp2_with fail
      refine ko q (Near.of B) (λA => ?_);clear q J;refine eu 11 (λJ q => ?_);go_simp;refine ko q (Near.of (grown_trans B (World.grownBy_alloc C (.cells #[.slice (some ⟨l.heap.size,0,none⟩) n n] 24) none))) (λA => ?_);clear q J;refine eu 12 (λJ q => ?_);have au:Ints (λk=>l.heap.size<=k/\k=l.heap.size) (l.alloc (.cells (madeCells #[.int .i64 0] n) 2)) (.slice (some ⟨l.heap.size,0,none⟩) n n) (List.replicate n 0):=ints_of_own (own_mk_ints n (by omega) l) (by simp;omega) (λk hk=>by have:=own_blk hk;subst this;exact⟨by first|exact Nat.le_refl _|exact B.size,rfl⟩);have hM:Ints (λk=>l.heap.size<=k/\k=l.heap.size) (C.alloc (.cells #[.slice (some ⟨l.heap.size,0,none⟩) n n] 24)) (.slice (some ⟨l.heap.size,0,none⟩) n n) (List.replicate n 0):=Ints.ext au (grown_trans (grown_trans (grown_trans (grown_refl _ none) (grown_drew (l.alloc (.cells (madeCells #[.int .i64 0] n) 2)) none)) (H)) (World.grownBy_alloc C (.cells #[.slice (some ⟨l.heap.size,0,none⟩) n n] 24) none));have W:C.heap.size=C.heap.size:=rfl;have av:(C.alloc (.cells #[.slice (some ⟨l.heap.size,0,none⟩) n n] 24)).cell? ⟨C.heap.size,0,none⟩=some (.slice (some ⟨l.heap.size,0,none⟩) n n):=by rw[World.cell?_alloc_at _ _ _ _ W.symm];rfl
      have hu:=av;have aw:Ext l (C.alloc (.cells #[.slice (some ⟨l.heap.size,0,none⟩) n n] 24)):=(grown_trans B (World.grownBy_alloc C (.cells #[.slice (some ⟨l.heap.size,0,none⟩) n n] 24) none));have aF:Ext C (C.alloc (.cells #[.slice (some ⟨l.heap.size,0,none⟩) n n] 24)):=(grown_trans (grown_refl _ none) (World.grownBy_alloc C (.cells #[.slice (some ⟨l.heap.size,0,none⟩) n n] 24) none))
     rotate_left
     focus
      go_simp;refine ko q (Near.of aJ) (λA => ?_);clear q J;refine eu 6 (λJ q => ?_);go_simp;go_at_call 213;refine Calls.mono (ar _ 2 aJ bw) ?_;rintro e5 C ⟨a5,c5,vs,rfl,H,B,l5,K,kW,aS⟩;go_wp2_with fail
      refine ko q (Near.of B) (λA => ?_);clear q J;refine eu 12 (λJ q => ?_);have au:Ints (λk=>l.heap.size<=k/\k=l.heap.size) (l.alloc (.cells (madeCells #[.int .i64 0] n) 2)) (.slice (some ⟨l.heap.size,0,none⟩) n n) (List.replicate n 0):=ints_of_own (own_mk_ints n (by omega) l) (by simp;omega) (λk hk=>by have:=own_blk hk;subst this;exact⟨by first|exact Nat.le_refl _|exact B.size,rfl⟩);have hM:Ints (λk=>l.heap.size<=k/\k=l.heap.size) C (.slice (some ⟨l.heap.size,0,none⟩) n n) (List.replicate n 0):=Ints.ext au (grown_trans (grown_trans (grown_trans (grown_refl _ none) (World.grownBy_alloc (l.alloc (.cells (madeCells #[.int .i64 0] n) 2)) (.cells #[.slice (some ⟨l.heap.size,0,none⟩) n n] 24) none)) (grown_drew ((l.alloc (.cells (madeCells #[.int .i64 0] n) 2)).alloc (.cells #[.slice (some ⟨l.heap.size,0,none⟩) n n] 24)) none)) (H));have W:(l.alloc (.cells (madeCells #[.int .i64 0] n) 2)).heap.size=l.heap.size+1:=by simp
      have av:((l.alloc (.cells (madeCells #[.int .i64 0] n) 2)).alloc (.cells #[.slice (some ⟨l.heap.size,0,none⟩) n n] 24)).cell? ⟨l.heap.size+1,0,none⟩=some (.slice (some ⟨l.heap.size,0,none⟩) n n):=by rw[World.cell?_alloc_at _ _ _ _ W.symm];rfl
      have hu:C.cell? ⟨l.heap.size+1,0,none⟩=some (.slice (some ⟨l.heap.size,0,none⟩) n n):=H.cell av (by simp);have aw:Ext l C:=B;have aF:Ext C C:=(grown_refl _ none)
    rotate_left 2
    focus
     go_simp;refine ko q (Near.of aJ) (λA => ?_);clear q J;refine eu 5 (λJ q => ?_);have f2:((l.alloc (.cells (madeCells #[.int .i64 0] n) 2)).alloc (.cells #[.slice (some ⟨l.heap.size,0,none⟩) n n] 24)).drew.cell? ⟨g,0,none⟩=some (.slice ae R.length ce):=(aJ:Ext l ((l.alloc (.cells (madeCells #[.int .i64 0] n) 2)).alloc (.cells #[.slice (some ⟨l.heap.size,0,none⟩) n n] 24)).drew).cell al (by simp);go_simp;refine ko q (Near.of aJ) (λA => ?_);clear q J;refine eu 6 (λJ q => ?_);go_simp;go_at_call 213;refine Calls.mono (ar _ 2 aJ bw) ?_;rintro e5 C ⟨a5,c5,vs,rfl,H,B,l5,K,kW,aS⟩;go_wp2_with fail
     refine ko q (Near.of B) (λA => ?_);clear q J;refine eu 12 (λJ q => ?_);have au:Ints (λk=>l.heap.size<=k/\k=l.heap.size) (l.alloc (.cells (madeCells #[.int .i64 0] n) 2)) (.slice (some ⟨l.heap.size,0,none⟩) n n) (List.replicate n 0):=ints_of_own (own_mk_ints n (by omega) l) (by simp;omega) (λk hk=>by have:=own_blk hk;subst this;exact⟨by first|exact Nat.le_refl _|exact B.size,rfl⟩);have hM:Ints (λk=>l.heap.size<=k/\k=l.heap.size) C (.slice (some ⟨l.heap.size,0,none⟩) n n) (List.replicate n 0):=Ints.ext au (grown_trans (grown_trans (grown_trans (grown_refl _ none) (World.grownBy_alloc (l.alloc (.cells (madeCells #[.int .i64 0] n) 2)) (.cells #[.slice (some ⟨l.heap.size,0,none⟩) n n] 24) none)) (grown_drew ((l.alloc (.cells (madeCells #[.int .i64 0] n) 2)).alloc (.cells #[.slice (some ⟨l.heap.size,0,none⟩) n n] 24)) none)) (H));have W:(l.alloc (.cells (madeCells #[.int .i64 0] n) 2)).heap.size=l.heap.size+1:=by simp
     have av:((l.alloc (.cells (madeCells #[.int .i64 0] n) 2)).alloc (.cells #[.slice (some ⟨l.heap.size,0,none⟩) n n] 24)).cell? ⟨l.heap.size+1,0,none⟩=some (.slice (some ⟨l.heap.size,0,none⟩) n n):=by rw[World.cell?_alloc_at _ _ _ _ W.symm];rfl
     have hu:C.cell? ⟨l.heap.size+1,0,none⟩=some (.slice (some ⟨l.heap.size,0,none⟩) n n):=H.cell av (by simp);have aw:Ext l C:=B;have aF:Ext C C:=(grown_refl _ none)
   all_goals
    have dB:=World.ownsRow.kept K aF (by cases hv:(Value.slice a5 vs.length c5).ownBlock<;>simp);refine yT (by rfl) _ _ (by rfl) l.heap.size _ vs (by rfl) dB _ _ (by rfl) ⟨hu,rfl⟩ (by omega) aw.size ?_;intro v6 w6 ak aq dM;have I:Ext l w6:=grown_own aw aq (λj hj D=>by have:=(K.lt j hj).1;omega);have aV:=yU (L:=R) (y:=List.replicate n 0) ak aS.out.2 (by omega) aS.out.1 aF aq hM (λk hk=>⟨hk.1,λe=>by have h1:=kW k e;have h2:=(K.lt k e).2;omega⟩)
    obtain ⟨a6,c6,bu,_⟩:∃a c,v6=.slice a (vs.length+1) c/\True:=by
     rcases ak.form with⟨h1,h2⟩|⟨g5,lW,h1,_⟩
     ·simp at h2
     ·exact⟨_,_,by rw[h1,bp],trivial⟩
    subst bu;have r1:=I.cell al (by simp);have r2:=(World.frozen?_of_block (a:=⟨g,0,none⟩) (I.block g aX (by simp))).trans b';refine ko q (Near.of I) (λA => ?_);clear q J;refine tk 13 ?_;refine eu 14 (λJ q => ?_);go_simp;refine ko q (Near.store I) (λA => ?_);clear q J;refine wpAnyH_done (by kernel_rfl) ?_ _;clear r1 r2 dz e0 e1 ar bv X aJ bp cW ch bw;have hT:=grown_set1 w6 g 0 (.slice a6 (vs.length+1) c6);have aG:=(M.ext I).moved hT (by omega);have ab:=(N.ext I).moved hT (by omega);have ad:=grown_own (grown_trans T (grown_of_ext (some sb) I)) hT (λj hj D=>by have:=Option.some.inj hj;omega);have aH:=(E.out.2.1.ext I).own hT (λk hk=>by have:=Option.some.inj hk;omega);have aI:=E.out.1.putRow 0 O E.out.2.2.2.2 I aV;have HF:=Lib.hid (And.intro aG (And.intro ab (And.intro ad (And.intro aH aI))));clear aG ab ad aH aI hT aV;go_wp2_with fail
    go_meet;obtain⟨aG,ab,ad,aH,Q7,cX,aI⟩:=HF.out;exact⟨_,_,_,_,_,_,_,_,_,_,aG,ab,ad,aH,(by rw[cX,<-E.out.2.2.1];omega),(gm.same cX),aI.mono (λk hk D=>⟨by rcases hk with hk|hk<;>omega,D,rfl⟩)⟩
 ·go_wp2_with fail
  have bJ:Ext l (l.alloc (.cells #[.int .i64 7,.int .i64 7,.int .i64 7,.int .i64 7] 2)):=World.grownBy_alloc _ _ _;have cY:Ints Any (l.alloc (.cells #[.int .i64 7,.int .i64 7,.int .i64 7,.int .i64 7] 2)) (.slice (some ⟨l.heap.size,0,none⟩) 4 4) [7,7,7,7]:=Ints.sub (fq l [7,7,7,7] (by simp)) (λ_ _ _=>trivial);have cZ:(l.alloc (.cells #[.int .i64 7,.int .i64 7,.int .i64 7,.int .i64 7] 2)).heap.size=l.heap.size+1:=by simp
  refine Calls.mono (l07Trivial_ok _ _ [7,7,7,7] _ cY (by simp)) ?_;rintro e5 C ⟨v5,rfl,H,DZ,D3,D4,rfl,iW⟩;obtain⟨a0,a4,a7,a8,a9,a',rfl,rfl,rfl⟩:=trivX_shape iW;have aP:=grown_trans bJ H;have cP:=aP.size;have bj:=M.ext aP;have aM:=N.ext aP;obtain⟨q0,q1,q2,q3,q4⟩:=id bj;have aT:=grown_set3 C V (.slice a0 4 a4) (.slice a7 4 a8) (.slice a9 4 a');have bK:=bj.all (.slice a0 4 a4) (.slice a7 4 a8) (.slice a9 4 a');have bL:=aM.moved aT (by omega)
  have c0:Pres3 (λk=>w.heap.size+2<=k) (((C.setCell ⟨V,0,none⟩ (.slice a0 4 a4)).setCell ⟨V,1,none⟩ (.slice a7 4 a8)).setCell ⟨V,2,none⟩ (.slice a9 4 a')) (.slice a0 4 a4) (.slice a7 4 a8) (.slice a9 4 a') (trivP [7,7,7,7]):=
   iW.p3.mono (λk hk D=>by
    have hk:(l.alloc (.cells #[.int .i64 7,.int .i64 7,.int .i64 7,.int .i64 7] 2)).heap.size<=k:=hk;exact⟨by omega,Nat.lt_of_lt_of_le D aT.size,aT.block k D (λe=>by have:=Option.some.inj e;omega)⟩)
  clear iW cY cZ H bJ bj aM;have B:=grown_own (grown_trans T (grown_of_ext (some sb) aP)) aT (λj hj D=>by have:=Option.some.inj hj;omega);have bh:=(E.out.2.1.ext aP).own aT (λk hk=>by have:=Option.some.inj hk;omega);have dN:=aT.size;have HF:=Lib.hid (And.intro c0 (And.intro B bh));clear c0 B bh aT;go_wp2_with fail
  generalize ((C.setCell ⟨V,0,none⟩ (.slice a0 4 a4)).setCell ⟨V,1,none⟩ (.slice a7 4 a8)).setCell ⟨V,2,none⟩ (.slice a9 4 a')=w6 at *;refine Calls.mono (l01Next_ok B0 w6 sb 2 HF.out.2.2) ?_;rintro e7 w7 ⟨v7,rfl,ad,y,rfl,_,_,aH⟩;have aG:=bK.moved ad (by omega);have ab:=bL.moved ad (by omega);have bM:=grown_trans HF.out.2.1 ad;have aI:Pres3 (λk=>w.heap.size+2<=k) w7 (.slice a0 4 a4) (.slice a7 4 a8) (.slice a9 4 a') (trivP [7,7,7,7]):=HF.out.1.mono (λk hk D=>⟨hk,Nat.lt_of_lt_of_le D ad.size,ad.block k D (λe=>by have:=Option.some.inj e;omega)⟩);have dO:=ad.size;clear HF bK bL ad;by_cases hy:y=0
  ·have dC:(y == 0)=true:=by simp[hy]
   clear hy;go_wp2_with fail
   have bN:Ext w7 (w7.alloc (.cells #[.int .i64 2,.int .i64 2,.int .i64 2,.int .i64 2,.int .i64 2,.int .i64 2,.int .i64 2] 2)):=World.grownBy_alloc _ _ _;have c4:Ints Any (w7.alloc (.cells #[.int .i64 2,.int .i64 2,.int .i64 2,.int .i64 2,.int .i64 2,.int .i64 2,.int .i64 2] 2)) (.slice (some ⟨w7.heap.size,0,none⟩) 7 7) [2,2,2,2,2,2,2]:=Ints.sub (fq w7 [2,2,2,2,2,2,2] (by simp)) (λ_ _ _=>trivial);have c7:(w7.alloc (.cells #[.int .i64 2,.int .i64 2,.int .i64 2,.int .i64 2,.int .i64 2,.int .i64 2,.int .i64 2] 2)).heap.size=w7.heap.size+1:=by simp
   refine Calls.mono (l07Trivial_ok _ _ [2,2,2,2,2,2,2] _ c4 (by simp)) ?_;rintro e8 w8 ⟨v8,rfl,bk,D5,D6,D7,rfl,p7⟩;obtain⟨bz,bA,bB,bC,bD,bE,rfl,rfl,rfl⟩:=trivX_shape p7;have aQ:=grown_trans bN bk;have dQ:=aQ.size;have bl:=aG.ext aQ;have bO:=ab.ext aQ;obtain⟨q0,q1,q2,q3,q4⟩:=id bl;have ba:=grown_set3 w8 V (.slice bz 7 bA) (.slice bB 7 bC) (.slice bD 7 bE);have bP:=bl.all (.slice bz 7 bA) (.slice bB 7 bC) (.slice bD 7 bE);have bQ:=bO.moved ba (by omega)
   have c8:Pres3 (λk=>w.heap.size+2<=k) (((w8.setCell ⟨V,0,none⟩ (.slice bz 7 bA)).setCell ⟨V,1,none⟩ (.slice bB 7 bC)).setCell ⟨V,2,none⟩ (.slice bD 7 bE)) (.slice bz 7 bA) (.slice bB 7 bC) (.slice bD 7 bE) (trivP [2,2,2,2,2,2,2]):=
    p7.p3.mono (λk hk D=>by
     have hk:(w7.alloc (.cells #[.int .i64 2,.int .i64 2,.int .i64 2,.int .i64 2,.int .i64 2,.int .i64 2,.int .i64 2] 2)).heap.size<=k:=hk;exact⟨by omega,Nat.lt_of_lt_of_le D ba.size,ba.block k D (λe=>by have:=Option.some.inj e;omega)⟩)
   clear p7 c4 c7 bk bN bl bO;have bk:=grown_own (grown_trans bM (grown_of_ext (some sb) aQ)) ba (λj hj D=>by have:=Option.some.inj hj;omega);have c9:=(aH.ext aQ).own ba (λk hk=>by have:=Option.some.inj hk;omega);have HF:=Lib.hid (And.intro c8 (And.intro bk (And.intro c9 (And.intro bP bQ))));clear c8 bk c9 ba bP bQ;go_wp2_with fail
   go_meet;exact⟨_,_,_,_,_,_,_,_,_,_,HF.out.2.2.2.1,HF.out.2.2.2.2,HF.out.2.1,HF.out.2.2.1,by decide,(by exact λh=>absurd h.n6 (by decide)),HF.out.1⟩
  ·have dC:(y == 0)=false:=by simp[hy]
   clear hy;go_wp2_with fail
   go_meet;exact⟨_,_,_,_,_,_,_,_,_,_,aG,ab,bM,aH,by decide,(by exact λh=>absurd h.le729 (by decide)),aI⟩
set_option maxHeartbeats 16000000 in
theorem sY (M:Nat) (w:World) (sb:Nat) (i:Int) (N:M<=w.heap.size) (hs:Src M w sb) :
  Calls Tryz.prog 148 #[.pointer (some ⟨sb,0,none⟩),.int .i64 i] w (Mut w (some sb) (iV M sb (kV 7 (j9 i) w.heap.size))):=by
 have az:=hs.lt;have W:=Box3.made w 28 (.slice none 0 0) (.slice none 0 0) (.slice none 0 0);have O:Ext w (w.alloc (.cells #[.slice none 0 0,.slice none 0 0,.slice none 0 0] 28)):=World.grownBy_alloc _ _ _;have ap:(w.alloc (.cells #[.slice none 0 0,.slice none 0 0,.slice none 0 0] 28)).heap.size=w.heap.size+1:=by simp
 have X:=Lib.hid (hs.ext O);clear hs;go_enter Tryz.func148,Tryz.ntmps148;go_wp2_with fail
 generalize w.alloc (.cells #[.slice none 0 0,.slice none 0 0,.slice none 0 0] 28)=w0 at *;have ar:w.heap.size+1<=w0.heap.size:=by omega
 clear ap;refine Calls.mono (yF M w0 sb i (by omega) X.out) ?_;rintro e1 U ⟨v1,rfl,D,y4,hs1⟩;obtain⟨vo,vp,vc,Q,rfl,V,hQ,sZ⟩:=y4;have P:=Lib.hid sZ;clear sZ;obtain⟨a1,E,c1,a2,F,c2,G,H,c3,rfl,rfl,rfl⟩:=jR.shape ⟨Q,V.pW,hQ⟩;have m:Ext U (U.alloc (.cells #[.slice a1 E c1,.slice a2 F c2,.slice G H c3] 28)):=World.grownBy_alloc _ _ _;have S:=Box3.made U 28 (.slice a1 E c1) (.slice a2 F c2) (.slice G H c3);obtain⟨pb,T⟩:∃pb,pb=U.heap.size:=⟨_,rfl⟩;rw[<-T] at S;have Y:=D.size;have Z:Pres3 (λk=>w0.heap.size<=k/\k≠pb) (U.alloc (.cells #[.slice a1 E c1,.slice a2 F c2,.slice G H c3] 28)) (.slice a1 E c1) (.slice a2 F c2) (.slice G H c3) Q:=hQ.mono (λk hk r=>⟨⟨hk,by omega⟩,Nat.lt_of_lt_of_le r m.size,m.block k r (by simp)⟩);have aa:=W.moved D (by omega);have ab:=aa.ext m;have ac:=hs1.ext m;have I:=grown_trans (grown_of_ext (some sb) O) (grown_trans D (grown_of_ext (some sb) m));have HP:=Lib.hid T;have j:=Lib.hid (And.intro Z (And.intro ac V));clear hQ Z ac hs1 V D W O X aa m;go_wp2_with fail
 rw[<-HP.out];generalize U.alloc (.cells #[.slice a1 E c1,.slice a2 F c2,.slice G H c3] 28)=w2 at *;have aB:w0.heap.size<=pb:=by omega
 clear T HP Y;refine Calls.mono (l01Next_ok M w2 sb 24 j.out.2.1) ?_;rintro e3 w3 ⟨v3,rfl,hg3,x,rfl,_,hx1,ae⟩;have u:=ab.moved hg3 (by omega);have J:=S.moved hg3 (by omega);have nJ:Pres3 (λk=>w0.heap.size<=k/\k≠pb) w3 (.slice a1 E c1) (.slice a2 F c2) (.slice G H c3) Q:=j.out.1.mono (λk hk r=>⟨hk,Nat.lt_of_lt_of_le r hg3.size,hg3.block k r (λe=>by have:=Option.some.inj e;omega)⟩);have b:=grown_trans I hg3;have V:=j.out.2.2;have av:=b.size;have aC:=J.1;have j:=Lib.hid (And.intro nJ (And.intro ae V));clear nJ ae V hg3 S ab I hx1;obtain⟨q0,q1,q2,q3,q4⟩:=id J;by_cases y:x=0
 ·have aq:(x == 0)=true:=by simp[y]
  clear y;go_wp2_with fail
  refine Calls.mono (yX M w3 sb _ Q _ (by omega) j.out.2.1 ⟨_,_,_,rfl,j.out.1⟩ j.out.2.2) ?_;rintro e4 w4 ⟨v4,rfl,hg4,⟨uo,up,uc,R,rfl,z,A,B⟩,C⟩;obtain⟨y1,m1,k1,hy1⟩:∃a n c,uo=.slice a n c:=by obtain⟨a,c,e,_⟩:=A.o.shape;exact⟨_,_,_,e⟩
  obtain⟨y2,m2,k2,hy2⟩:∃a n c,up=.slice a n c:=by obtain⟨a,c,e,_⟩:=Sl.shape A.p;exact⟨_,_,_,e⟩
  obtain⟨y3,m3,k3,iF⟩:∃a n c,uc=.slice a n c:=by obtain⟨a,c,e,_⟩:=Sl.shape A.c;exact⟨_,_,_,e⟩
  subst hy1 hy2 iF;have l:=u.moved hg4 (by omega);have g:=grown_trans b hg4;obtain⟨b0,b1,b2,b3,b4⟩:=id l;have K:=l.all (.slice y1 m1 k1) (.slice y2 m2 k2) (.slice y3 m3 k3);obtain⟨-,z0,z1,z2,-⟩:=id K;have q:=Lib.hid (And.intro g (And.intro C (And.intro A (And.intro z (P.out.le j.out.2.2 B)))));clear K g C A z l hg4 B;go_wp2_with fail
  refine bodyPost_ret (v := .agg #[.slice y1 m1 k1,.slice y2 m2 k2,.slice y3 m3 k3]) (by simp[results,Tryz.results148,go_sem,z0,z1,z2]) rfl ?_;exact iE q.out.1 (br:=w.heap.size) (Nat.le_refl _) (λk hk _=>by have hk:w3.heap.size<=k:=hk;exact⟨by omega,by omega⟩) q.out.2.1 N q.out.2.2.2.1 q.out.2.2.1 q.out.2.2.2.2
 have aq:(x == 0)=false:=by simp[y]
 by_cases L:x=1\/x=2
 ·rcases L with rfl|rfl
  all_goals
   clear y;go_wp2_with fail
   refine Calls.mono (yO M w3 sb _ Q _ (by omega) j.out.2.1 ⟨_,_,_,rfl,j.out.1⟩ j.out.2.2) ?_;rintro e4 w4 ⟨v4,rfl,hg4,⟨uo,up,uc,R,rfl,z,A,B⟩,C⟩;obtain⟨y1,m1,k1,hy1⟩:∃a n c,uo=.slice a n c:=by obtain⟨a,c,e,_⟩:=A.o.shape;exact⟨_,_,_,e⟩
   obtain⟨y2,m2,k2,hy2⟩:∃a n c,up=.slice a n c:=by obtain⟨a,c,e,_⟩:=Sl.shape A.p;exact⟨_,_,_,e⟩
   obtain⟨y3,m3,k3,iF⟩:∃a n c,uc=.slice a n c:=by obtain⟨a,c,e,_⟩:=Sl.shape A.c;exact⟨_,_,_,e⟩
   subst hy1 hy2 iF;have l:=u.moved hg4 (by omega);have g:=grown_trans b hg4;obtain⟨b0,b1,b2,b3,b4⟩:=id l;have K:=l.all (.slice y1 m1 k1) (.slice y2 m2 k2) (.slice y3 m3 k3);obtain⟨-,z0,z1,z2,-⟩:=id K;have q:=Lib.hid (And.intro g (And.intro C (And.intro A (And.intro z (P.out.le j.out.2.2 B)))));clear K g C A z l hg4 B;go_wp2_with fail
   refine bodyPost_ret (v := .agg #[.slice y1 m1 k1,.slice y2 m2 k2,.slice y3 m3 k3]) (by simp[results,Tryz.results148,go_sem,z0,z1,z2]) rfl ?_;exact iE q.out.1 (br:=w.heap.size) (Nat.le_refl _) (λk hk _=>by have hk:w3.heap.size<=k:=hk;exact⟨by omega,by omega⟩) q.out.2.1 N q.out.2.2.2.1 q.out.2.2.1 q.out.2.2.2.2
 ·have ax:(x == 1)=false:=by simp;omega
  have ay:(x == 2)=false:=by simp;omega
  clear L y;obtain⟨b0,b1,b2,b3,b4⟩:=id u;have K:=u.all (.slice a1 E c1) (.slice a2 F c2) (.slice G H c3);obtain⟨-,z0,z1,z2,-⟩:=id K;have q:=Lib.hid b;clear K b u;go_wp2_with fail
  refine bodyPost_ret (v := .agg #[.slice a1 E c1,.slice a2 F c2,.slice G H c3]) (by simp[results,Tryz.results148,go_sem,z0,z1,z2]) rfl ?_;exact iE q.out (br:=w.heap.size) (Nat.le_refl _) (λk hk _=>⟨by omega,by omega⟩) j.out.2.1 N (by have:=j.out.2.2.n6;omega) j.out.1 P.out
end Go.Proofs.YtdcobapnlpeaaaaGreat
namespace Go.Proofs.YtdcobapnlpeaaaaGreat
open Go.RowKit
theorem tab_kept {B gb n W:Nat}{g m:World}{v1 i:Value}{b:List (List Int)}(h:TabAt B (λk=>v1.ownBlock=some k) g gb n b) (p:∀k,v1.ownBlock=some k->W<=k) (q:gb<W)
  (a:g.grownBy m v1.ownBlock) (j:i.ownBlock=v1.ownBlock\/∀k,i.ownBlock=some k->g.heap.size<=k):TabAt B (λk=>i.ownBlock=some k) m gb n b:=by
 refine h.kept a.size (λk hk l=>a.block k hk (λe => ?_)) (λk hk e => ?_)
 ·rcases l with rfl|l
  ·have:=p _ e.symm;omega
  ·exact l e.symm
 ·rcases j with h|h
  ·rw[<-h];exact e
  ·have:=h k e;omega
theorem tab_keptF {B gb n W m:Nat}{g p:World}{v1 i:Value}{b:List (List Int)}(h:TabAt B (λk=>v1.ownBlock=some k\/k<m) g gb n b) (q:∀k,v1.ownBlock=some k->W<=k) (r:gb<W)
  (a:g.grownBy p v1.ownBlock) (j:i.ownBlock=v1.ownBlock\/∀k,i.ownBlock=some k->g.heap.size<=k):TabAt B (λk=>i.ownBlock=some k\/k<m) p gb n b:=by
 refine h.kept a.size (λk hk l=>a.block k hk (λe => ?_)) (λk hk e => ?_)
 ·rcases l with rfl|l
  ·have:=q _ e.symm;omega
  ·exact l (.inl e.symm)
 ·rcases e with e|e
  ·rcases j with h|h
   ·rw[<-h];exact .inl e
   ·have:=h k e;omega
  ·exact .inr e
theorem SlO.shq {bad:Nat->Prop}{B:Nat}{w:World}{v:Value}{xs:List (List Int)}(h:RowsO B w v xs) (a:∀k,bad k->k<B):ShQ bad B w v xs:=by
 obtain⟨e,G,hl,hO,hG,_,g⟩:=h;refine⟨e,hl,QOwn.of hO,λi b=>Ints.sub (g i b).ints (λk hk _ => ?_)⟩;obtain⟨h1,h2,_⟩:=hG i k b hk;exact⟨λh=>by have:=a k h;omega,h2⟩
def HeldB (w0 a:World) (g:Nat) (w':World):Prop:=Ext w0 w'/\w'.heap[g]? = a.heap[g]?
theorem heldB_ext {w0 a w':World}{g:Nat}(b:Ext w0 a) (e:g<a.heap.size) (h:Ext a w'):HeldB w0 a g w':=⟨grown_trans b h,h.block g e (by simp)⟩
theorem HeldB.cell {w0 a w':World}{g i:Nat}{v:Value}(h:HeldB w0 a g w') (b:a.cell? ⟨g,i,none⟩=some v):w'.cell? ⟨g,i,none⟩=some v:=(World.cell?_of_block (w:=a) h.2).trans b
theorem l12CloseF_ok (P:Pr) (G:Grp P) (w:World) (pv lv:Value) (L:List (List Int)) (Sp Sr:Nat->Prop) (cr:PresV Sp w pv P) (hl:Rows2 Sr w lv L) (hL:∀x∈L,Vec P.orders x) (c3:L.length<=10000) :
  Calls Tryz.prog 108 #[pv,lv] w (Ret w λw' v=>ShQ (λk=>k<w.heap.size) w.heap.size w' v (cseq P (genP P (λx=>x∈L)))):=by
 have hP:=G.v;have dm:=hP.n6;obtain⟨vo,vp,vc,rfl,h3⟩:=cr;have bx:=PresP.box h3 28;have aH:Ext w (w.alloc (.cells #[vo,vp,vc] 28)):=World.grownBy_alloc _ _ _;have bz:(w.alloc (.cells #[vo,vp,vc] 28)).heap.size=w.heap.size+1:=by simp
 obtain⟨dn,dI,dG,_,_,hc0,a6,a7,D⟩:=bx.at;simp only[Nat.zero_add] at a6 a7;obtain⟨ao,W,rfl,_,_⟩:=D.o.shape;clear bx;obtain⟨al,capl,rfl,_,_⟩:=Sl.shape hl;have bA:∀x∈L,x.length<=1000000:=λx hx=>by rw[(hL x hx).1];omega
 have HL:=Lib.hid (And.intro hL bA);clear hL bA;go_enter Tryz.func108,Tryz.ntmps108;go_wp2_with (first|(at_make;refine wp_make_tab rfl _ _ rfl w.heap.size P.orders.length (w.heap.size+1) (by simp) _ rfl rfl rfl (by omega) (by omega) ?_;intro C bB bC bD)|fail)
 have HS:=Lib.hid bz;clear bz;generalize cv:w.alloc (.cells #[vo,vp,vc] 28)=w0 at *;clear cv;have bE:=Rows2.ext hl aH;clear hl;have af:w.heap.size+1<C.heap.size:=bD;refine Calls.mono (l01Own2_ok C _ L Sr (Rows2.ext bE bC) HL.out.2 (by omega)) ?_;rintro e2 w2 ⟨a8,rfl,bF,s8⟩;have a9:ShQ (λk=>k=w.heap.size+1) C.heap.size w2 a8 L:=s8.shq (λk hk=>by omega);have aX:=grown_trans bC bF;have a':∀k,a8.ownBlock=some k->C.heap.size<=k:=λk hk=>(a9.lt k hk).1;have bG:TabAt w.heap.size (λk=>a8.ownBlock=some k\/k<w.heap.size) w2 (w.heap.size+1) P.orders.length (List.replicate P.orders.length []):=(bB _).ext bF;clear bB s8 bE;-- facts of the box and the orders
 have bH:∀w',Ext w0 w'->w'.cell? ⟨w.heap.size,0,none⟩=some (.slice ao P.orders.length W)/\w'.cell? ⟨w.heap.size,1,none⟩=some dI/\w'.cell? ⟨w.heap.size,2,none⟩=some dG:=λw' h=>⟨h.cell hc0 (by simp),h.cell a6 (by simp),h.cell a7 (by simp)⟩;have HB:=Lib.hid bH;clear bH hc0 a6 a7;obtain⟨Q,hQ⟩:∃Q:List Int->Prop,Q=λx=>x=zeros P.orders.length\/x∈L.reverse:=⟨_,rfl⟩
 have ag:∃R,AddInv P Q (gt (List.replicate P.orders.length [])) L.reverse R:=by
  rw[hQ];exact⟨_,G.addInv_start G.ind_one (λx hx=>HL.out.1 x (List.mem_reverse.1 hx))⟩
 have bI:genP P Q=genP P (λx=>x∈L):=by
  rw[hQ,genP_one];congr 1
  funext x
  simp
 have bJ:=Lib.hid (And.intro ag bI);clear ag bI hQ;go_wp2
 go_loopg [7] (miss (List.replicate P.orders.length ([]:List Int)) P.orders.length*(P.orders.length+3)+L.length) (λgk qv wr=>∃(b q:List (List Int)),gk<=20000/\gk=miss b P.orders.length*(P.orders.length+3)+q.length/\Ext w0 wr /\
  TabAt w.heap.size (λk=>qv.ownBlock=some k\/k<w.heap.size) wr (w.heap.size+1) P.orders.length b/\ShQ (λk=>k=w.heap.size+1) C.heap.size wr qv q/\Hid (∃R,AddInv P Q (gt b) q.reverse R))
 case atStart=>
  have ba:miss (List.replicate P.orders.length ([]:List Int)) P.orders.length*(P.orders.length+3)+L.length<=20000:=by
   have h3:miss (List.replicate P.orders.length ([]:List Int)) P.orders.length*(P.orders.length+3)<=6*9:=Nat.mul_le_mul (by have:=miss_le (List.replicate P.orders.length ([]:List Int)) P.orders.length;omega) (by omega);omega
  exact⟨_,L,ba,rfl,aX,bG,a9,Lib.hid bJ.out.1⟩
 case round =>
  clear bG a9 a' aX;obtain⟨b,q,hgkb,bb,hg,hT,hq,n⟩:=hrel;have aI:=hT.len;obtain⟨cx,hb2,hb3⟩:=HB.out wr hg
  have cy:q=[]\/∃l y,q=l++[y]:=by
   rcases List.eq_nil_or_concat q with h|⟨l,y,h⟩
   ·exact .inl h
   ·exact .inr ⟨l,y,by rw[h,List.concat_eq_append]⟩
  rcases cy with rfl|⟨l,y,rfl⟩
  ·obtain ⟨aq,capq,rfl,_⟩:=hq.shape
   have cz:w.heap.size<=wr.heap.size:=(grown_trans aH hg).size;have hI:Ind P (genP P Q) (gt b):=by obtain⟨R,n⟩:=n.out;exact G.addInv_end n
   have HI:=Lib.hid hI;clear hI n;go_wp2_with fail
   refine Calls.mono (l12FullF_ok P G wr _ _ b (genP P Q) Any _ ⟨_,_,_,rfl,Pres3.ext D hg⟩ (hT.rows (by omega)) aI HI.out (λk=>k<w.heap.size) (λk hk=>⟨by have:=(grown_trans aH hg).size;omega,λe=>by rcases e with e|e;omega;exact e.2 (.inr hk)⟩)) ?_;rintro eF wF ⟨vF,rfl,cA,bd⟩;rw[bJ.out.2] at bd;obtain⟨aR,D8,rfl,_⟩:=bd.shape;go_wp2;go_ret;exact⟨_,rfl,grown_trans aH (grown_trans hg cA),bd.weak cz⟩
  ·obtain ⟨aq, capq,rfl,_⟩:=hq.shape
   obtain⟨E,aJ⟩:∃E,E=l.length:=⟨_,rfl⟩;obtain⟨gq,off,u,rfl,hgB,hglt,i,aK⟩:=ShQ.head hq l.length (by simp);rw[gt_concat] at aK
   have c7:E<=capq:=by
    obtain⟨vs,hvl,cB,_⟩:=hq;rcases cB with⟨h,_⟩|⟨g,o,cp,cur,hv,_,_,h1,_⟩
    ·simp at h
    ·simp only[Value.slice.injEq] at hv
     obtain⟨_,_,rfl⟩:=hv;simp at hvl;omega
   have bf:=hq.init;rw[<-aJ] at i bf;have bg:(l++[y]).length=E+1:=by simp[aJ]
   obtain⟨m,hm⟩:∃m,m=(l++[y]).length:=⟨_,rfl⟩;rw[<-hm] at bg bb ⊢;have bh:Vec P.orders y:=by obtain⟨R,n⟩:=n.out;exact n.vec _ (n.que _ (by simp))
   have aY:∀d,d<P.orders.length->gt b d≠[]->T P d (gt b d)/\gt (gt b d) d=1:=by obtain⟨R,n⟩:=n.out;exact λd hd h=>(n.tab d hd h).2
   have bL:∃R,AddInv P Q (gt b) (y :: l.reverse) R:=by
    obtain⟨R,n⟩:=n.out;rw[List.reverse_append] at n;exact⟨R,n⟩
   obtain⟨ay,capy,bM,_,_⟩:=aK.shape;rw[bh.1] at bM;subst bM;have HY:=Lib.hid (And.intro bh (And.intro aY (And.intro bL (And.intro aJ bb))));clear bh aY bL n aJ bb;have ds:m<=20000:=by have:=HY.out.2.2.2.2;omega
   have dt:(0:Int)<m:=by omega
   have cD:IntKind.i64.wrap ((m:Int)-1)=(E:Int):=by rw[show(m:Int)-1=(E:Int) by omega];exact IntWalk.i64_in _ (by omega)
   have du:(E:Int)<m:=by omega
   have ba:(0:Int)<=E:=by omega
   have bN:=run_head_rows wr (some ⟨gq,off,none⟩) m capq (E:Int) ba (by omega);rw[show((E:Int)).toNat=E by omega] at bN;have HM:=Lib.hid (And.intro bg hm);clear bg hm;have bO:=hT.rows (by omega);go_wp2_with fail
   refine Calls.mono (l12Strip_ok P G wr _ _ _ b y Any _ _ ⟨_,_,_,rfl,Pres3.ext D hg⟩ bO aK HY.out.1 aI HY.out.2.1) ?_;rintro eS wS ⟨vS,rfl,gu,d,rv,Y,rfl,aL,nK,hdn,p8⟩;have p:=nK.vec.1;have bi:=aL.ints (by rw[p.1];omega)
   have bP:∃R,AddInv P Q (gt b) (Y :: l.reverse) R:=by
    obtain⟨R,n⟩:=HY.out.2.2.1;exact nK.inv _ _ _ n
   obtain⟨ar,capr,bQ,_,_⟩:=bi.shape;rw[p.1] at bQ;subst bQ;have I:=grown_trans hg gu;have bj:=bf.ext gu;have aM:TabAt w.heap.size (λk=>(Value.slice (some ⟨gq,off,none⟩) E capq).ownBlock=some k\/k<w.heap.size) wS (w.heap.size+1) P.orders.length b:=hT.ext gu;have bR:=Lib.hid aI;clear hT hq bf bO aK i bN cD cx hb2 hb3 aI;have bS:=nK.vec;have ai:=Lib.hid (And.intro bP (And.intro bS p));clear bP bS p nK;by_cases hd:d=P.orders.length
   ·have bT:Y=zeros P.orders.length:=T.top hP (by rw[<-hd];exact ai.out.2.1)
    have cE:Hid (∃R,AddInv P Q (gt b) l.reverse R):=by
     obtain⟨R,n⟩:=ai.out.1;exact Lib.hid ⟨R,addInv_drop n bT⟩
    clear p8 bT;subst hd;go_wp2;go_roundg (gk-1)
    case measure=>have:=HY.out.2.2.2.2;omega
    case rel=>exact⟨b,l,by omega,by have:=HY.out.2.2.2.2;have:=HY.out.2.2.2.1;have:=HM.out.1;omega,I,aM,bj,cE⟩
   ·have r : d<P.orders.length:=by omega
    obtain⟨bU,bV⟩:=p8 r;clear p8;have dv:((d:Int) == (P.orders.length:Int))=false:=by simp;omega
    have p:=ai.out.2.2;have ho:=hP.ord7 d r;have bW:=hP.ord d r;have cF:=p.2 d r;obtain⟨br,s9,rfl,_,_,td⟩:=Ints.at bi d (by rw[p.1];exact r);obtain⟨bo,oo,rfl,_,_,dL⟩:=Ints.at (Ints.ext D.o I) d r;have bY:1<=gt Y d:=by omega
    have HD:=Lib.hid (And.intro bV (And.intro bW (And.intro bU hd)));clear bV bW bU hd;have dw:(0:Int)<=d:=by omega
    have c':(d:Int)<P.orders.length:=by omega
    have e1:∀w',Ext wS w'->w'.cell? ⟨w.heap.size,0,none⟩=some (.slice (some ⟨bo,oo,none⟩) P.orders.length W):=λw' h=>(HB.out w' (grown_trans I h)).1;have e2:∀w',Ext wS w'->w'.cell? ⟨w.heap.size,1,none⟩=some dI:=λw' h=>(HB.out w' (grown_trans I h)).2.1;have e3:∀w',Ext wS w'->w'.cell? ⟨w.heap.size,2,none⟩=some dG:=λw' h=>(HB.out w' (grown_trans I h)).2.2;have e4:∀w',Ext wS w'->w'.cell? ⟨br,s9+d,none⟩=some (.int .i64 (gt Y d)):=λw' h=>h.cell td (by simp);have e5:∀w',Ext wS w'->w'.cell? ⟨bo,oo+d,none⟩=some (.int .i64 (gt P.orders d)):=λw' h=>h.cell dL (by simp);clear td dL;go_wp2
    go_region_held3 (λw'=>Ext wS w') (first|exact grown_drew _ _|assumption)
     (first
      | (go_at_call 215;refine Calls.mono (Calls.rel (w0:=wS) (by first|exact grown_drew _ _|assumption) (l01Inv_ok (gt Y d) (gt P.orders d) _ HD.out.2.1 bY cF.2)) ?_;rintro eI wI ⟨vI,rfl,D9,y5,kk,rfl,aZ,hk2',hkk⟩;have HK:=Lib.hid hkk;clear hkk)
      | (go_at_call 106;refine Calls.mono (Calls.rel (w0:=wS) (by assumption) (l10Pow_ok P G _ _ _ Y _ Any Any ⟨_,_,_,rfl,Pres3.ext (Pres3.ext D I) (by assumption)⟩ (Ints.sub (Ints.ext bi (by assumption)) (λ_ _ _=>trivial)) p (by omega))) ?_;rintro eZ wZ ⟨zv,rfl,J,hsZ,aj⟩))
    clear e1 e2 e3 e4 e5;rw[pwZ_nat _ _ _ aZ] at aj;obtain⟨Z,hZ⟩:∃Z,Z=pw P Y kk.toNat:=⟨_,rfl⟩;rw[<-hZ] at aj;have bk:Vec P.orders Z:=by rw[hZ];exact G.pw_vec p _
    have ak:Z.length=P.orders.length:=bk.1;have am:Z≠[]:=λh=>by rw[h] at ak;simp at ak;omega
    have b2:=grown_trans I J;have db:=gu.size
    have aN:Ints (λk=>k≠w.heap.size+1/\¬((Value.slice (some ⟨gq,off,none⟩) E capq).ownBlock=some k\/k<w.heap.size)) wZ zv Z:=ints_of_own aj (by omega) (λk hk=>by
     have h1:=(aj.lt k hk).1;exact⟨by omega,λe=>e.elim (λe=>by have:=own_blk e;omega) (λe=>by omega)⟩)
    obtain⟨az,a,b3,_,_⟩:=aN.shape;rw[ak] at b3;subst b3;obtain⟨b4,K⟩:=(aM.ext J).put d aN am;obtain⟨cI,an⟩:=(aM.ext J).at d r;have cJ:wZ.cell? ⟨w.heap.size+1,d,none⟩=some (.slice none 0 0):=an.elim (λh=>h.2) (λh=>absurd HD.out.1 h.1);have ap:∀(S:Nat->Prop) k,(k≠w.heap.size+1/\S k)->k<wZ.heap.size->(k≠w.heap.size+1/\S k)/\k<(wZ.setCell ⟨w.heap.size+1,d,none⟩ (.slice az P.orders.length a)).heap.size/\(wZ.setCell ⟨w.heap.size+1,d,none⟩ (.slice az P.orders.length a)).heap[k]? = wZ.heap[k]? :=λS k hk ac=>⟨hk,Nat.lt_of_lt_of_le ac K.size,K.block k ac (λe=>hk.1 (by cases e;rfl))⟩;have b5:=Ints.sub (Ints.mono aN (ap _)) (S':=λk=>k≠w.heap.size+1/\¬((Value.slice (some ⟨gq,off,none⟩) E capq).ownBlock=some k)) (λk hk _=>⟨hk.1,λe=>hk.2 (.inl e)⟩)
    have b6:Ints (λk=>k≠w.heap.size+1/\¬((Value.slice (some ⟨gq,off,none⟩) E capq).ownBlock=some k)) (wZ.setCell ⟨w.heap.size+1,d,none⟩ (.slice az P.orders.length a)) (.slice (some ⟨br,s9,none⟩) P.orders.length capr) Y:=Ints.mono (ints_of_own (aL.ext0 J) (by rw[p.1];omega) (λk hk=>by
     have h1:=((aL.ext0 J).lt k hk).1;exact⟨by omega,λe=>by have:=own_blk e;omega⟩)) (ap _)
    have b7:ShQ (λk=>k=w.heap.size+1) C.heap.size (wZ.setCell ⟨w.heap.size+1,d,none⟩ (.slice az P.orders.length a)) (.slice (some ⟨gq,off,none⟩) E capq) l:=(bj.ext J).kept K.size (λj hj hc=>K.block j hj (λe=>by
     have e:=Option.some.inj e;subst e;rcases hc with hc|hc
     ·have:=own_blk hc;omega
     ·exact hc rfl)) (λ_ _ h=>h)
    have a0:Ext w0 (wZ.setCell ⟨w.heap.size+1,d,none⟩ (.slice az P.orders.length a)):=grown_own b2 K (λj hj ac=>by cases hj;have:=HS.out;omega);have M:∀k,(Value.slice (some ⟨gq,off,none⟩) E capq).ownBlock=some k->C.heap.size<=k:=λk hk=>by have:=own_blk hk;omega
    have HZ:=Lib.hid (And.intro hZ (And.intro bk (And.intro ak am)));clear hZ bk ak am an aM bj aj aL aN;have dc:l.length<=20000:=by have:=HY.out.2.2.2.1;omega
    generalize cK:wZ.setCell ⟨w.heap.size+1,d,none⟩ (.slice az P.orders.length a)=w5 at *;have cL:C.heap.size<=w5.heap.size:=by have:=a0.size;have:=K.size;have:=J.size;omega
    go_wp2_with (first|(at_builtin;refine wp_shq_app rfl _ _ rfl (λk=>k=w.heap.size+1) C.heap.size _ _ l Y rfl w5 b7 rfl b6 rfl (by omega) cL ?_;intro v6 w6 aO av bl;have X:=grown_own a0 av (λj hj ac=>by have:=M j hj;have:=HS.out;omega))|fail)
    have b9:=tab_keptF b4 M af av bl;have bm:Ints (λk=>¬(k=w.heap.size+1)/\v6.ownBlock≠some k) w6 (.slice az P.orders.length a) Z:=Ints.mono b5 (q_kept (bad:=λk=>k=w.heap.size+1) av bl);have dz:C.heap.size<=w6.heap.size:=by have:=av.size;omega
    have N:∀k,v6.ownBlock=some k->C.heap.size<=k:=λk hk=>(aO.lt k hk).1;clear cK ap b4 K b5 b6 b7 av bl cI cJ M;have b':Vec P.orders (pw P Z (gt P.orders d).toNat):=G.pw_vec HZ.out.2.1 _;have ca:(pw P Z (gt P.orders d).toNat).length<=6:=by rw[b'.1];omega
    have cb:pwZ P Z (gt P.orders d)=pw P Z (gt P.orders d).toNat:=pwZ_nat _ _ _ (by omega);have cc:=Lib.hid (And.intro ca cb);clear ca cb b';have e1:∀w',Ext w0 w'->w'.cell? ⟨w.heap.size,0,none⟩=some (.slice (some ⟨bo,oo,none⟩) P.orders.length W):=λw' h=>(HB.out w' h).1;have e2:∀w',Ext w0 w'->w'.cell? ⟨w.heap.size,1,none⟩=some dI:=λw' h=>(HB.out w' h).2.1;have e3:∀w',Ext w0 w'->w'.cell? ⟨w.heap.size,2,none⟩=some dG:=λw' h=>(HB.out w' h).2.2;obtain⟨_,_,cd,_,_,dL⟩:=Ints.at D.o d r;have e5:∀w',Ext w0 w'->w'.cell? ⟨bo,oo+d,none⟩=some (.int .i64 (gt P.orders d)):=λw' h=>h.cell (by cases cd;exact dL) (by simp);clear dL cd
    go_region_held3 (λw'=>Ext w0 w') (first|exact grown_trans X (grown_drew _ _)|assumption|exact grown_trans a2 (World.grownBy_alloc _ _ _))
     (first
      | (go_at_call 106;refine Calls.mono (Calls.rel2 (w0:=w6) (grown_drew _ _) (l10Pow_ok P G _ _ _ Z (gt P.orders d) Any _ ⟨_,_,_,rfl,Pres3.ext D (grown_trans X (grown_drew _ _))⟩ (bm.ext (grown_drew _ _)) HZ.out.2.1 (by omega))) ?_;rintro eT wT ⟨vT,rfl,B,Ea,hsT,aP⟩;have a2:=grown_trans X B;rw[cc.out.2] at aP;have bn:Ints (λk=>¬(k=w.heap.size+1)/\v6.ownBlock≠some k) wT vT (pw P Z (gt P.orders d).toNat):=ints_of_own aP (by have:=cc.out.1;omega) (λk hk=>by
        have h1:=(aP.lt k hk).1;have h3:=X.size;exact⟨by omega,λe=>by have:=(aO.lt k e).2;omega⟩);obtain⟨aT,capT,p9,_,_⟩:=bn.shape;subst p9)
      | (refine step_shq_app rfl _ _ rfl (λk=>k=w.heap.size+1) C.heap.size v6 _ (l++[Y]) _ rfl wT (aO.ext B) rfl bn rfl (by simp;omega) (by have:=B.size;omega) ?_;intro v7 w7 bp aw bq;have ce:=grown_own a2 aw (λj hj ac=>by have:=N j hj;have:=HS.out;omega)))
    clear e1 e2 e3 e5;have cN:C.heap.size<=w7.heap.size:=by have:=aw.size;have:=B.size;omega
    have cf:=tab_keptF (b9.ext B) N af aw bq;have cg:Ints (λk=>¬(k=w.heap.size+1)/\v7.ownBlock≠some k) w7 (.slice az P.orders.length a) Z:=Ints.mono (bm.ext B) (q_kept (bad:=λk=>k=w.heap.size+1) aw bq);obtain⟨T1,ax⟩:∃T1,T1=pw P Z (gt P.orders d).toNat:=⟨_,rfl⟩;rw[<-ax] at bp;have cO:=Lib.hid ax;clear ax aO b9 bm N bn aP aw bq;go_wp2
    go_loopw [7,12] (λqv ev aA=>∃(e:Nat) (v8:Value),v8=qv/\ev=.int .i64 e/\e<=P.orders.length/\C.heap.size<=aA.heap.size/\Ext w0 aA/\TabAt w.heap.size (λj=>v8.ownBlock=some j\/j<w.heap.size) aA (w.heap.size+1) P.orders.length (b.set d Z) /\
     ShQ (λk=>k=w.heap.size+1) C.heap.size aA v8 (l++[Y]++[T1]++comsR P b Z e)/\Ints (λj=>¬(j=w.heap.size+1)/\v8.ownBlock≠some j) aA (.slice az P.orders.length a) Z) (λ_ ev _=>P.orders.length-(intOf ev).toNat)
    case atStart=>exact⟨0,v7,rfl,rfl,by omega,cN,ce,cf,by simpa [comsR] using bp,cg⟩
    case round=>
     obtain⟨e,v8,rfl,rfl,he,hs8,F,O,U,ad⟩:=hrel;clear cf bp cg;have V:∀j,v8.ownBlock=some j->C.heap.size<=j:=λj hj=>(U.lt j hj).1;by_cases ch:e<P.orders.length
     ·have dB:(e:Int)<P.orders.length:=by omega
      have dC:(0:Int)<=e:=by omega
      by_cases aB:e=d
      ·have H:comsR P b Z (e+1)=comsR P b Z e:=by simp only[comsR];rw[if_pos (by rw[aB];exact HD.out.1),List.append_nil]
       have cP:((e:Int) != (d:Int))=false:=by simp[aB]
       have HC:=Lib.hid H;clear H aB;go_wp2;go_roundw
       case rel=>exact⟨e+1,v8,rfl,by go_num,by omega,hs8,F,O,by rw[HC.out];exact U,ad⟩
       case measure=>simp[intOf];omega
      ·have cP:((e:Int) != (d:Int))=true:=by simp;omega
       have ci:gt (b.set d Z) e=gt b e:=gt_set_ne _ _ _ _ (λh=>aB h.symm);obtain⟨_,an⟩:=O.at e ch;rw[ci] at an;clear ci aB;rcases an with⟨h0,i⟩|⟨aS,ab,cj,i,cQ⟩
       ·have H:comsR P b Z (e+1)=comsR P b Z e:=by simp only[comsR];rw[if_pos h0,List.append_nil]
        have HC:=Lib.hid H;clear H h0;go_wp2;go_roundw
        case rel=>exact⟨e+1,v8,rfl,by go_num,by omega,hs8,F,O,by rw[HC.out];exact U,ad⟩
        case measure=>simp[intOf];omega
       ·have H:comsR P b Z (e+1)=comsR P b Z e++[comR P Z (gt b e)]:=by simp only[comsR];rw[if_neg aS]
        have aU:=(HY.out.2.1 e ch aS).1.1;have ck:Vec P.orders (comR P Z (gt b e)):=G.mulV (G.invV (G.mulV aU HZ.out.2.1)) (G.mulV HZ.out.2.1 aU)
        have dD:(0:Int)<(gt b e).length:=by
         have:0<(gt b e).length:=List.length_pos_iff.2 aS;omega
        have aV:=comsR_len P b Z e;have HC:=Lib.hid (And.intro H (And.intro aU (And.intro ck aV)));clear H aU ck aV aS;have aa:w.heap.size+1<wr.heap.size:=by have:=O.lt;omega
        go_wp2;have e1:∀w',HeldB w0 wr (w.heap.size+1) w'->w'.cell? ⟨w.heap.size,0,none⟩=some (.slice (some ⟨bo,oo,none⟩) P.orders.length W):=λw' h=>(HB.out w' h.1).1;have e2:∀w',HeldB w0 wr (w.heap.size+1) w'->w'.cell? ⟨w.heap.size,1,none⟩=some dI:=λw' h=>(HB.out w' h.1).2.1;have e3:∀w',HeldB w0 wr (w.heap.size+1) w'->w'.cell? ⟨w.heap.size,2,none⟩=some dG:=λw' h=>(HB.out w' h.1).2.2;have e4:∀w',HeldB w0 wr (w.heap.size+1) w'->w'.cell? ⟨w.heap.size+1,e,none⟩=some (.slice (some ab) (gt b e).length cj):=λw' h=>h.cell i;clear i
        go_region_held3 (λw'=>HeldB w0 wr (w.heap.size+1) w') (first|exact heldB_ext F aa (grown_drew _ _)|assumption|exact heldB_ext F aa A|exact heldB_ext F aa (grown_trans A (World.grownBy_alloc _ _ _)))
         (first
          | (go_at_call 216;refine Calls.mono (Calls.rel2 (w0:=wr) (grown_drew _ _) (l10Comm_ok P G _ _ _ _ Z (gt b e) Any _ _ ⟨_,_,_,rfl,Pres3.ext D (grown_trans F (grown_drew _ _))⟩ (ad.ext (grown_drew _ _)) (Ints.ext cQ (grown_drew _ _)) HZ.out.2.1 HC.out.2.1)) ?_;rintro eC wC ⟨vC,rfl,A,Eb,hsC,bs⟩;have bt:Ints (λk=>¬(k=w.heap.size+1)/\v8.ownBlock≠some k) wC vC (comR P Z (gt b e)):=ints_of_own bs (by rw[HC.out.2.2.1.1];omega) (λk hk=>by
            have h1:=(bs.lt k hk).1;exact⟨by omega,λe=>by have:=(U.lt k e).2;omega⟩);obtain⟨aC,capC,l6,_,_⟩:=bt.shape;subst l6)
          | (refine step_shq_app rfl _ _ rfl (λk=>k=w.heap.size+1) C.heap.size v8 _ (l++[Y]++[T1]++comsR P b Z e) _ rfl wC (U.ext A) rfl bt rfl (by have:=HC.out.2.2.2;simp;omega) (by have:=A.size;omega) ?_;intro v9 w9 cS ae bu;have cT:HeldB w0 wr (w.heap.size+1) w9:=⟨grown_own (grown_trans F A) ae (λj hj ac=>by have:=V j hj;have:=HS.out;omega),(ae.block _ (by have:=A.size;omega) (λe=>by have:=V _ e.symm;omega)).trans (A.block _ aa (by simp))⟩))
        clear e1 e2 e3 e4;have cU:C.heap.size<=w9.heap.size:=by have:=ae.size;have:=A.size;omega
        have cV:=tab_keptF (O.ext A) V af ae bu;have cW:Ints (λk=>¬(k=w.heap.size+1)/\v9.ownBlock≠some k) w9 (.slice az P.orders.length a) Z:=Ints.mono (ad.ext A) (q_kept (bad:=λk=>k=w.heap.size+1) ae bu);clear U O ad ae bu bt bs;go_wp2;go_roundw
        case rel=>exact⟨e+1,v9,rfl,by go_num,by omega,cU,cT.1,cV,by rw[HC.out.1,<-List.append_assoc];exact cS,cW⟩
        case measure=>simp[intOf];omega
     ·have cX:e=P.orders.length:=by omega
      subst cX;have aW:=miss_set (b:=b) (z:=Z) HD.out.1 HZ.out.2.2.2 P.orders.length (by rw[bR.out];exact Nat.le_refl _);rw[if_pos r] at aW;have aV:=comsR_len P b Z P.orders.length;have cm:(l++[Y]++[T1]++comsR P b Z P.orders.length).length<=l.length+2+P.orders.length:=by simp;omega
      have a4:miss b P.orders.length*(P.orders.length+3)=miss (b.set d Z) P.orders.length*(P.orders.length+3)+(P.orders.length+3):=by rw[<-aW,Nat.add_mul,Nat.one_mul]
      have cY:Hid (∃R,AddInv P Q (gt (b.set d Z)) (l++[Y]++[T1]++comsR P b Z P.orders.length).reverse R):=by
       obtain⟨R,n⟩:=ai.out.1
       have ag:=G.close_step (q':=(l++[Y]++[T1]++comsR P b Z P.orders.length).reverse) n r ai.out.2.1 HD.out.1 bR.out kk aZ HK.out (λx=>by
        rw[<-HZ.out.1,<-cO.out];simp only[List.mem_reverse,List.mem_append,List.mem_singleton,or_assoc])
       rw[<-HZ.out.1] at ag;exact Lib.hid ag
      have a5:miss (b.set d Z) P.orders.length*(P.orders.length+3)+(l++[Y]++[T1]++comsR P b Z P.orders.length).length<gk:=by
       have:=HY.out.2.2.2.2;have:=HY.out.2.2.2.1;have:=HM.out.1;omega
      have HX:=Lib.hid (And.intro cm (And.intro a5 (And.intro a4 aW)));clear cm a4 aW a5 aV ad;go_wp2;go_roundg (miss (b.set d Z) P.orders.length*(P.orders.length+3)+(l++[Y]++[T1]++comsR P b Z P.orders.length).length)
      case measure=>exact HX.out.2.1
      case rel=>exact⟨b.set d Z,_,by have:=HX.out.2.1;omega,rfl,F,O,U,cY⟩
theorem l12Close_ok (P:Pr) (G:Grp P) (w:World) (pv b:Value) (L:List (List Int)) (g i:Nat->Prop) (e:PresV g w pv P) (j:Rows2 i w b L) (k:∀x∈L,Vec P.orders x) (a:L.length<=10000) :
  Calls Tryz.prog 108 #[pv,b] w (Ret w λw' v=>Rows2 Any w' v (cseq P (genP P (λx=>x∈L)))):=
 (l12CloseF_ok P G w pv b L g i e j k a).mono (λ_ _ ⟨v,he,hg,h⟩=>⟨v,he,hg,h.rows⟩)
end Go.Proofs.YtdcobapnlpeaaaaGreat
namespace Go.Proofs.YtdcobapnlpeaaaaGreat
theorem flatMap_len' {α b:Type}(l:List α) (f:α->List b) (n:Nat) (h:∀x∈l,(f x).length=n):(l.flatMap f).length=l.length*n:=by
 induction l with
 | nil=>simp
 | cons a l e=>
  rw[List.flatMap_cons,List.length_append,h a (List.mem_cons_self ..),e (λx hx=>h x (List.mem_cons_of_mem _ hx)),List.length_cons,Nat.succ_mul];omega
theorem nodup_sub_len {α:Type} : ∀(l m:List α),l.Nodup->(∀x∈l,x∈m)->l.length<=m.length
 | [],m,_,_=>by simp
 | a :: l,m,hn,e=>by
  obtain⟨g,i,rfl⟩:=List.append_of_mem (e a (List.mem_cons_self ..));have b:=List.nodup_cons.1 hn
  have:=nodup_sub_len l (g++i) b.2 (λx hx=>by
   have h1:=e x (List.mem_cons_of_mem _ hx);rw[List.mem_append,List.mem_cons] at h1;rw[List.mem_append];rcases h1 with h1|h1|h1
   ·exact .inl h1
   ·subst h1;exact absurd hx b.1
   ·exact .inr h1)
  simp only[List.length_append,List.length_cons] at *;omega
section
variable {P:Pr}(G:Grp P)
include G
theorem Grp.num_lt {x:List Int}(hx:Vec P.orders x):(num P x).toNat<(ordP P).toNat/\elAt P ((num P x).toNat:Int)=x:=by
 have a:=num_bd G.v hx;refine⟨by omega,?_⟩;rw[show(((num P x).toNat:Nat):Int)=num P x by omega];exact elAt_num G.v hx
theorem Grp.sub_closed {H:List Int->Prop}(h1:∀x,H x->Vec P.orders x) (j:H (zeros P.orders.length)) (l:∀x y,H x->H y->H (rMul P x y)):Sub P H:=by
 refine⟨h1,j,l,λx hx => ?_⟩;have a:=h1 x hx;obtain⟨M,hM,n⟩:=G.fin P.orders.length 0 x (by omega) (T_zero.2 a)
 have i:∀k,H (pw P x k):=λk=>by
  induction k with
  | zero=>exact j
  | succ k p=>exact l _ _ p hx
 obtain⟨m,rfl⟩:∃m,M=m+1:=⟨M-1,by omega⟩
 have e:rInv P x=pw P x m:=by
  have b:=G.invV a;have g:=G.pw_vec a m;rw[G.pw_succ' a] at n;rw[<-G.grp.er _ b,<-n,<-G.ass b a g,G.inv_mul a,G.grp.el _ g]
 rw[e];exact i m
def extP (P:Pr) (H:List Int->Prop) (x:List Int):List Int->Prop:=genP P (λy=>H y\/y=x)
end
def subLt (P:Pr) (u v:List (List Int)):Prop:=prodU P u u.length<prodU P v v.length\/(prodU P u u.length=prodU P v v.length/\cmpL u.flatten v.flatten<0)
theorem subLt_irrefl {P:Pr}{u:List (List Int)} : ¬subLt P u u:=by
 rintro(h|⟨_,h⟩)
 ·omega
 ·rw[(cmpL_zero _ _).2 rfl] at h;omega
theorem subLt_trans {P:Pr}{u v w:List (List Int)}(h:subLt P u v) (k:subLt P v w):subLt P u w:=by
 unfold subLt at *;rcases h with h|⟨h1,b⟩<;>rcases k with k|⟨g,k2⟩
 ·exact .inl (by omega)
 ·exact .inl (by omega)
 ·exact .inl (by omega)
 ·refine .inr ⟨by omega,?_⟩
  have e:=cmpL_le_trans u.flatten v.flatten w.flatten (by omega) (by omega);rcases Int.lt_or_eq_of_le e with a|a
  ·exact a
  ·rw [cmpL_zero] at a
   rw[a] at b;have:=cmpL_swap w.flatten v.flatten;omega
theorem sorted_one {α:Type}{r:α->α->Prop}(i:∀a,¬r a a) (n:∀a b c,r a b->r b c->r a c):∀ {l m:List α},l.Pairwise r->m.Pairwise r->(∀x,x∈l↔x∈m)->l=m
 | [],[],_,_,_=>rfl
 | [],b :: m,_,_,h=>by have:=(h b).2 (List.mem_cons_self ..);cases this
 | a :: l,[],_,_,h=>by have:=(h a).1 (List.mem_cons_self ..);cases this
 | a :: l,b :: m,hl,hm,h=>by
  have e:=List.pairwise_cons.1 hl;have g:=List.pairwise_cons.1 hm
  have j:a=b:=by
   rcases List.mem_cons.1 ((h a).1 (List.mem_cons_self ..)) with h1|h1
   ·exact h1
   ·rcases List.mem_cons.1 ((h b).2 (List.mem_cons_self ..)) with k|k
    ·exact k.symm
    ·exact absurd (n _ _ _ (e.1 b k) (g.1 a h1)) (i a)
  subst j;congr 1
  refine sorted_one i n e.2 g.2 (λx=>⟨λhx => ?_,λhx => ?_⟩)
  ·rcases List.mem_cons.1 ((h x).1 (List.mem_cons_of_mem _ hx)) with h1|h1
   ·subst h1;exact absurd (e.1 _ hx) (i _)
   ·exact h1
  ·rcases List.mem_cons.1 ((h x).2 (List.mem_cons_of_mem _ hx)) with h1|h1
   ·subst h1;exact absurd (g.1 _ hx) (i _)
   ·exact h1
section
variable {P:Pr}(G:Grp P)
include G
theorem Grp.elAtV {t:Nat}(_ht:t<(ordP P).toNat):Vec P.orders (elAt P t):=elAt_vec G.v _ (by omega)
theorem Grp.ext_sub {H:List Int->Prop}(S:Sub P H) {x:List Int}(hx:Vec P.orders x):Sub P (extP P H x):=
 G.genP_sub (λy h=>h.elim (S.vec y) (λe=>e▸hx))
end
section
variable {P:Pr}(G:Grp P)
include G
end
theorem flatten_inj {α:Type}{n:Nat}(e:0<n):∀ {u v:List (List α)},(∀x∈u,x.length=n)->(∀x∈v,x.length=n)->u.flatten=v.flatten->u=v
 | [],[],_,_,_=>rfl
 | [],b :: v,_,hv,h=>by
  have g:=hv b (List.mem_cons_self ..);have:=congrArg List.length h;simp only[List.flatten_nil,List.length_nil,List.flatten_cons,List.length_append] at this;omega
 | a :: u,[],hu,_,h=>by
  have ha:=hu a (List.mem_cons_self ..);have:=congrArg List.length h;simp only[List.flatten_nil,List.length_nil,List.flatten_cons,List.length_append] at this;omega
 | a :: u,b :: v,hu,hv,h=>by
  have ha:=hu a (List.mem_cons_self ..);have g:=hv b (List.mem_cons_self ..);rw[List.flatten_cons,List.flatten_cons] at h;obtain⟨h1,i⟩:=List.append_inj h (by omega);rw[h1,flatten_inj e (λx hx=>hu x (List.mem_cons_of_mem _ hx)) (λx hx=>hv x (List.mem_cons_of_mem _ hx)) i]
theorem subLt_total {P:Pr}(G:Grp P) {u v:List (List Int)}(b:SubB P u) (e:SubB P v) (a:u≠v) (g:¬subLt P u v):subLt P v u:=by
 unfold subLt at *;by_cases h1:prodU P u u.length=prodU P v v.length
 ·refine .inr ⟨h1.symm,?_⟩
  have k:¬cmpL u.flatten v.flatten<0:=λh=>g (.inr ⟨h1,h⟩)
  have l:cmpL u.flatten v.flatten≠0:=λh=>by
   rw[cmpL_zero] at h;by_cases m:P.orders.length=0
   ·have i:u=[]:=List.eq_nil_of_length_eq_zero (by have:=G.sub_len b;omega)
    have j:v=[]:=List.eq_nil_of_length_eq_zero (by have:=G.sub_len e;omega);exact a (i.trans j.symm)
   ·exact a (flatten_inj (n:=P.orders.length) (by omega) (λx hx=>(b.1 x hx).1) (λx hx=>(e.1 x hx).1) h)
  have:=cmpL_swap u.flatten v.flatten;omega
 ·refine .inl ?_
  have:¬prodU P u u.length<prodU P v v.length:=λh=>g (.inl h);omega
structure Ins (P:Pr) (L:List (List (List Int))) (u:List (List Int)) (k:Nat) (out:List (List (List Int))) (placed:Bool):Prop where
 new:∀j,j<k->gt L j≠u
 no:placed=false->out=L.take k/\∀j,j<k->¬subLt P u (gt L j)
 yes:placed=true->∃p,p<k/\out=L.take p++u :: (L.take k).drop p/\subLt P u (gt L p)/\∀j,j<p->¬subLt P u (gt L j)
theorem ins_end {P:Pr}(G:Grp P) {L:List (List (List Int))}{u:List (List Int)}(D:L.Pairwise (subLt P)) (E:∀v∈L,SubB P v) (F:SubB P u) {out:List (List (List Int))}{placed:Bool}(I:Ins P L u L.length out placed) :
  ∀R,R=(if placed then out else out++[u])->R.Pairwise (subLt P)/\∀v,v∈R↔v∈L\/v=u:=by
 rintro R rfl
 have i:∀v∈L,v≠u:=λv b=>by
  obtain⟨j,k,rfl⟩:=List.getElem_of_mem b;rw[<-gt_eq L j k];exact I.new j k
 cases placed with
 | false=>
  obtain⟨h1,h2⟩:=I.no rfl;rw[List.take_length] at h1;subst h1;rw[if_neg (by decide)];refine⟨List.pairwise_append.2 ⟨D,by simp,λv b w n => ?_⟩,λv=>by rw[List.mem_append,List.mem_singleton]⟩;rw[List.mem_singleton.1 n];obtain⟨j,k,kg⟩:=List.getElem_of_mem b;have g:gt out j=v:=by rw[gt_eq out j k];exact kg
  exact subLt_total G F (E v b) (λe=>i v b e.symm) (by rw[<-g];exact h2 j k)
 | true=>
  obtain⟨p,hp,h1,h2,h3⟩:=I.yes rfl;rw[List.take_length] at h1;rw[if_pos rfl,h1];have q:p<L.length:=hp;have a:L.take p++L.drop p=L:=List.take_append_drop p L;have l:L.drop p=gt L p :: L.drop (p+1):=by rw[List.drop_eq_getElem_cons q,gt_eq L p q]
  have r:=D;rw[<-a] at r;obtain⟨H,z,q3⟩:=List.pairwise_append.1 r
  have A:∀w∈L.drop p,subLt P u w:=λw n=>by
   rw[l] at n z;rcases List.mem_cons.1 n with rfl|m
   ·exact h2
   ·exact subLt_trans h2 ((List.pairwise_cons.1 z).1 w m)
  have B:∀v∈L.take p,subLt P v u:=λv b=>by
   have y:v∈L:=List.mem_of_mem_take b;obtain⟨j,k,kg⟩:=List.getElem_of_mem b;have C:j<p:=by rw[List.length_take] at k;omega
   have g:gt L j=v:=by
    rw[gt_eq L j (by omega),<-kg,List.getElem_take]
   exact subLt_total G F (E v y) (λe=>i v y e.symm) (by rw[<-g];exact h3 j C)
  refine⟨List.pairwise_append.2 ⟨H,List.pairwise_cons.2 ⟨A,z⟩,λv b w n => ?_⟩,λv => ?_⟩
  ·rcases List.mem_cons.1 n with rfl|m
   ·exact B v b
   ·exact q3 v b w m
  ·rw [List.mem_append,List.mem_cons]
   constructor
   ·rintro (h|h|h)
    ·exact .inl (List.mem_of_mem_take h)
    ·exact .inr h
    ·exact .inl (List.mem_of_mem_drop h)
   ·rintro (h|h)
    ·rw [<-a] at h
     exact(List.mem_append.1 h).imp id .inr
    ·exact .inr (.inl h)
end Go.Proofs.YtdcobapnlpeaaaaGreat
