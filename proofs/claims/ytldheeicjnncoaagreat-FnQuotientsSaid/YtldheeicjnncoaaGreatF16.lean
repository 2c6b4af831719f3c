/- Merged from templates. -/
import Derived.Test.YtldheeicjnncoaaGreatF15
import Derived.Deep.CutBlock
set_option maxRecDepth 100000
set_option maxHeartbeats 8000000
namespace Go.Proofs.YtldheeicjnncoaaGreat
open Go.RowKit
attribute [local go_sem ↓] Go.wp_at_zero Go.wp_at_succ
theorem step_app_intH {ops:Array Oper}{o:Oper}{a:Act}{K:Act->World->Prop}{Q:Exit->Act->World->Prop}{k:Prop}{w:World}(i:o.guard=none) (s x:Operand)
  (m:o.op=Op.call { callee:=Callee.builtin Builtin.append,args := #[s,x],argTypes := #[24,24] }) (B:Nat) (v:Value) (l:List Int) (y:Int) (p:a.eval s=v) (e:Own B w v l)
  (H:Nat) (hx:a.eval x=.slice (some ⟨H,0,none⟩) 1 1) (q:w.cell? ⟨H,0,none⟩=some (.int .i64 y)) (j:l.length<=1000000) (b:B<=w.heap.size)
  (h:∀v' w',Own B w' v' (l++[y])->w.grownBy w' v.ownBlock->K (a.put o.dst v') w') :
  if Region.wanted o (yielded ops a.tmps)=true then Oper.wp Tryz.prog o a w K Q else k:=by
 refine step_app 24 2 (.int .i64 0) 8 und_ints Tryz.infoInt rfl (by decide) i s x m B v (l.map (Value.int .i64)) p e.v H (.int .i64 y) hx q rfl (by simpa using (by omega:l.length<=2000000)) b ?_;intro v' w' h1 r _;exact h v' w' (Own.of (by rw[List.map_append];exact h1)) r
theorem PresX.conjOwn {F:Nat->Prop}{w:World}{vo vp vc:Value}{P:Pr}(h:PresX F w vo vp vc P) (i:Nat) (hi:i<P.conj.length) :
  ∃g cap z,vc=.slice (some ⟨g,0,none⟩) P.conj.length cap/\F g/\w.cell? ⟨g,i,none⟩=some z/\g<w.heap.size/\w.frozen? ⟨g,i,none⟩=false:=by
 obtain⟨Fo,Fp,Fc,h1,h2,a,h4,h5,h6⟩:=h;rcases SlI.form a with⟨_,e⟩|⟨g,cap,rfl,hFg,hgl⟩
 ·rw[e] at hi;simp at hi
 obtain⟨⟨z,hz⟩,hf⟩:=SlI.place a i hi;exact⟨g,cap,z,rfl,h6 g hFg,hz,hgl,hf⟩
theorem step_app_rowH {ops:Array Oper}{o:Oper}{a:Act}{K:Act->World->Prop}{Q:Exit->Act->World->Prop}{m:Prop}{w:World}(j:o.guard=none) (s x:Operand)
  (p:o.op=Op.call { callee:=Callee.builtin Builtin.append,args := #[s,x],argTypes := #[25,25] }) (B:Nat) (v:Value) (i:List Value) (q:a.eval s=v) (e:OwnV B 24 w v i)
  (H:Nat) (u:Value) (hx:a.eval x=.slice (some ⟨H,0,none⟩) 1 1) {a1:Option Addr}{r c1:Nat}(k:w.cell? ⟨H,0,none⟩=some u/\u=.slice a1 r c1) (l:i.length<=1000000) (b:B<=w.heap.size)
  (h:∀v' w',OwnV B 24 w' v' (i++[u])->w.grownBy w' v.ownBlock->(v'.ownBlock=v.ownBlock\/v'.ownBlock=some w.heap.size)->K (a.put o.dst v') w') :
  if Region.wanted o (yielded ops a.tmps)=true then Oper.wp Tryz.prog o a w K Q else m:=
 step_app 25 24 (.slice none 0 0) 24 und_rows Tryz.infoRow rfl (by decide) j s x p B v i q e H u hx k.1 (by rw[k.2];rfl) (by omega) b h
theorem rows_app {B:Nat}{z wc q:World}{v5 v6 u:Value}{b:List Value}{L:List (List Int)}{y:List Int}{U:Nat->Prop}(j:OwnV B 24 q v6 (b++[u])) (A:b.length=L.length) (C:L.length<=1000000)
  (hE:∀i,i<L.length->Ints (λk=>B<=k/\v5.ownBlock≠some k) z (gt b i) (gt L i)) (r:Ext z wc) (p:wc.grownBy q v5.ownBlock) (D:Ints U wc u y) (hU:∀k,U k->B<=k/\v5.ownBlock≠some k) :
  Rows2 (λk=>B<=k) q v6 (L++[y]):=by
 have l:=j.lt;rcases j.form with⟨_,h2⟩|⟨g,cap,rfl,hnc,_,_⟩
 ·simp at h2
 refine⟨some ⟨g,0,none⟩,cap,by simp[A],⟨by simp at hnc;simp;omega,by simp;omega,λh=>by cases h⟩,λi hi => ?_⟩
 ·have hi:i<(b++[u]).length:=by simp at hi ⊢;omega
  refine⟨g,0,gt (b++[u]) i,rfl,(l g rfl).1,(l g rfl).2,by rw[Nat.zero_add];exact j.cell i hi,?_⟩;by_cases m:i<b.length
  ·rw [gt_append_left _ _ _ m,gt_append_left _ _ _ (by omega)]
   exact Ints.mono (hE i (by omega)) (λk hk a=>⟨hk.1,Nat.lt_of_lt_of_le a (Nat.le_trans r.size p.size),(p.block k (Nat.lt_of_lt_of_le a r.size) (λe=>hk.2 e.symm)).trans (r.block k a (by simp))⟩)
  ·have w:i=b.length:=by simp at hi;omega
   subst w;rw[gt_concat,A,gt_concat];exact Ints.mono D (λk hk a=>⟨(hU k hk).1,Nat.lt_of_lt_of_le a p.size,p.block k a (λe=>(hU k hk).2 e.symm)⟩)
theorem PresX.putRow {F:Nat->Prop}{w b:World}{vo vp:Value}{P:Pr}{g n cap:Nat}{u:Value}{L:List (List Int)}(h:PresX F w vo vp (.slice (some ⟨g,0,none⟩) n cap) P) (i:Nat) (hi:i<n) (hn:P.conj.length=n) (j:Ext w b) (B:Rows2 (λk=>w.heap.size<=k) b u L) :
  ∃Q:Pr,Q.orders=P.orders/\Pres3 (λk=>F k\/w.heap.size<=k) (b.setCell ⟨g,i,none⟩ u) vo vp (.slice (some ⟨g,0,none⟩) n cap) Q:=by
 obtain⟨Fo,Fp,Fc,h1,C,m,y,z,D⟩:=h
 have l:Fc g:=by
  rcases SlI.form m with⟨e,_⟩|⟨E,c',e,hF,_⟩
  ·cases e
  ·cases e;exact hF
 have G:g<w.heap.size:=by
  rcases SlI.form m with⟨e,_⟩|⟨E,c',e,_,hl⟩
  ·cases e
  ·cases e;exact hl
 have A:=grown_set1 b g i u;have hblk:∀k,k<w.heap.size->k≠g->k<(b.setCell ⟨g,i,none⟩ u).heap.size/\(b.setCell ⟨g,i,none⟩ u).heap[k]? = w.heap[k]? :=λk hk p=>⟨Nat.lt_of_lt_of_le hk (Nat.le_trans j.size A.size),(A.block k (Nat.lt_of_lt_of_le hk j.size) (λe=>p (Option.some.inj e))).trans (j.block k hk (by simp))⟩
 have q:SlI (λF w u (x:List (List Int))=>Rows2 F w u x) 25 (λk=>Fc k/\k<w.heap.size) b (.slice (some ⟨g,0,none⟩) n cap) P.conj:=
  SlI.map (λ_ _ _ _ h=>RowsI.rows h) (rdRows3I.mono m (λk hk a=>⟨⟨hk,a⟩,Nat.lt_of_lt_of_le a j.size,j.block k a (by simp)⟩))
 have r:RdOk (λF w u (x:List (List Int))=>Rows2 F w u x):=⟨λh H=>Rows2.mono h H,λh=>by obtain⟨_,_,rfl,_⟩:=Sl.shape h;rfl⟩;have I:=SlI.putR r q B (λk hk h=>by omega) i;refine⟨⟨P.orders,P.powers,P.conj.set i L⟩,rfl,⟨?_,?_,?_⟩⟩
 ·exact Ints.mono h1.ints (λk hk a=>by
   have h:=hblk k a (λe=>(y k hk).2.2 (e▸l));exact⟨.inl (y k hk).1,h.1,h.2⟩)
 ·exact Rows2.mono (RowsI.rows C) (λk hk a=>by
   have h:=hblk k a (λe=>(z k hk).2 (e▸l));exact⟨.inl (z k hk).1,h.1,h.2⟩)
 ·exact Rows3.sub (S:=λk=>(Fc k/\k<w.heap.size)\/w.heap.size<=k) I (λk hk _=>hk.elim (λh => .inl (D k h.1)) .inr)
def BendCut (l:Pr) (m sb qb:Nat) (w a:World):Prop:=∃(a1:Option Addr) (b c1:Nat) (a2:Option Addr) (e c2:Nat) (i:Option Addr) (j c3:Nat) (Q:Pr),Box3 a qb (.slice a1 b c1) (.slice a2 e c2) (.slice i j c3)/\Box3 a (w.heap.size+1) (.slice none 0 0) (.slice none 0 0) (.slice none 0 0) /\
 w.grownBy a (some sb)/\Src m a sb/\Q.orders.length<=7/\OrdLe l Q/\Pres3 (λk=>w.heap.size+2<=k) a (.slice a1 b c1) (.slice a2 e c2) (.slice i j c3) Q
set_option linter.unusedSimpArgs false in
set_option maxHeartbeats 16000000 in
theorem l07BendL_ok (B0:Nat) (w:World) (sb:Nat) (pv:Value) (P:Pr) (F:Nat->Prop) (di:B0<=w.heap.size) (hs:Src B0 w sb) (hp:PresV F w pv P) (hV:Valid P) :
  Calls Tryz.prog 180 #[.pointer (some ⟨sb,0,none⟩),pv] w (Mut w (some sb) (DrawR B0 sb (PresAL 7 (OrdLe P) w.heap.size))):=by
 have dU:=hs.lt;have hS:=hV.shp;obtain⟨vo,vp,vc,rfl,h3⟩:=hp;obtain⟨ao,co,ez,_,_⟩:=h3.o.shape;obtain⟨ap,cp,am,_,_⟩:=Sl.shape h3.p;obtain⟨ac,cc,cs,_,_⟩:=Sl.shape h3.c;rw[hS.p] at am;rw[hS.c] at cs;subst ez am cs;obtain⟨n,hn⟩:∃n,n=P.orders.length:=⟨_,rfl⟩;rw[<-hn] at h3;rw[<-hn];have dV:n<=6:=by rw[hn];exact hS.n
 have ct:Ext w (w.alloc (.cells #[.slice ao n co,.slice ap n cp,.slice ac n cc] 28)):=World.grownBy_alloc _ _ _;have bT:(w.alloc (.cells #[.slice ao n co,.slice ap n cp,.slice ac n cc] 28)).heap.size=w.heap.size+1:=by simp
 have dk:=Box3.made w 28 (.slice ao n co) (.slice ap n cp) (.slice ac n cc);have HH:=Lib.hid (And.intro hS (And.intro hV (And.intro hn hs)));clear hS hV hn hs;go_enter Tryz.func180,Tryz.ntmps180;go_wp2_with fail
 generalize w.alloc (.cells #[.slice ao n co,.slice ap n cp,.slice ac n cc] 28)=wA at *;have aJ:Ext wA (wA.alloc (.cells #[.slice none 0 0,.slice none 0 0,.slice none 0 0] 28)):=World.grownBy_alloc _ _ _;have bm:=Box3.made wA 28 (.slice none 0 0) (.slice none 0 0) (.slice none 0 0);have bU:=grown_trans ct aJ;have dl:(wA.alloc (.cells #[.slice none 0 0,.slice none 0 0,.slice none 0 0] 28)).heap.size=w.heap.size+2:=by simp[bT]
 rw[bT] at bm;generalize wA.alloc (.cells #[.slice none 0 0,.slice none 0 0,.slice none 0 0] 28)=w0 at *;have dE:w.heap.size+2<=w0.heap.size:=by omega
 clear aJ ct dk bT dl;refine Calls.mono (l07Own_ok w0 _ P F 6 ⟨_,_,_,rfl,h3.mono (frame_of bU (λk hk _=>⟨hk,by simp⟩))⟩ HH.out.1 (by omega)) ?_;rintro e1 w1 ⟨v1,rfl,hg1,qo,qp,qc,rfl,hX1⟩;obtain⟨ag,Y,ax,ah,ay,an,e1,e2,e3⟩:=hX1.shape;rw[HH.out.1.p] at e2;rw[HH.out.1.c] at e3;rw[<-HH.out.2.2.1] at e1 e2 e3;subst e1 e2 e3;obtain⟨qb,bV⟩:∃qb,qb=w1.heap.size:=⟨_,rfl⟩;have aB:Ext w1 (w1.alloc (.cells #[.slice ag n Y,.slice ax n ah,.slice ay n an] 28)):=World.grownBy_alloc _ _ _;have bW:=Box3.made w1 28 (.slice ag n Y) (.slice ax n ah) (.slice ay n an);rw[<-bV] at bW;have dn:=hg1.size;have cw:PresX (λk=>w0.heap.size<=k/\k≠qb) (w1.alloc (.cells #[.slice ag n Y,.slice ax n ah,.slice ay n an] 28)) (.slice ag n Y) (.slice ax n ah) (.slice ay n an) P:=hX1.mono (λk hk D=>⟨⟨hk,by omega⟩,Nat.lt_of_lt_of_le D aB.size,aB.block k D (by simp)⟩);have bd:=grown_trans hg1 aB;have cx:=Lib.hid bV;go_wp2_with fail
 rw[<-cx.out];generalize w1.alloc (.cells #[.slice ag n Y,.slice ax n ah,.slice ay n an] 28)=w2 at *;have dX:w0.heap.size<=qb:=by omega
 clear hX1 hg1 aB bV cx dn;have cy:=bm.ext bd;have be:=grown_trans bU bd;have cz:=HH.out.2.2.2.ext be;clear bm bd bU h3;refine Calls.mono (l01Next_ok B0 w2 sb 6 cz) ?_;rintro e3 l ⟨v3,rfl,bf,x,rfl,_,hx1,cA⟩;have cB:=cw.moved bf (λh=>by omega);have M:=bW.moved bf (by omega);have N:=cy.moved bf (by omega);have V:=grown_trans (grown_of_ext (some sb) be) bf;have hx:=hx1 (by omega);have bn:=HH.out.2.2.1;have cC:P.powers.length=n:=by rw[bn];exact HH.out.2.1.pl
 have cD:P.conj.length=n:=by rw[bn];exact HH.out.2.1.cl
 have dY:qb<l.heap.size:=M.1;have E:=Lib.hid (And.intro cB (And.intro cA (And.intro bn (And.intro cC cD))));clear cw bW cy be cz bf cB cA hx1 bn cC cD;obtain⟨q0,q1,q2,q3,q4⟩:=id M;go_upto_block 0 with fail
 go_cut [] (λwx=>BendCut P B0 sb qb w wx)
 case' rest=>
  obtain⟨a1,n1,c1,a2,n2,c2,a3,n3,c3,Q,nS,lM,cF,cG,cH,cI,cJ⟩:=hcut;clear q0 q1 q2 q3 q4 M N E V;obtain⟨q0,q1,q2,q3,q4⟩:=id nS;obtain⟨b0,b1,b2,b3,b4⟩:=id lM;have hZ:=lM.all (.slice a1 n1 c1) (.slice a2 n2 c2) (.slice a3 n3 c3);obtain⟨-,z0,z1,z2,-⟩:=id hZ;have HF:=Lib.hid (And.intro cF (And.intro cG (And.intro cJ (And.intro cH cI))));clear hZ cF cG cJ cH cI;go_wp2_with fail
  refine bodyPost_ret (v := .agg #[.slice a1 n1 c1,.slice a2 n2 c2,.slice a3 n3 c3]) (by simp[results,Tryz.results180,go_sem,z0,z1,z2]) rfl ?_;exact a_ret HF.out.1 (br:=w.heap.size+1) (by omega) (λk hk _=>⟨by omega,by omega⟩) HF.out.2.1 di HF.out.2.2.2.1 HF.out.2.2.1 HF.out.2.2.2.2
 rcases(show x=0\/x=1\/x=2\/x=3\/x=4\/x=5 by omega) with rfl|rfl|rfl|rfl|rfl|rfl
 all_goals clear hx
 ·obtain ⟨Fo,Fp,Fc,h1,h2,h3,h4,h5,h6⟩:=E.out.1
  have hO:=h1.1;have cL:∀k,(Value.slice ag n Y).ownBlock=some k->(w0.heap.size<=k/\k≠qb)/\¬Fp k/\¬Fc k:=λk hk=>h4 k (h1.2.1 k hk);have dK:l.heap.size<=l.heap.size:=Nat.le_refl _;have HO:=Lib.hid (And.intro cL (And.intro h2 (And.intro h3 (And.intro h5 h6))));clear cL h1 h2 h3 h4 h5 h6;have bo:P.orders.length<=1000000:=by have:=E.out.2.2.1;omega
  have bX:(P.orders++[2]).length=P.orders.length+1:=by simp
  go_wp2_with (first|(at_builtin;refine wp_app_intb rfl _ _ rfl 0 (.slice ag n Y) P.orders 2 rfl l hO rfl rfl bo (Nat.zero_le _) ?_;intro v5 C K H aU;have bY:Box3 C qb (.slice ag n Y) (.slice ax n ah) (.slice ay n an):=M.keep H.size (H.block _ M.1 (λe=>(HO.out.1 qb e.symm).1.2 rfl));have aL:=N.keep H.size (H.block _ N.1 (λe=>by have:=(HO.out.1 _ e.symm).1.1;omega));obtain⟨r0,r1,r2,r3,r4⟩:=id bY;obtain⟨a5,n5,aM,_⟩:=(K.ints (by omega)).shape;rw[bX] at aM;subst aM;have aD:=(bY.put (.slice a5 (P.orders.length+1) n5)).1;have az:=grown_set1 C qb 0 (.slice a5 (P.orders.length+1) n5);have aa:=aL.moved az (by omega);have cM:=Lib.hid (And.intro aD aa);have HF:=Lib.hid (And.intro K (And.intro H (And.intro aU az)));clear K H aU az aa aD bY aL)|fail)
  obtain⟨K,H,aU,az⟩:=HF.out;have I:w.grownBy (C.setCell ⟨qb,0,none⟩ (.slice a5 (P.orders.length+1) n5)) (some sb):=grown_own (grown_own V H (λj hj D=>by have:=(HO.out.1 j hj).1.1;omega)) az (λj hj D=>by have:=Option.some.inj hj;omega);have aN:=(E.out.2.1.own H (λj hj=>by have:=(HO.out.1 j hj).1.1;omega)).own az (λk hk=>by have:=Option.some.inj hk;omega)
  have bZ:Pres3 (λk=>(w0.heap.size<=k/\k≠qb)) (C.setCell ⟨qb,0,none⟩ (.slice a5 (P.orders.length+1) n5)) (.slice a5 (P.orders.length+1) n5) (.slice ax n ah) (.slice ay n an) ⟨P.orders++[2],P.powers,P.conj⟩:=by
   have hblk:∀k,k<l.heap.size->(Value.slice ag n Y).ownBlock≠some k->k≠qb->k<(C.setCell ⟨qb,0,none⟩ (.slice a5 (P.orders.length+1) n5)).heap.size/\(C.setCell ⟨qb,0,none⟩ (.slice a5 (P.orders.length+1) n5)).heap[k]? = l.heap[k]? :=λk hk h1 h2=>
    ⟨Nat.lt_of_lt_of_le hk (Nat.le_trans H.size az.size),(az.block k (Nat.lt_of_lt_of_le hk H.size) (λe=>h2 (Option.some.inj e))).trans (H.block k hk (λe=>h1 e.symm))⟩
   refine⟨?_,?_,?_⟩
   ·have hI:Ints (λk=>w0.heap.size<=k/\k≠qb) C (.slice a5 (P.orders.length+1) n5) (P.orders++[2]):=ints_of_own K (by omega) (λk hk=>by
     rcases aU with e|e
     ·rw[e] at hk;exact(HO.out.1 k hk).1
     ·have:=e k hk;exact⟨by omega,by omega⟩)
    exact Ints.mono hI (λk hk D=>⟨hk,Nat.lt_of_lt_of_le D az.size,az.block k D (λe=>hk.2 (Option.some.inj e))⟩)
   ·exact Rows2.mono (RowsI.rows HO.out.2.1) (λk hk D=>by
     have h5:=HO.out.2.2.2.1 k hk;have h:=hblk k D (λe=>(HO.out.1 k e).2.1 hk) h5.1.2;exact⟨h5.1,h.1,h.2⟩)
   ·exact Rows3.mono (Rows3I.rows HO.out.2.2.1) (λk hk D=>by
     have h5:=HO.out.2.2.2.2 k hk;have h:=hblk k D (λe=>(HO.out.1 k e).2.2 hk) h5.2;exact⟨h5,h.1,h.2⟩)
  try go_meet
  exact⟨_,_,_,_,_,_,_,_,_,_,cM.out.1,cM.out.2,I,aN,(by simp;have:=E.out.2.2.1;omega),(by exact λh=>absurd h.pl (by show ¬P.powers.length=(P.orders++[2]).length;rw[E.out.2.2.2.1,List.length_append,<-E.out.2.2.1,List.length_singleton];omega)),bZ.mono (λk hk D=>⟨by omega,D,rfl⟩)⟩
 ·by_cases Z:n=0
  ·have b5:decide (0<n)=false:=by simp[Z]
   clear Z;go_wp2_with fail
   try go_wp2_with fail
   go_meet;exact⟨_,_,_,_,_,_,_,_,_,_,M,N,V,E.out.2.1,(by rw[<-E.out.2.2.1];omega),(by exact OrdLe.same rfl),Pres3.mono E.out.1.p3 (λk hk D=>⟨by omega,D,rfl⟩)⟩
  ·have O:0<n:=by omega
   clear Z;obtain⟨Fo,Fp,Fc,h1,h2,h3,h4,h5,h6⟩:=E.out.1;have hO:=h1.1;obtain⟨g,capg,ez,_,aX⟩:=hO.form (by rw[<-E.out.2.2.1];exact O);obtain⟨rfl,rfl⟩:ag=some ⟨g,0,none⟩/\Y=capg:=by cases ez;exact⟨rfl,rfl⟩
   clear ez;have cN:=h1.2.1 g rfl;have bp:=h4 g cN;have aJ:w0.heap.size<=g:=bp.1.1;have aB:g≠qb:=bp.1.2;have b6:=hO.cell 0 (by rw[<-E.out.2.2.1];exact O);have cO:=hO.frozen 0;generalize gt P.orders 0=oz at b6;have HO:=Lib.hid (And.intro hO (And.intro h2 (And.intro h3 (And.intro h5 (And.intro h6 bp)))));clear h1 h2 h3 h4 h5 h6 hO bp cN;have e0:∀w',NearS l sb g w'->w'.cell? ⟨qb,0,none⟩=some (.slice (some ⟨g,0,none⟩) n Y):=λw' h=>h.cell M.2.1 (by simp;omega) (by simp;omega);have hL:=ints_litL l.drew [4,1,11,0,-2] (by simp);have cP:∀y∈([4,1,11,0,-2]:List Int),-2<=y:=by simp
   have HL:=Lib.hid (And.intro hL cP);clear hL cP;have b7:(0:Int)<n:=by omega
   go_wp2_with fail
   go_region_held3 (λw'=>NearS l sb g w') (first|exact NearS.ext (grown_drew _ _)|exact NearS.ext (grown_trans (grown_drew _ _) (World.grownBy_alloc _ _ _))|exact NearS.of (by assumption)|exact NearS.two H (grown_set1 _ _ _ _)|assumption)
    (first
     | (go_at_call 182;refine Calls.mono (l01Pick_ok B0 _ sb _ [4,1,11,0,-2] _ (E.out.2.1.ext (grown_trans (grown_drew _ _) (World.grownBy_alloc _ _ _))) HL.out.1 (λk hk=>by have hk:k=l.heap.size:=hk;omega) (by simp) (by simp)) ?_;rintro e5 C ⟨v5,rfl,bG,i,hi,rfl,bg⟩;have H:l.grownBy C (some sb):=grown_trans (grown_of_ext (some sb) (grown_trans (grown_drew _ _) (World.grownBy_alloc _ _ _))) bG;have aE:=H.cell b6 (by simp;omega);have dq:=(World.frozen?_of_block (a:=⟨g,0,none⟩) (H.block g aX (λe=>by have:=Option.some.inj e;omega))).trans cO))
   have cQ:=H.size;have hT:=grown_set1 C g 0 (.int .i64 (gt [4,1,11,0,-2] i));have aD:=(M.moved H (by omega)).moved hT (by omega);have aa:=(N.moved H (by omega)).moved hT (by omega);have aq:=grown_own (grown_trans V H) hT (λj hj D=>by have:=Option.some.inj hj;omega);have aN:=bg.own hT (λk hk=>by have:=Option.some.inj hk;omega);have K:Own 0 C (.slice (some ⟨g,0,none⟩) n Y) P.orders:=HO.out.1.kept H (.inr (λe=>by have:=own_blk e;omega));have ak:=(K.store 0 (gt [4,1,11,0,-2] i)).1
   have bZ:Pres3 (λk=>(w0.heap.size<=k/\k≠qb)) (C.setCell ⟨g,0,none⟩ (.int .i64 (gt [4,1,11,0,-2] i))) (.slice (some ⟨g,0,none⟩) n Y) (.slice ax n ah) (.slice ay n an) ⟨P.orders.set 0 (gt [4,1,11,0,-2] i),P.powers,P.conj⟩:=by
    have hblk:∀k,k<l.heap.size->g≠k->(w0.heap.size<=k/\k≠qb)->k<(C.setCell ⟨g,0,none⟩ (.int .i64 (gt [4,1,11,0,-2] i))).heap.size/\(C.setCell ⟨g,0,none⟩ (.int .i64 (gt [4,1,11,0,-2] i))).heap[k]? = l.heap[k]? :=λk hk h1 h2=>
     ⟨Nat.lt_of_lt_of_le hk (Nat.le_trans H.size hT.size),(hT.block k (Nat.lt_of_lt_of_le hk H.size) (λe=>h1 (Option.some.inj e).symm)).trans (H.block k hk (λe=>by have:=Option.some.inj e;omega))⟩
    refine⟨?_,?_,?_⟩
    ·exact ints_of_own ak (by rw[List.length_set,<-E.out.2.2.1];omega) (λk hk=>by have:=own_blk hk;subst this;exact⟨aJ,aB⟩)
    ·exact Rows2.mono (RowsI.rows HO.out.2.1) (λk hk D=>by
      have h5:=HO.out.2.2.2.1 k hk;have h:=hblk k D (λe=>HO.out.2.2.2.2.2.2.1 (e▸hk)) h5.1;exact⟨h5.1,h.1,h.2⟩)
    ·exact Rows3.mono (Rows3I.rows HO.out.2.2.1) (λk hk D=>by
      have h5:=HO.out.2.2.2.2.1 k hk;have h:=hblk k D (λe=>HO.out.2.2.2.2.2.2.2 (e▸hk)) h5;exact⟨h5,h.1,h.2⟩)
   clear aE dq e0 hT ak bg bG H M N V q0 q1 q2 q3 q4 b6 cO;have bH:(P.orders.set 0 (gt [4,1,11,0,-2] i)).length<=7:=by rw[List.length_set,<-E.out.2.2.1];omega
   have cR:OrdLe P ⟨P.orders.set 0 (gt [4,1,11,0,-2] i),P.powers,P.conj⟩:=λh=>by
    have h1:gt (P.orders.set 0 (gt [4,1,11,0,-2] i)) 0=2\/gt (P.orders.set 0 (gt [4,1,11,0,-2] i)) 0=3\/gt (P.orders.set 0 (gt [4,1,11,0,-2] i)) 0=5\/gt (P.orders.set 0 (gt [4,1,11,0,-2] i)) 0=7:=h.ord 0 (by show 0<(P.orders.set 0 _).length;rw[List.length_set,<-E.out.2.2.1];exact O);exfalso
    rw[gt_set_eq _ _ _ (by rw[<-E.out.2.2.1];exact O)] at h1;have eb:i<5:=hi;obtain rfl|rfl|rfl|rfl|rfl:i=0\/i=1\/i=2\/i=3\/i=4:=by omega
    all_goals simp[gt] at h1
   have bI:=Lib.hid (And.intro bH cR);clear bH cR;generalize C.setCell ⟨g,0,none⟩ (.int .i64 (gt [4,1,11,0,-2] i))=w6 at *;try go_wp2_with fail
   go_meet;exact⟨_,_,_,_,_,_,_,_,_,_,aD,aa,aq,aN,bI.out.1,bI.out.2,Pres3.mono bZ (λk hk D=>⟨by omega,D,rfl⟩)⟩
 ·by_cases Z:n=0
  ·have b5:decide (0<n)=false:=by simp[Z]
   clear Z;go_wp2_with fail
   try go_wp2_with fail
   go_meet;exact⟨_,_,_,_,_,_,_,_,_,_,M,N,V,E.out.2.1,(by rw[<-E.out.2.2.1];omega),(by exact OrdLe.same rfl),Pres3.mono E.out.1.p3 (λk hk D=>⟨by omega,D,rfl⟩)⟩
  ·have O:0<n:=by omega
   clear Z;have b7:(0:Int)<n:=by omega
   have bh:=E.out.1.p3.p;obtain⟨bq,oq,ae,ce,hap,hbF,_,al,aR⟩:=Rows2.at bh 0 (by rw[E.out.2.2.2.1];exact O);obtain⟨g,capg,z,am,⟨aJ,aB⟩,aX,b9,b',_⟩:=E.out.1.putP 0 (by rw[E.out.2.2.2.1];exact O) (U:=λ_=>False) (y:=[]) (u := .slice none 0 0) ⟨none,0,rfl,⟨by simp,by simp,λ_=>rfl⟩,λi hi=>by simp at hi⟩ (λ_ h=>h.elim);obtain⟨rfl,rfl⟩:ax=some ⟨g,0,none⟩/\ah=capg:=by cases am;exact⟨rfl,rfl⟩
   have bt:g=bq:=by cases hap;rfl
   have ca:oq=0:=by cases hap;rfl
   clear hap;subst bt ca;rw[Nat.zero_add] at al;have ds:(gt P.powers 0).length<=6:=HH.out.1.pv _ (gtMem (by rw[E.out.2.2.2.1];exact O));obtain⟨e,he⟩:∃e,e=gt P.powers 0:=⟨_,rfl⟩;rw[<-he] at al aR ds;clear am he b9 bh;have dt:=M.ext (grown_drew _ none);obtain⟨d0,d1,d2,d3,d4⟩:=id dt;have f1:l.drew.cell? ⟨g,0,none⟩=some (.slice ae e.length ce):=al;have bX:(e++[(0:Int)]).length=e.length+1:=by simp
   go_wp2_with fail
   have e1:∀w',Near l g w'->w'.cell? ⟨qb,1,none⟩=some (.slice (some ⟨g,0,none⟩) n ah):=λw' h=>h.cell M.2.2.1 (by simp;omega);refine wp_region_held_drew (S:=λw'=>Near l g w') (by kernel_rfl) (Near.of (grown_drew _ _)) (λA => ?_);refine tk 0 ?_;refine tk 1 ?_;refine tk 2 ?_;refine tk 3 ?_;refine tk 4 ?_;have X:Ext l (l.alloc (.cells #[.int .i64 0] 2)).drew:=grown_trans (World.grownBy_alloc _ _ _) (grown_drew _ _);refine rd2 5 7 (λJ q => ?_) (λJ q => ?_)
   focus
    go_simp;refine ko q (by assumption) (λA => ?_);clear q J;refine rd2 6 7 (λJ q => ?_) (λJ q => ?_)
    focus
     go_simp;go_at_call 86;refine Calls.mono (l01Own_ok l.drew _ e _ (aR.ext (grown_drew _ _)) (by omega)) ?_;rintro e5 C ⟨v5,rfl,H,jA⟩;have B:Ext l C:=grown_trans (grown_drew _ _) H;have K:Own l.heap.size C v5 e:=jA;obtain⟨a5,c5,aM,_⟩:=(K.ints (by omega)).shape;subst aM;go_wp2_with fail
     refine ko q (Near.of B) (λA => ?_);clear q J;refine rd1 7 (λJ q => ?_);go_simp;refine ko q (Near.of (grown_trans B (World.grownBy_alloc _ _ _))) (λA => ?_);clear q J;refine rd1 8 (λJ q => ?_);refine step_app_int (by rfl) _ _ (by rfl) l.heap.size _ e 0 (by rfl) C K (by rfl) (by rfl) (by omega) B.size ?_
    rotate_left
    focus
     go_simp;refine ko q (Near.of X) (λA => ?_);clear q J;refine rd1 6 (λJ q => ?_);go_simp;go_at_call 86;refine Calls.mono (l01Own_ok (l.alloc (.cells #[.int .i64 0] 2)).drew _ e _ (aR.ext X) (by omega)) ?_;rintro e5 C ⟨v5,rfl,H,jA⟩;have B:Ext l C:=grown_trans X H;have du:(l.alloc (.cells #[.int .i64 0] 2)).drew.heap.size=l.heap.size+1:=(by simp:(l.alloc (.cells #[.int .i64 0] 2)).heap.size=l.heap.size+1);have K:Own l.heap.size C v5 e:=jA.weak (by omega);have cb:(l.alloc (.cells #[.int .i64 0] 2)).drew.cell? ⟨l.heap.size,0,none⟩=some (.int .i64 0):=(by rw[World.cell?_alloc_at _ _ _ _ rfl];rfl:(l.alloc (.cells #[.int .i64 0] 2)).cell? ⟨l.heap.size,0,none⟩=some (.int .i64 0));have cf:=H.cell cb (by simp);obtain⟨a5,c5,aM,_⟩:=(K.ints (by omega)).shape;subst aM;go_wp2_with fail
     refine ko q (Near.of B) (λA => ?_);clear q J;refine rd1 8 (λJ q => ?_);refine step_app_intH (by rfl) _ _ (by rfl) l.heap.size _ e 0 (by rfl) K l.heap.size (by rfl) cf (by omega) B.size ?_
   rotate_left 2
   focus
    go_simp;refine ko q (Near.of X) (λA => ?_);clear q J;refine rd1 5 (λJ q => ?_);have f2:(l.alloc (.cells #[.int .i64 0] 2)).drew.cell? ⟨g,0,none⟩=some (.slice ae e.length ce):=(X:Ext l (l.alloc (.cells #[.int .i64 0] 2)).drew).cell al (by simp);go_simp;refine ko q (by assumption) (λA => ?_);clear q J;refine rd1 6 (λJ q => ?_);go_simp;go_at_call 86;refine Calls.mono (l01Own_ok (l.alloc (.cells #[.int .i64 0] 2)).drew _ e _ (aR.ext X) (by omega)) ?_;rintro e5 C ⟨v5,rfl,H,jA⟩;have B:Ext l C:=grown_trans X H;have du:(l.alloc (.cells #[.int .i64 0] 2)).drew.heap.size=l.heap.size+1:=(by simp:(l.alloc (.cells #[.int .i64 0] 2)).heap.size=l.heap.size+1);have K:Own l.heap.size C v5 e:=jA.weak (by omega);have cb:(l.alloc (.cells #[.int .i64 0] 2)).drew.cell? ⟨l.heap.size,0,none⟩=some (.int .i64 0):=(by rw[World.cell?_alloc_at _ _ _ _ rfl];rfl:(l.alloc (.cells #[.int .i64 0] 2)).cell? ⟨l.heap.size,0,none⟩=some (.int .i64 0));have cf:=H.cell cb (by simp);obtain⟨a5,c5,aM,_⟩:=(K.ints (by omega)).shape;subst aM;go_wp2_with fail
    refine ko q (Near.of B) (λA => ?_);clear q J;refine rd1 8 (λJ q => ?_);refine step_app_intH (by rfl) _ _ (by rfl) l.heap.size _ e 0 (by rfl) K l.heap.size (by rfl) cf (by omega) B.size ?_
   all_goals
    intro v6 w6 ak aq;have I:Ext l w6:=grown_own B aq (λj hj D=>by have:=(K.lt j hj).1;omega);obtain⟨a6,c6,bu,_⟩:=(ak.ints (by simp;omega)).shape;rw[bX] at bu;subst bu;have r1:=I.cell al (by simp);have r2:=(World.frozen?_of_block (a:=⟨g,0,none⟩) (I.block g aX (by simp))).trans b';refine ko q (Near.of I) (λA => ?_);clear q J;refine tk 9 ?_;refine rd1 10 (λJ q => ?_);go_simp;refine ko q (Near.store I) (λA => ?_);clear q J;refine wpAnyH_done (by kernel_rfl) ?_ _;have hT:=grown_set1 w6 g 0 (.slice a6 (e.length+1) c6);have aF:=(M.ext I).moved hT (by omega);have ab:=(N.ext I).moved hT (by omega);have ad:=grown_own (grown_trans V (grown_of_ext (some sb) I)) hT (λj hj D=>by have:=Option.some.inj hj;omega);have aG:=(E.out.2.1.ext I).own hT (λk hk=>by have:=Option.some.inj hk;omega);have cS:PresX (λk=>w0.heap.size<=k/\k≠qb/\k<l.heap.size) w6 (.slice ag n Y) (.slice (some ⟨g,0,none⟩) n ah) (.slice ay n an) P:=E.out.1.mono (λk hk D=>⟨⟨hk.1,hk.2,D⟩,Nat.lt_of_lt_of_le D I.size,I.block k D (by simp)⟩);have cT:Ints (λk=>l.heap.size<=k) w6 (.slice a6 (e.length+1) c6) (e++[0]):=ints_of_own ak (by omega) (λk hk=>(ak.lt k hk).1);obtain⟨g',_,_,he1,_,_,_,_,aH⟩:=cS.putP 0 (by rw[E.out.2.2.2.1];exact O) cT (λk hk h=>by omega);have cU:g'=g:=by simp only[Value.slice.injEq,Option.some.injEq,Addr.mk.injEq] at he1;exact he1.1.1.symm
    rw[cU] at aH;clear he1 cU;clear X hT cS cT ak K r1 r2;go_wp2_with fail
    go_meet;exact⟨_,_,_,_,_,_,_,_,_,_,aF,ab,ad,aG,(by show P.orders.length<=7;rw[<-E.out.2.2.1];omega),(by exact OrdLe.same rfl),aH.mono (λk hk D=>⟨by rcases hk with hk|hk<;>omega,D,rfl⟩)⟩
 ·by_cases Z:n=0
  ·have b5:decide (0<n)=false:=by simp[Z]
   clear Z;go_wp2_with fail
   try go_wp2_with fail
   go_meet;exact⟨_,_,_,_,_,_,_,_,_,_,M,N,V,E.out.2.1,(by rw[<-E.out.2.2.1];omega),(by exact OrdLe.same rfl),Pres3.mono E.out.1.p3 (λk hk D=>⟨by omega,D,rfl⟩)⟩
  ·have O:0<n:=by omega
   clear Z;have b7:(0:Int)<n:=by omega
   have cg:(gt P.powers 0).length=n:=by rw[E.out.2.2.1];exact(HH.out.2.1.pv 0 (by rw[<-E.out.2.2.1];exact O)).1.1
   obtain⟨g,capg,b,capb,am,⟨aJ,aB⟩,aX,b9,⟨bm,hbq⟩,bt,hbl,dv,hst⟩:=E.out.1.openPIm (r:=sb) 0 0 (by rw[E.out.2.2.2.1];exact O) (by rw[cg];exact O) (λh=>by omega);obtain⟨rfl,rfl⟩:ax=some ⟨g,0,none⟩/\ah=capg:=by cases am;exact⟨rfl,rfl⟩
   clear am;rw[cg] at b9;obtain⟨ed,aZ⟩:=hst l (grown_refl _ _);have aZ:=aZ 1;have hT:=grown_set1 l b 0 (.int .i64 1);have aD:=M.moved hT (by omega);have aa:=N.moved hT (by omega);have aq:=grown_own V hT (λj hj D=>by have:=Option.some.inj hj;omega);have aN:=E.out.2.1.own hT (λk hk=>by have:=Option.some.inj hk;omega);generalize gt (gt P.powers 0) 0=oz at dv;have dw:=Lib.hid (And.intro aZ (And.intro aD (And.intro aa (And.intro aq aN))));clear aZ aD aa aq aN hT hst cg;go_wp2_with fail
   go_meet;obtain⟨aZ,aD,aa,aq,aN⟩:=dw.out;exact⟨_,_,_,_,_,_,_,_,_,_,aD,aa,aq,aN,(by show P.orders.length<=7;rw[<-E.out.2.2.1];omega),(by exact OrdLe.same rfl),aZ.p3.mono (λk hk D=>⟨by rcases hk with hk|hk<;>omega,D,rfl⟩)⟩
 ·by_cases Z:n=0
  ·have b5:decide (0<n)=false:=by simp[Z]
   clear Z;go_wp2_with fail
   try go_wp2_with fail
   go_meet;exact⟨_,_,_,_,_,_,_,_,_,_,M,N,V,E.out.2.1,(by rw[<-E.out.2.2.1];omega),(by exact OrdLe.same rfl),Pres3.mono E.out.1.p3 (λk hk D=>⟨by omega,D,rfl⟩)⟩
  ·have O:0<n:=by omega
   clear Z;have b7:(0:Int)<n:=by omega
   have bh:=E.out.1.p3.c;obtain⟨bq,oq,ae,ce,hap,hbF,_,al,aR⟩:=Rows3.at bh 0 (by rw[E.out.2.2.2.2];exact O);obtain⟨g,capg,z,am,aJ,aB,aX,b'⟩:=E.out.1.conjOwn 0 (by rw[E.out.2.2.2.2];exact O);obtain⟨rfl,rfl⟩:ay=some ⟨g,0,none⟩/\an=capg:=by cases am;exact⟨rfl,rfl⟩
   have bt:g=bq:=by cases hap;rfl
   have ca:oq=0:=by cases hap;rfl
   clear hap;subst bt ca;rw[Nat.zero_add] at al;have e1:∀w',Near l g w'->w'.cell? ⟨qb,2,none⟩=some (.slice (some ⟨g,0,none⟩) n an):=λw' h=>h.cell M.2.2.2.1 (by simp;omega);have e0:∀w',Near l g w'->w'.cell? ⟨qb,0,none⟩=some (.slice ag n Y):=λw' h=>h.cell M.2.1 (by simp;omega);have dx:(gt P.conj 0).length<=6:=by rw[HH.out.1.cl 0 (by rw[<-E.out.2.2.1];exact O),<-E.out.2.2.1];omega
   have ch:∀x∈gt P.conj 0,x.length<=1000000:=λx hx=>by have:=HH.out.1.cv _ (gtMem (by rw[E.out.2.2.2.2];exact O)) x hx;omega
   obtain⟨R,hR⟩:∃R,R=gt P.conj 0:=⟨_,rfl⟩;rw[<-hR] at al aR dx ch;have HR:=Lib.hid (And.intro ch hR);clear am ch hR bh aJ;have dz:=λw=>run_mk_ints n (by omega) w;go_wp2_with fail
   refine wp_region_held_drew (S:=λw'=>Near l g w') (by kernel_rfl) (Near.of (grown_drew _ _)) (λA => ?_);refine tk 0 ?_;refine tk 1 ?_;refine tk 2 ?_;refine tk 3 ?_;refine tk 4 ?_;refine tk 7 ?_;refine tk 8 ?_;refine tk 9 ?_;have bv:Ext l l.drew:=grown_drew _ _;have X:Ext l (l.alloc (.cells (madeCells #[.int .i64 0] n) 2)).drew:=grown_trans (World.grownBy_alloc _ _ _) (grown_drew _ _);have aI:Ext l ((l.alloc (.cells (madeCells #[.int .i64 0] n) 2)).alloc (.cells #[.slice (some ⟨l.heap.size,0,none⟩) n n] 24)).drew:=grown_trans (World.grownBy_alloc _ _ _) (grown_trans (World.grownBy_alloc _ _ _) (grown_drew _ _))
   have ar:∀(w':World) (m:Nat),Ext l w'->w'.heap.size=l.heap.size+m->Calls Tryz.prog 216 #[.slice ae R.length ce] w' (λe5 C=>∃a5 c5 vs,e5=.returned (.slice a5 vs.length c5)/\Ext w' C/\Ext l C/\vs.length<=6/\OwnV l.heap.size 24 C (.slice a5 vs.length c5) vs/\(∀k,(Value.slice a5 vs.length c5).ownBlock=some k->l.heap.size+m<=k)/\Hid ((∀i,i<R.length->Ints (λk=>l.heap.size<=k/\(Value.slice a5 vs.length c5).ownBlock≠some k) C (gt vs i) (gt R i))/\vs.length=R.length)):=λw' m hx hm=>by
    refine Calls.mono (l01Own2_ok w' _ R _ (Rows2.ext aR hx) HR.out.1 (by omega)) ?_;rintro e5 C ⟨v5,rfl,H,vs,G,hvl,K,cV,_,dA⟩;have cW:=hx.size;have ak:OwnV l.heap.size 24 C v5 vs:=ownsRow_move K (λk hk=>⟨rfl,Nat.le_trans cW (K.lt k hk).1⟩)
    obtain ⟨a5,c5,rfl⟩:∃a c,v5=.slice a vs.length c:=by
     rcases K.form with⟨h1,h2⟩|⟨g5,jr,h1,_⟩
     ·exact⟨_,_,by rw[h1,h2];rfl⟩
     ·exact⟨_,_,h1⟩
    exact⟨a5,c5,vs,rfl,H,grown_trans hx H,by omega,ak,λk hk=>by have:=(K.lt k hk).1;omega,Lib.hid ⟨λi hi=>Ints.sub (dA i hi).ints (λk hk _=>⟨Nat.le_trans cW (cV i k hi hk).1,(cV i k hi hk).2.1⟩),hvl⟩⟩
   have cX:l.drew.heap.size=l.heap.size+0:=rfl;have ci:(l.alloc (.cells (madeCells #[.int .i64 0] n) 2)).drew.heap.size=l.heap.size+1:=(by simp:(l.alloc (.cells (madeCells #[.int .i64 0] n) 2)).heap.size=l.heap.size+1);have bw:((l.alloc (.cells (madeCells #[.int .i64 0] n) 2)).alloc (.cells #[.slice (some ⟨l.heap.size,0,none⟩) n n] 24)).drew.heap.size=l.heap.size+2:=(by simp:((l.alloc (.cells (madeCells #[.int .i64 0] n) 2)).alloc (.cells #[.slice (some ⟨l.heap.size,0,none⟩) n n] 24)).heap.size=l.heap.size+2);have bo:∀(vs:List Value) (u:Value),(vs++[u]).length=vs.length+1:=λvs u=>by simp
   refine rd2 5 10 (λJ q => ?_) (λJ q => ?_)
   focus
    have f2:l.drew.cell? ⟨g,0,none⟩=some (.slice ae R.length ce):=(bv:Ext l l.drew).cell al (by simp);go_simp;refine ko q (Near.of bv) (λA => ?_);clear q J;refine rd2 6 10 (λJ q => ?_) (λJ q => ?_)
    focus
     go_simp;go_at_call 216;refine Calls.mono (ar _ 0 bv cX) ?_;rintro e5 C ⟨a5,c5,vs,rfl,H,B,hvl6,K,hbb,aS⟩;go_wp2_with fail
     refine ko q (Near.of B) (λA => ?_);clear q J;refine rd1 10 (λJ q => ?_);go_simp;refine ko q (Near.of (grown_trans B (World.grownBy_alloc C (.cells (madeCells #[.int .i64 0] n) 2) none))) (λA => ?_);clear q J;refine rd1 11 (λJ q => ?_);go_simp;refine ko q (Near.of (grown_trans (grown_trans B (World.grownBy_alloc C (.cells (madeCells #[.int .i64 0] n) 2) none)) (World.grownBy_alloc (C.alloc (.cells (madeCells #[.int .i64 0] n) 2)) (.cells #[.slice (some ⟨C.heap.size,0,none⟩) n n] 24) none))) (λA => ?_);clear q J;refine rd1 12 (λJ q => ?_);have au:Ints (λk=>l.heap.size<=k/\k=C.heap.size) (C.alloc (.cells (madeCells #[.int .i64 0] n) 2)) (.slice (some ⟨C.heap.size,0,none⟩) n n) (List.replicate n 0):=ints_of_own (own_mk_ints n (by omega) C) (by simp;omega) (λk hk=>by have:=own_blk hk;subst this;exact⟨by first|exact Nat.le_refl _|exact B.size,rfl⟩);have hM:Ints (λk=>l.heap.size<=k/\k=C.heap.size) ((C.alloc (.cells (madeCells #[.int .i64 0] n) 2)).alloc (.cells #[.slice (some ⟨C.heap.size,0,none⟩) n n] 24)) (.slice (some ⟨C.heap.size,0,none⟩) n n) (List.replicate n 0):=Ints.ext au (grown_trans (grown_refl _ none) (World.grownBy_alloc (C.alloc (.cells (madeCells #[.int .i64 0] n) 2)) (.cells #[.slice (some ⟨C.heap.size,0,none⟩) n n] 24) none));have W:(C.alloc (.cells (madeCells #[.int .i64 0] n) 2)).heap.size=C.heap.size+1:=by simp
     have av:((C.alloc (.cells (madeCells #[.int .i64 0] n) 2)).alloc (.cells #[.slice (some ⟨C.heap.size,0,none⟩) n n] 24)).cell? ⟨C.heap.size+1,0,none⟩=some (.slice (some ⟨C.heap.size,0,none⟩) n n):=by rw[World.cell?_alloc_at _ _ _ _ W.symm];rfl
     have hu:=av;have aw:Ext l ((C.alloc (.cells (madeCells #[.int .i64 0] n) 2)).alloc (.cells #[.slice (some ⟨C.heap.size,0,none⟩) n n] 24)):=(grown_trans (grown_trans B (World.grownBy_alloc C (.cells (madeCells #[.int .i64 0] n) 2) none)) (World.grownBy_alloc (C.alloc (.cells (madeCells #[.int .i64 0] n) 2)) (.cells #[.slice (some ⟨C.heap.size,0,none⟩) n n] 24) none));have aE:Ext C ((C.alloc (.cells (madeCells #[.int .i64 0] n) 2)).alloc (.cells #[.slice (some ⟨C.heap.size,0,none⟩) n n] 24)):=(grown_trans (grown_trans (grown_refl _ none) (World.grownBy_alloc C (.cells (madeCells #[.int .i64 0] n) 2) none)) (World.grownBy_alloc (C.alloc (.cells (madeCells #[.int .i64 0] n) 2)) (.cells #[.slice (some ⟨C.heap.size,0,none⟩) n n] 24) none))
    rotate_left
    focus
     go_simp;refine ko q (Near.of X) (λA => ?_);clear q J;refine rd2 6 11 (λJ q => ?_) (λJ q => ?_)
     focus
      go_simp;go_at_call 216;refine Calls.mono (ar _ 1 X ci) ?_;rintro e5 C ⟨a5,c5,vs,rfl,H,B,hvl6,K,hbb,aS⟩;go_wp2_with fail
      refine ko q (Near.of B) (λA => ?_);clear q J;refine rd1 11 (λJ q => ?_);go_simp;refine ko q (Near.of (grown_trans B (World.grownBy_alloc C (.cells #[.slice (some ⟨l.heap.size,0,none⟩) n n] 24) none))) (λA => ?_);clear q J;refine rd1 12 (λJ q => ?_);have au:Ints (λk=>l.heap.size<=k/\k=l.heap.size) (l.alloc (.cells (madeCells #[.int .i64 0] n) 2)) (.slice (some ⟨l.heap.size,0,none⟩) n n) (List.replicate n 0):=ints_of_own (own_mk_ints n (by omega) l) (by simp;omega) (λk hk=>by have:=own_blk hk;subst this;exact⟨by first|exact Nat.le_refl _|exact B.size,rfl⟩);have hM:Ints (λk=>l.heap.size<=k/\k=l.heap.size) (C.alloc (.cells #[.slice (some ⟨l.heap.size,0,none⟩) n n] 24)) (.slice (some ⟨l.heap.size,0,none⟩) n n) (List.replicate n 0):=Ints.ext au (grown_trans (grown_trans (grown_trans (grown_refl _ none) (grown_drew (l.alloc (.cells (madeCells #[.int .i64 0] n) 2)) none)) (H)) (World.grownBy_alloc C (.cells #[.slice (some ⟨l.heap.size,0,none⟩) n n] 24) none));have W:C.heap.size=C.heap.size:=rfl;have av:(C.alloc (.cells #[.slice (some ⟨l.heap.size,0,none⟩) n n] 24)).cell? ⟨C.heap.size,0,none⟩=some (.slice (some ⟨l.heap.size,0,none⟩) n n):=by rw[World.cell?_alloc_at _ _ _ _ W.symm];rfl
      have hu:=av;have aw:Ext l (C.alloc (.cells #[.slice (some ⟨l.heap.size,0,none⟩) n n] 24)):=(grown_trans B (World.grownBy_alloc C (.cells #[.slice (some ⟨l.heap.size,0,none⟩) n n] 24) none));have aE:Ext C (C.alloc (.cells #[.slice (some ⟨l.heap.size,0,none⟩) n n] 24)):=(grown_trans (grown_refl _ none) (World.grownBy_alloc C (.cells #[.slice (some ⟨l.heap.size,0,none⟩) n n] 24) none))
     rotate_left
     focus
      go_simp;refine ko q (Near.of aI) (λA => ?_);clear q J;refine rd1 6 (λJ q => ?_);go_simp;go_at_call 216;refine Calls.mono (ar _ 2 aI bw) ?_;rintro e5 C ⟨a5,c5,vs,rfl,H,B,hvl6,K,hbb,aS⟩;go_wp2_with fail
      refine ko q (Near.of B) (λA => ?_);clear q J;refine rd1 12 (λJ q => ?_);have au:Ints (λk=>l.heap.size<=k/\k=l.heap.size) (l.alloc (.cells (madeCells #[.int .i64 0] n) 2)) (.slice (some ⟨l.heap.size,0,none⟩) n n) (List.replicate n 0):=ints_of_own (own_mk_ints n (by omega) l) (by simp;omega) (λk hk=>by have:=own_blk hk;subst this;exact⟨by first|exact Nat.le_refl _|exact B.size,rfl⟩);have hM:Ints (λk=>l.heap.size<=k/\k=l.heap.size) C (.slice (some ⟨l.heap.size,0,none⟩) n n) (List.replicate n 0):=Ints.ext au (grown_trans (grown_trans (grown_trans (grown_refl _ none) (World.grownBy_alloc (l.alloc (.cells (madeCells #[.int .i64 0] n) 2)) (.cells #[.slice (some ⟨l.heap.size,0,none⟩) n n] 24) none)) (grown_drew ((l.alloc (.cells (madeCells #[.int .i64 0] n) 2)).alloc (.cells #[.slice (some ⟨l.heap.size,0,none⟩) n n] 24)) none)) (H));have W:(l.alloc (.cells (madeCells #[.int .i64 0] n) 2)).heap.size=l.heap.size+1:=by simp
      have av:((l.alloc (.cells (madeCells #[.int .i64 0] n) 2)).alloc (.cells #[.slice (some ⟨l.heap.size,0,none⟩) n n] 24)).cell? ⟨l.heap.size+1,0,none⟩=some (.slice (some ⟨l.heap.size,0,none⟩) n n):=by rw[World.cell?_alloc_at _ _ _ _ W.symm];rfl
      have hu:C.cell? ⟨l.heap.size+1,0,none⟩=some (.slice (some ⟨l.heap.size,0,none⟩) n n):=H.cell av (by simp);have aw:Ext l C:=B;have aE:Ext C C:=(grown_refl _ none)
   rotate_left 3
   focus
    go_simp;refine ko q (Near.of X) (λA => ?_);clear q J;refine rd2 5 11 (λJ q => ?_) (λJ q => ?_)
    focus
     have f2:(l.alloc (.cells (madeCells #[.int .i64 0] n) 2)).drew.cell? ⟨g,0,none⟩=some (.slice ae R.length ce):=(X:Ext l (l.alloc (.cells (madeCells #[.int .i64 0] n) 2)).drew).cell al (by simp);go_simp;refine ko q (Near.of X) (λA => ?_);clear q J;refine rd2 6 11 (λJ q => ?_) (λJ q => ?_)
     focus
      go_simp;go_at_call 216;refine Calls.mono (ar _ 1 X ci) ?_;rintro e5 C ⟨a5,c5,vs,rfl,H,B,hvl6,K,hbb,aS⟩;go_wp2_with fail
      refine ko q (Near.of B) (λA => ?_);clear q J;refine rd1 11 (λJ q => ?_);go_simp;refine ko q (Near.of (grown_trans B (World.grownBy_alloc C (.cells #[.slice (some ⟨l.heap.size,0,none⟩) n n] 24) none))) (λA => ?_);clear q J;refine rd1 12 (λJ q => ?_);have au:Ints (λk=>l.heap.size<=k/\k=l.heap.size) (l.alloc (.cells (madeCells #[.int .i64 0] n) 2)) (.slice (some ⟨l.heap.size,0,none⟩) n n) (List.replicate n 0):=ints_of_own (own_mk_ints n (by omega) l) (by simp;omega) (λk hk=>by have:=own_blk hk;subst this;exact⟨by first|exact Nat.le_refl _|exact B.size,rfl⟩);have hM:Ints (λk=>l.heap.size<=k/\k=l.heap.size) (C.alloc (.cells #[.slice (some ⟨l.heap.size,0,none⟩) n n] 24)) (.slice (some ⟨l.heap.size,0,none⟩) n n) (List.replicate n 0):=Ints.ext au (grown_trans (grown_trans (grown_trans (grown_refl _ none) (grown_drew (l.alloc (.cells (madeCells #[.int .i64 0] n) 2)) none)) (H)) (World.grownBy_alloc C (.cells #[.slice (some ⟨l.heap.size,0,none⟩) n n] 24) none));have W:C.heap.size=C.heap.size:=rfl;have av:(C.alloc (.cells #[.slice (some ⟨l.heap.size,0,none⟩) n n] 24)).cell? ⟨C.heap.size,0,none⟩=some (.slice (some ⟨l.heap.size,0,none⟩) n n):=by rw[World.cell?_alloc_at _ _ _ _ W.symm];rfl
      have hu:=av;have aw:Ext l (C.alloc (.cells #[.slice (some ⟨l.heap.size,0,none⟩) n n] 24)):=(grown_trans B (World.grownBy_alloc C (.cells #[.slice (some ⟨l.heap.size,0,none⟩) n n] 24) none));have aE:Ext C (C.alloc (.cells #[.slice (some ⟨l.heap.size,0,none⟩) n n] 24)):=(grown_trans (grown_refl _ none) (World.grownBy_alloc C (.cells #[.slice (some ⟨l.heap.size,0,none⟩) n n] 24) none))
     rotate_left
     focus
      go_simp;refine ko q (Near.of aI) (λA => ?_);clear q J;refine rd1 6 (λJ q => ?_);go_simp;go_at_call 216;refine Calls.mono (ar _ 2 aI bw) ?_;rintro e5 C ⟨a5,c5,vs,rfl,H,B,hvl6,K,hbb,aS⟩;go_wp2_with fail
      refine ko q (Near.of B) (λA => ?_);clear q J;refine rd1 12 (λJ q => ?_);have au:Ints (λk=>l.heap.size<=k/\k=l.heap.size) (l.alloc (.cells (madeCells #[.int .i64 0] n) 2)) (.slice (some ⟨l.heap.size,0,none⟩) n n) (List.replicate n 0):=ints_of_own (own_mk_ints n (by omega) l) (by simp;omega) (λk hk=>by have:=own_blk hk;subst this;exact⟨by first|exact Nat.le_refl _|exact B.size,rfl⟩);have hM:Ints (λk=>l.heap.size<=k/\k=l.heap.size) C (.slice (some ⟨l.heap.size,0,none⟩) n n) (List.replicate n 0):=Ints.ext au (grown_trans (grown_trans (grown_trans (grown_refl _ none) (World.grownBy_alloc (l.alloc (.cells (madeCells #[.int .i64 0] n) 2)) (.cells #[.slice (some ⟨l.heap.size,0,none⟩) n n] 24) none)) (grown_drew ((l.alloc (.cells (madeCells #[.int .i64 0] n) 2)).alloc (.cells #[.slice (some ⟨l.heap.size,0,none⟩) n n] 24)) none)) (H));have W:(l.alloc (.cells (madeCells #[.int .i64 0] n) 2)).heap.size=l.heap.size+1:=by simp
      have av:((l.alloc (.cells (madeCells #[.int .i64 0] n) 2)).alloc (.cells #[.slice (some ⟨l.heap.size,0,none⟩) n n] 24)).cell? ⟨l.heap.size+1,0,none⟩=some (.slice (some ⟨l.heap.size,0,none⟩) n n):=by rw[World.cell?_alloc_at _ _ _ _ W.symm];rfl
      have hu:C.cell? ⟨l.heap.size+1,0,none⟩=some (.slice (some ⟨l.heap.size,0,none⟩) n n):=H.cell av (by simp);have aw:Ext l C:=B;have aE:Ext C C:=(grown_refl _ none)
    rotate_left 2
    focus
     go_simp;refine ko q (Near.of aI) (λA => ?_);clear q J;refine rd1 5 (λJ q => ?_);have f2:((l.alloc (.cells (madeCells #[.int .i64 0] n) 2)).alloc (.cells #[.slice (some ⟨l.heap.size,0,none⟩) n n] 24)).drew.cell? ⟨g,0,none⟩=some (.slice ae R.length ce):=(aI:Ext l ((l.alloc (.cells (madeCells #[.int .i64 0] n) 2)).alloc (.cells #[.slice (some ⟨l.heap.size,0,none⟩) n n] 24)).drew).cell al (by simp);go_simp;refine ko q (Near.of aI) (λA => ?_);clear q J;refine rd1 6 (λJ q => ?_);go_simp;go_at_call 216;refine Calls.mono (ar _ 2 aI bw) ?_;rintro e5 C ⟨a5,c5,vs,rfl,H,B,hvl6,K,hbb,aS⟩;go_wp2_with fail
     refine ko q (Near.of B) (λA => ?_);clear q J;refine rd1 12 (λJ q => ?_);have au:Ints (λk=>l.heap.size<=k/\k=l.heap.size) (l.alloc (.cells (madeCells #[.int .i64 0] n) 2)) (.slice (some ⟨l.heap.size,0,none⟩) n n) (List.replicate n 0):=ints_of_own (own_mk_ints n (by omega) l) (by simp;omega) (λk hk=>by have:=own_blk hk;subst this;exact⟨by first|exact Nat.le_refl _|exact B.size,rfl⟩);have hM:Ints (λk=>l.heap.size<=k/\k=l.heap.size) C (.slice (some ⟨l.heap.size,0,none⟩) n n) (List.replicate n 0):=Ints.ext au (grown_trans (grown_trans (grown_trans (grown_refl _ none) (World.grownBy_alloc (l.alloc (.cells (madeCells #[.int .i64 0] n) 2)) (.cells #[.slice (some ⟨l.heap.size,0,none⟩) n n] 24) none)) (grown_drew ((l.alloc (.cells (madeCells #[.int .i64 0] n) 2)).alloc (.cells #[.slice (some ⟨l.heap.size,0,none⟩) n n] 24)) none)) (H));have W:(l.alloc (.cells (madeCells #[.int .i64 0] n) 2)).heap.size=l.heap.size+1:=by simp
     have av:((l.alloc (.cells (madeCells #[.int .i64 0] n) 2)).alloc (.cells #[.slice (some ⟨l.heap.size,0,none⟩) n n] 24)).cell? ⟨l.heap.size+1,0,none⟩=some (.slice (some ⟨l.heap.size,0,none⟩) n n):=by rw[World.cell?_alloc_at _ _ _ _ W.symm];rfl
     have hu:C.cell? ⟨l.heap.size+1,0,none⟩=some (.slice (some ⟨l.heap.size,0,none⟩) n n):=H.cell av (by simp);have aw:Ext l C:=B;have aE:Ext C C:=(grown_refl _ none)
   all_goals
    have dB:=World.ownsRow.kept K aE (by cases hv:(Value.slice a5 vs.length c5).ownBlock<;>simp);refine step_app_rowH (by rfl) _ _ (by rfl) l.heap.size _ vs (by rfl) dB _ _ (by rfl) ⟨hu,rfl⟩ (by omega) aw.size ?_;intro v6 w6 ak aq dN;have I:Ext l w6:=grown_own aw aq (λj hj D=>by have:=(K.lt j hj).1;omega);have aV:=rows_app (L:=R) (y:=List.replicate n 0) ak aS.out.2 (by omega) aS.out.1 aE aq hM (λk hk=>⟨hk.1,λe=>by have h1:=hbb k e;have h2:=(K.lt k e).2;omega⟩)
    obtain ⟨a6,c6,bu,_⟩:∃a c,v6=.slice a (vs.length+1) c/\True:=by
     rcases ak.form with⟨h1,h2⟩|⟨g5,jr,h1,_⟩
     ·simp at h2
     ·exact⟨_,_,by rw[h1,bo],trivial⟩
    subst bu;have r1:=I.cell al (by simp);have r2:=(World.frozen?_of_block (a:=⟨g,0,none⟩) (I.block g aX (by simp))).trans b';refine ko q (Near.of I) (λA => ?_);clear q J;refine tk 13 ?_;refine rd1 14 (λJ q => ?_);go_simp;refine ko q (Near.store I) (λA => ?_);clear q J;refine wpAnyH_done (by kernel_rfl) ?_ _;clear r1 r2 dz e0 e1 ar bv X aI bo cX ci bw;have hT:=grown_set1 w6 g 0 (.slice a6 (vs.length+1) c6);have aF:=(M.ext I).moved hT (by omega);have ab:=(N.ext I).moved hT (by omega);have ad:=grown_own (grown_trans V (grown_of_ext (some sb) I)) hT (λj hj D=>by have:=Option.some.inj hj;omega);have aG:=(E.out.2.1.ext I).own hT (λk hk=>by have:=Option.some.inj hk;omega);have aH:=E.out.1.putRow 0 O E.out.2.2.2.2 I aV;have HF:=Lib.hid (And.intro aF (And.intro ab (And.intro ad (And.intro aG aH))));clear aF ab ad aG aH hT aV;go_wp2_with fail
    go_meet;obtain⟨aF,ab,ad,aG,Q7,cY,aH⟩:=HF.out;exact⟨_,_,_,_,_,_,_,_,_,_,aF,ab,ad,aG,(by rw[cY,<-E.out.2.2.1];omega),(OrdLe.same cY),aH.mono (λk hk D=>⟨by rcases hk with hk|hk<;>omega,D,rfl⟩)⟩
 ·go_wp2_with fail
  have bJ:Ext l (l.alloc (.cells #[.int .i64 7,.int .i64 7,.int .i64 7,.int .i64 7] 2)):=World.grownBy_alloc _ _ _;have cZ:Ints Any (l.alloc (.cells #[.int .i64 7,.int .i64 7,.int .i64 7,.int .i64 7] 2)) (.slice (some ⟨l.heap.size,0,none⟩) 4 4) [7,7,7,7]:=Ints.sub (ints_litL l [7,7,7,7] (by simp)) (λ_ _ _=>trivial);have c0:(l.alloc (.cells #[.int .i64 7,.int .i64 7,.int .i64 7,.int .i64 7] 2)).heap.size=l.heap.size+1:=by simp
  refine Calls.mono (l07Trivial_ok _ _ [7,7,7,7] _ cZ (by simp)) ?_;rintro e5 C ⟨v5,rfl,H,qB,qC,qD,rfl,gC⟩;obtain⟨a0,a4,a7,a8,a9,a',rfl,rfl,rfl⟩:=trivX_shape gC;have aO:=grown_trans bJ H;have cQ:=aO.size;have bi:=M.ext aO;have aL:=N.ext aO;obtain⟨q0,q1,q2,q3,q4⟩:=id bi;have aT:=grown_set3 C qb (.slice a0 4 a4) (.slice a7 4 a8) (.slice a9 4 a');have bK:=bi.all (.slice a0 4 a4) (.slice a7 4 a8) (.slice a9 4 a');have bL:=aL.moved aT (by omega)
  have c4:Pres3 (λk=>w.heap.size+2<=k) (((C.setCell ⟨qb,0,none⟩ (.slice a0 4 a4)).setCell ⟨qb,1,none⟩ (.slice a7 4 a8)).setCell ⟨qb,2,none⟩ (.slice a9 4 a')) (.slice a0 4 a4) (.slice a7 4 a8) (.slice a9 4 a') (trivP [7,7,7,7]):=
   gC.p3.mono (λk hk D=>by
    have hk:(l.alloc (.cells #[.int .i64 7,.int .i64 7,.int .i64 7,.int .i64 7] 2)).heap.size<=k:=hk;exact⟨by omega,Nat.lt_of_lt_of_le D aT.size,aT.block k D (λe=>by have:=Option.some.inj e;omega)⟩)
  clear gC cZ c0 H bJ bi aL;have B:=grown_own (grown_trans V (grown_of_ext (some sb) aO)) aT (λj hj D=>by have:=Option.some.inj hj;omega);have bg:=(E.out.2.1.ext aO).own aT (λk hk=>by have:=Option.some.inj hk;omega);have dO:=aT.size;have HF:=Lib.hid (And.intro c4 (And.intro B bg));clear c4 B bg aT;go_wp2_with fail
  generalize ((C.setCell ⟨qb,0,none⟩ (.slice a0 4 a4)).setCell ⟨qb,1,none⟩ (.slice a7 4 a8)).setCell ⟨qb,2,none⟩ (.slice a9 4 a')=w6 at *;refine Calls.mono (l01Next_ok B0 w6 sb 2 HF.out.2.2) ?_;rintro e7 w7 ⟨v7,rfl,ad,y,rfl,_,_,aG⟩;have aF:=bK.moved ad (by omega);have ab:=bL.moved ad (by omega);have bM:=grown_trans HF.out.2.1 ad;have aH:Pres3 (λk=>w.heap.size+2<=k) w7 (.slice a0 4 a4) (.slice a7 4 a8) (.slice a9 4 a') (trivP [7,7,7,7]):=HF.out.1.mono (λk hk D=>⟨hk,Nat.lt_of_lt_of_le D ad.size,ad.block k D (λe=>by have:=Option.some.inj e;omega)⟩);have dP:=ad.size;clear HF bK bL ad;by_cases hy:y=0
  ·have dC:(y == 0)=true:=by simp[hy]
   clear hy;go_wp2_with fail
   have bN:Ext w7 (w7.alloc (.cells #[.int .i64 2,.int .i64 2,.int .i64 2,.int .i64 2,.int .i64 2,.int .i64 2,.int .i64 2] 2)):=World.grownBy_alloc _ _ _;have c7:Ints Any (w7.alloc (.cells #[.int .i64 2,.int .i64 2,.int .i64 2,.int .i64 2,.int .i64 2,.int .i64 2,.int .i64 2] 2)) (.slice (some ⟨w7.heap.size,0,none⟩) 7 7) [2,2,2,2,2,2,2]:=Ints.sub (ints_litL w7 [2,2,2,2,2,2,2] (by simp)) (λ_ _ _=>trivial);have c8:(w7.alloc (.cells #[.int .i64 2,.int .i64 2,.int .i64 2,.int .i64 2,.int .i64 2,.int .i64 2,.int .i64 2] 2)).heap.size=w7.heap.size+1:=by simp
   refine Calls.mono (l07Trivial_ok _ _ [2,2,2,2,2,2,2] _ c7 (by simp)) ?_;rintro e8 w8 ⟨v8,rfl,bj,qE,qF,qG,rfl,kB⟩;obtain⟨bz,bA,bB,bC,bD,bE,rfl,rfl,rfl⟩:=trivX_shape kB;have aQ:=grown_trans bN bj;have dR:=aQ.size;have bk:=aF.ext aQ;have bO:=ab.ext aQ;obtain⟨q0,q1,q2,q3,q4⟩:=id bk;have ba:=grown_set3 w8 qb (.slice bz 7 bA) (.slice bB 7 bC) (.slice bD 7 bE);have bQ:=bk.all (.slice bz 7 bA) (.slice bB 7 bC) (.slice bD 7 bE);have bR:=bO.moved ba (by omega)
   have c9:Pres3 (λk=>w.heap.size+2<=k) (((w8.setCell ⟨qb,0,none⟩ (.slice bz 7 bA)).setCell ⟨qb,1,none⟩ (.slice bB 7 bC)).setCell ⟨qb,2,none⟩ (.slice bD 7 bE)) (.slice bz 7 bA) (.slice bB 7 bC) (.slice bD 7 bE) (trivP [2,2,2,2,2,2,2]):=
    kB.p3.mono (λk hk D=>by
     have hk:(w7.alloc (.cells #[.int .i64 2,.int .i64 2,.int .i64 2,.int .i64 2,.int .i64 2,.int .i64 2,.int .i64 2] 2)).heap.size<=k:=hk;exact⟨by omega,Nat.lt_of_lt_of_le D ba.size,ba.block k D (λe=>by have:=Option.some.inj e;omega)⟩)
   clear kB c7 c8 bj bN bk bO;have bj:=grown_own (grown_trans bM (grown_of_ext (some sb) aQ)) ba (λj hj D=>by have:=Option.some.inj hj;omega);have c':=(aG.ext aQ).own ba (λk hk=>by have:=Option.some.inj hk;omega);have HF:=Lib.hid (And.intro c9 (And.intro bj (And.intro c' (And.intro bQ bR))));clear c9 bj c' ba bQ bR;go_wp2_with fail
   go_meet;exact⟨_,_,_,_,_,_,_,_,_,_,HF.out.2.2.2.1,HF.out.2.2.2.2,HF.out.2.1,HF.out.2.2.1,by decide,(by exact λh=>absurd h.n6 (by decide)),HF.out.1⟩
  ·have dC:(y == 0)=false:=by simp[hy]
   clear hy;go_wp2_with fail
   go_meet;exact⟨_,_,_,_,_,_,_,_,_,_,aF,ab,bM,aG,by decide,(by exact λh=>absurd h.le729 (by decide)),aH⟩
set_option maxHeartbeats 16000000 in
theorem l07DrawL_ok (M:Nat) (w:World) (sb:Nat) (j:Int) (N:M<=w.heap.size) (hs:Src M w sb) :
  Calls Tryz.prog 81 #[.pointer (some ⟨sb,0,none⟩),.int .i64 j] w (Mut w (some sb) (DrawR M sb (PresAL 7 (LimOk j) w.heap.size))):=by
 have aA:=hs.lt;have X:=Box3.made w 28 (.slice none 0 0) (.slice none 0 0) (.slice none 0 0);have O:Ext w (w.alloc (.cells #[.slice none 0 0,.slice none 0 0,.slice none 0 0] 28)):=World.grownBy_alloc _ _ _;have aq:(w.alloc (.cells #[.slice none 0 0,.slice none 0 0,.slice none 0 0] 28)).heap.size=w.heap.size+1:=by simp
 have Y:=Lib.hid (hs.ext O);clear hs;go_enter Tryz.func81,Tryz.ntmps81;go_wp2_with fail
 generalize w.alloc (.cells #[.slice none 0 0,.slice none 0 0,.slice none 0 0] 28)=w0 at *;have au:w.heap.size+1<=w0.heap.size:=by omega
 clear aq;refine Calls.mono (l07GroupL_ok M w0 sb j (by omega) Y.out) ?_;rintro e1 W ⟨v1,rfl,D,nT,hs1⟩;obtain⟨vo,vp,vc,Q,rfl,hV,hQ,lN⟩:=nT;have S:=Lib.hid lN;clear lN;obtain⟨a1,E,c1,a2,F,c2,G,H,c3,rfl,rfl,rfl⟩:=PresN3.shape ⟨Q,hV.shp,hQ⟩;have q:Ext W (W.alloc (.cells #[.slice a1 E c1,.slice a2 F c2,.slice G H c3] 28)):=World.grownBy_alloc _ _ _;have U:=Box3.made W 28 (.slice a1 E c1) (.slice a2 F c2) (.slice G H c3);obtain⟨pb,V⟩:∃pb,pb=W.heap.size:=⟨_,rfl⟩;rw[<-V] at U;have Z:=D.size;have aa:Pres3 (λk=>w0.heap.size<=k/\k≠pb) (W.alloc (.cells #[.slice a1 E c1,.slice a2 F c2,.slice G H c3] 28)) (.slice a1 E c1) (.slice a2 F c2) (.slice G H c3) Q:=hQ.mono (λk hk r=>⟨⟨hk,by omega⟩,Nat.lt_of_lt_of_le r q.size,q.block k r (by simp)⟩);have ab:=X.moved D (by omega);have ac:=ab.ext q;have ad:=hs1.ext q;have I:=grown_trans (grown_of_ext (some sb) O) (grown_trans D (grown_of_ext (some sb) q));have HP:=Lib.hid V;have l:=Lib.hid (And.intro aa (And.intro ad hV));clear hQ aa ad hs1 hV D X O Y ab q;go_wp2_with fail
 rw[<-HP.out];generalize W.alloc (.cells #[.slice a1 E c1,.slice a2 F c2,.slice G H c3] 28)=w2 at *;have aC:w0.heap.size<=pb:=by omega
 clear V HP Z;refine Calls.mono (l01Next_ok M w2 sb 24 l.out.2.1) ?_;rintro e3 w3 ⟨v3,rfl,hg3,x,rfl,_,hx1,af⟩;have u:=ac.moved hg3 (by omega);have J:=U.moved hg3 (by omega);have hQ3:Pres3 (λk=>w0.heap.size<=k/\k≠pb) w3 (.slice a1 E c1) (.slice a2 F c2) (.slice G H c3) Q:=l.out.1.mono (λk hk r=>⟨hk,Nat.lt_of_lt_of_le r hg3.size,hg3.block k r (λe=>by have:=Option.some.inj e;omega)⟩);have b:=grown_trans I hg3;have hV:=l.out.2.2;have aw:=b.size;have aD:=J.1;have l:=Lib.hid (And.intro hQ3 (And.intro af hV));clear hQ3 af hV hg3 U ac I hx1;obtain⟨q0,q1,q2,q3,q4⟩:=id J;by_cases y:x=0
 ·have ar:(x == 0)=true:=by simp[y]
  clear y;go_wp2_with fail
  refine Calls.mono (l07BendL_ok M w3 sb _ Q _ (by omega) l.out.2.1 ⟨_,_,_,rfl,l.out.1⟩ l.out.2.2) ?_;rintro e4 w4 ⟨v4,rfl,hg4,⟨uo,up,uc,R,rfl,z,A,B⟩,C⟩;obtain⟨y1,m1,k1,hy1⟩:∃a n c,uo=.slice a n c:=by obtain⟨a,c,e,_⟩:=A.o.shape;exact⟨_,_,_,e⟩
  obtain⟨y2,m2,k2,hy2⟩:∃a n c,up=.slice a n c:=by obtain⟨a,c,e,_⟩:=Sl.shape A.p;exact⟨_,_,_,e⟩
  obtain⟨y3,m3,k3,fV⟩:∃a n c,uc=.slice a n c:=by obtain⟨a,c,e,_⟩:=Sl.shape A.c;exact⟨_,_,_,e⟩
  subst hy1 hy2 fV;have m:=u.moved hg4 (by omega);have i:=grown_trans b hg4;obtain⟨b0,b1,b2,b3,b4⟩:=id m;have K:=m.all (.slice y1 m1 k1) (.slice y2 m2 k2) (.slice y3 m3 k3);obtain⟨-,z0,z1,z2,-⟩:=id K;have HF:=Lib.hid (And.intro i (And.intro C (And.intro A (And.intro z (S.out.le l.out.2.2 B)))));clear K i C A z m hg4 B;go_wp2_with fail
  refine bodyPost_ret (v := .agg #[.slice y1 m1 k1,.slice y2 m2 k2,.slice y3 m3 k3]) (by simp[results,Tryz.results81,go_sem,z0,z1,z2]) rfl ?_;exact a_ret HF.out.1 (br:=w.heap.size) (Nat.le_refl _) (λk hk _=>by have hk:w3.heap.size<=k:=hk;exact⟨by omega,by omega⟩) HF.out.2.1 N HF.out.2.2.2.1 HF.out.2.2.1 HF.out.2.2.2.2
 have ar:(x == 0)=false:=by simp[y]
 by_cases L:x=1\/x=2
 ·rcases L with rfl|rfl
  all_goals
   clear y;go_wp2_with fail
   refine Calls.mono (l07TurnL_ok M w3 sb _ Q _ (by omega) l.out.2.1 ⟨_,_,_,rfl,l.out.1⟩ l.out.2.2) ?_;rintro e4 w4 ⟨v4,rfl,hg4,⟨uo,up,uc,R,rfl,z,A,B⟩,C⟩;obtain⟨y1,m1,k1,hy1⟩:∃a n c,uo=.slice a n c:=by obtain⟨a,c,e,_⟩:=A.o.shape;exact⟨_,_,_,e⟩
   obtain⟨y2,m2,k2,hy2⟩:∃a n c,up=.slice a n c:=by obtain⟨a,c,e,_⟩:=Sl.shape A.p;exact⟨_,_,_,e⟩
   obtain⟨y3,m3,k3,fV⟩:∃a n c,uc=.slice a n c:=by obtain⟨a,c,e,_⟩:=Sl.shape A.c;exact⟨_,_,_,e⟩
   subst hy1 hy2 fV;have m:=u.moved hg4 (by omega);have i:=grown_trans b hg4;obtain⟨b0,b1,b2,b3,b4⟩:=id m;have K:=m.all (.slice y1 m1 k1) (.slice y2 m2 k2) (.slice y3 m3 k3);obtain⟨-,z0,z1,z2,-⟩:=id K;have HF:=Lib.hid (And.intro i (And.intro C (And.intro A (And.intro z (S.out.le l.out.2.2 B)))));clear K i C A z m hg4 B;go_wp2_with fail
   refine bodyPost_ret (v := .agg #[.slice y1 m1 k1,.slice y2 m2 k2,.slice y3 m3 k3]) (by simp[results,Tryz.results81,go_sem,z0,z1,z2]) rfl ?_;exact a_ret HF.out.1 (br:=w.heap.size) (Nat.le_refl _) (λk hk _=>by have hk:w3.heap.size<=k:=hk;exact⟨by omega,by omega⟩) HF.out.2.1 N HF.out.2.2.2.1 HF.out.2.2.1 HF.out.2.2.2.2
 ·have ay:(x == 1)=false:=by simp;omega
  have az:(x == 2)=false:=by simp;omega
  clear L y;obtain⟨b0,b1,b2,b3,b4⟩:=id u;have K:=u.all (.slice a1 E c1) (.slice a2 F c2) (.slice G H c3);obtain⟨-,z0,z1,z2,-⟩:=id K;have HF:=Lib.hid b;clear K b u;go_wp2_with fail
  refine bodyPost_ret (v := .agg #[.slice a1 E c1,.slice a2 F c2,.slice G H c3]) (by simp[results,Tryz.results81,go_sem,z0,z1,z2]) rfl ?_;exact a_ret HF.out (br:=w.heap.size) (Nat.le_refl _) (λk hk _=>⟨by omega,by omega⟩) l.out.2.1 N (by have:=l.out.2.2.n6;omega) l.out.1 S.out
theorem l07Draw_ok (b:Nat) (w:World) (sb:Nat) (a:Int) (e:b<=w.heap.size) (i:Src b w sb) :
  Calls Tryz.prog 81 #[.pointer (some ⟨sb,0,none⟩),.int .i64 a] w (Mut w (some sb) (DrawR b sb (PresA 7 w.heap.size))):=
 Calls.mono (l07DrawL_ok b w sb a e i) (λ_ _ ⟨v,h1,h2,⟨vo,vp,vc,Q,h3,h4,h5,_⟩,h6⟩=>⟨v,h1,h2,⟨vo,vp,vc,Q,h3,h4,h5⟩,h6⟩)
def VecD (M B:Nat) (w':World) (v:Value):Prop:=∃(a:Option Addr) (c:Nat) (l:List Int),v=.slice a l.length c/\l.length<=M/\Own B w' (.slice a l.length c) l
theorem l07Vectors_ok (U:Nat) (w:World) (sb:Nat) (pv:Value) (Q:Pr) (F:Nat->Prop) (aX:U<=w.heap.size) (hs:Src U w sb) (hp:PresV F w pv Q) (hF:∀k,F k->k≠sb) (hQ:Q.orders.length<=20) :
  Calls Tryz.prog 215 #[.pointer (some ⟨sb,0,none⟩),pv] w (Mut w (some sb) (DrawR U sb (VecD 21 w.heap.size))):=by
 have aZ:=hs.lt;obtain⟨vo,vp,vc,rfl,h3⟩:=hp;obtain⟨ao,co,ez,_,_⟩:=h3.o.shape;obtain⟨ap,cp,hvp,_,_⟩:=Sl.shape h3.p;obtain⟨ac,cc,ey,_,_⟩:=Sl.shape h3.c;subst ez hvp ey;have aF:=Box3.made w 28 (.slice ao Q.orders.length co) (.slice ap Q.powers.length cp) (.slice ac Q.conj.length cc);have Y:Ext w (w.alloc (.cells #[.slice ao Q.orders.length co,.slice ap Q.powers.length cp,.slice ac Q.conj.length cc] 28)):=World.grownBy_alloc _ _ _;have ag:=h3.o.ext Y;have ah:=hs.ext Y;have D:(w.alloc (.cells #[.slice ao Q.orders.length co,.slice ap Q.powers.length cp,.slice ac Q.conj.length cc] 28)).heap.size=w.heap.size+1:=by simp
 have HZ:=Lib.hid (And.intro D ah);clear D ah hs h3;go_enter Tryz.func215,Tryz.ntmps215;go_wp2_with fail
 generalize w.alloc (.cells #[.slice ao Q.orders.length co,.slice ap Q.powers.length cp,.slice ac Q.conj.length cc] 28)=w0 at *;have D:w0.heap.size=w.heap.size+1:=HZ.out.1;have Z:=World.grownBy_alloc w0 (.cells #[] 2) none;have N:Own w0.heap.size (w0.alloc (.cells #[] 2)) (.slice (some ⟨w0.heap.size,0,none⟩) 0 0) []:=World.ownsRow_lit w0 #[] 0 (Nat.le_refl _) (by decide) rfl;have HS:=Lib.hid (HZ.out.2.ext Z);have ai:=grown_of_ext (some sb) Z;clear Z;have HW:=Lib.hid D;rw[D] at N;have a0:w.heap.size+1<=w0.heap.size:=by omega
 clear D HZ;generalize w0.alloc (.cells #[] 2)=w1 at *;rw[<-HW.out] at N;rw[<-HW.out];go_loopw [5,6] (λov iv wr=>∃(i:Nat) (l:List Int) (v4:Value),v4=ov/\iv=.int .i64 i/\i<=Q.orders.length/\Hid (l.length=i)/\w0.grownBy wr (some sb)/\Own w0.heap.size wr v4 l/\Hid (Src U wr sb)) (λ_ iv _=>Q.orders.length-(intOf iv).toNat)
 case atStart=>exact⟨0,[],_,rfl,rfl,by omega,Lib.hid rfl,ai,N,HS⟩
 case round=>
  clear ai N HS;obtain⟨i,l,v4,rfl,rfl,hi,hli,hg,hO,aa⟩:=hrel;have ab:=aF.moved hg (by omega);obtain⟨b0,b1,b2,b3,b4⟩:=id ab;have ak:∀j,v4.ownBlock=some j->w0.heap.size<=j:=λj m=>(hO.lt j m).1;have M:=Lib.hid ak;clear ak;by_cases G:i<Q.orders.length
  ·have am:(i:Int)<Q.orders.length:=by omega
   obtain⟨bo,oo,rfl,iM,_,A⟩:=Ints.at ag i G;have hc:=hg.cell A (by simp;exact hF _ iM);obtain⟨x,hx⟩:∃x,x=gt Q.orders i:=⟨_,rfl⟩;rw[<-hx] at hc A;clear hx A;go_wp2_with fail
   refine Calls.mono (l01Next_ok U wr sb x aa.out) ?_;rintro e3 w3 ⟨v3,rfl,hg3,y,rfl,_,_,H⟩;have q:=grown_trans hg hg3;have E:Own w0.heap.size w3 _ l:=hO.kept hg3 (.inr (λe=>by have:=M.out sb e;omega));have I:l.length<=1000000:=by have:=hli.out;omega
   have B:=Lib.hid (And.intro H I);clear H hc I hO;go_wp2_with (first|(at_builtin;refine wp_app_int rfl _ _ rfl w0.heap.size v4 l y rfl w3 E rfl rfl B.out.2 q.size ?_;intro v5 V a b)|fail)
   have r:=B.out.1.own b (λj m=>by have:=M.out j m;omega);have an:w0.grownBy V (some sb):=grown_own q b (λj m G=>by have:=M.out j m;omega);have I:(l++[y]).length=l.length+1:=by simp
   go_roundw
   case rel=>exact⟨i+1,l++[y],v5,rfl,by go_num,by omega,Lib.hid (by have:=hli.out;omega),an,a,Lib.hid r⟩
   case measure=>simp[intOf];omega
  ·have am:¬((i:Int)<Q.orders.length):=by omega
   have a4:l.length<=20:=by have:=hli.out;omega
   obtain⟨al,cl,rfl,_⟩:=(hO.ints (by omega)).shape;have aq:w.grownBy wr (some sb):=grown_trans (grown_of_ext (some sb) Y) hg;go_wp2_with fail
   refine Calls.mono (l01Next_ok U wr sb 40 aa.out) ?_;rintro e3 w3 ⟨v3,rfl,hg3,y,rfl,_,_,H⟩;have q:=grown_trans hg hg3;have J:=grown_trans aq hg3;have E:Own w0.heap.size w3 _ l:=hO.kept hg3 (.inr (λe=>by have:=M.out sb e;omega));have ar:=ab.moved hg3 (by omega);have B:=Lib.hid H;clear H hO aa ab b0 b1 b2 b3 b4 aq;by_cases hy:y=0
   ·have aI:(y == 0)=true:=by simp[hy]
    clear hy;have au:l.length=Q.orders.length:=by have:=hli.out;omega
    have aJ:=Lib.hid au;clear au;by_cases O:l.length=0
    ·have a6:decide (0<l.length)=false:=by simp[O]
     have aV:((0:Int)<l.length)=False:=by simp[O]
     clear O;go_wp2_with (first|(at_builtin;refine wp_app_int rfl _ _ rfl w0.heap.size _ l 0 rfl w3 E rfl rfl (by omega) q.size ?_;intro v5 V a b)|fail)
     have r:=B.out.own b (λj m=>by have:=M.out j m;omega);have K:w.grownBy V (some sb):=grown_own J b (λj m G=>by have:=M.out j m;omega);have I:(l++[(0:Int)]).length=l.length+1:=by simp
     obtain⟨a5,c5,kC,_⟩:=(a.ints (by omega)).shape;subst kC;go_ret;exact⟨_,rfl,K,⟨a5,c5,l++[0],rfl,by omega,Own.weak a (by omega)⟩,r⟩
    ·have a7:(0:Int)<l.length:=by omega
     have aL:0<Q.orders.length:=by have:=aJ.out;omega
     have a8:(0:Int)<Q.orders.length:=by omega
     clear O;go_wp2_with fail
     refine Calls.mono (l01Next_ok U w3 sb 2 B.out) ?_;rintro e4 w4 ⟨v4,rfl,hg4,z,rfl,_,_,hs4⟩;have L:=grown_trans q hg4;have W:=grown_trans J hg4;have aw:Own w0.heap.size w4 _ l:=E.kept hg4 (.inr (λe=>by have:=M.out sb e;omega));have aM:=ar.moved hg4 (by omega);have ax:=Lib.hid hs4;clear hs4 E ar B;by_cases hz:z=0
     ·have aN:(z == 0)=true:=by simp[hz]
      clear hz;obtain⟨b0,b1,b2,b3,b4⟩:=id aM;obtain⟨bo,oo,rfl,iM,_,A⟩:=Ints.at ag 0 aL;have hc:=L.cell A (by simp;exact hF _ iM);rw[Nat.add_zero] at hc;generalize gt Q.orders 0=o0 at hc A;have ad:Ext w4 (w4.alloc (.cells #[.int .i64 o0,.int .i64 (-1)] 2)):=World.grownBy_alloc _ _ _;have hL:=ints_litL w4 [o0,-1] (by simp);clear A;go_wp2_with fail
      refine Calls.mono (l01Pick_ok U _ sb _ [o0,-1] _ (ax.out.ext ad) hL (λk hk=>by have:=L.size;omega) (by simp) (by simp)) ?_;rintro e5 V ⟨v5,rfl,b,j,m,rfl,r⟩;generalize gt [o0,-1] j=u;have X:=grown_trans (grown_of_ext (some sb) ad) b;have a:Own w0.heap.size V _ l:=aw.kept X (.inr (λe=>by have:=M.out sb e;omega));obtain⟨g,capg,ez,hgB,hgl⟩:=a.form (by omega);obtain⟨rfl,rfl⟩:al=some ⟨g,0,none⟩/\cl=capg:=by cases ez;exact⟨rfl,rfl⟩
      clear ez;have aO:=a.cell 0 (by omega);have a9:=a.frozen 0;generalize gt l 0=a' at aO;obtain⟨R,hT⟩:=a.store 0 u;have C:w.grownBy (V.setCell ⟨g,0,none⟩ (.int .i64 u)) (some sb):=grown_own (grown_trans W X) hT (λj m G=>by have:=Option.some.inj m;omega);have S:=r.own hT (λk hk=>by have:=Option.some.inj hk;omega);have HF:=Lib.hid (And.intro R (And.intro C S));clear R C S hT a hL hc m r b ad;go_wp2_with fail
      go_ret;obtain⟨R,C,S⟩:=HF.out;exact⟨_,rfl,C,⟨some ⟨g,0,none⟩,cl,l.set 0 u,by rw[List.length_set];rfl,by rw[List.length_set];omega,by rw[List.length_set];exact Own.weak R (by omega)⟩,S⟩
     ·have aN:(z == 0)=false:=by simp[hz]
      clear hz;go_wp2_with (first|(at_builtin;refine wp_app_int rfl _ _ rfl w0.heap.size _ l 0 rfl w4 aw rfl rfl (by omega) L.size ?_;intro v5 V a b)|fail)
      have r:=ax.out.own b (λj m=>by have:=M.out j m;omega);have K:w.grownBy V (some sb):=grown_own W b (λj m G=>by have:=M.out j m;omega);have I:(l++[(0:Int)]).length=l.length+1:=by simp
      obtain⟨a5,c5,kC,_⟩:=(a.ints (by omega)).shape;subst kC;go_ret;exact⟨_,rfl,K,⟨a5,c5,l++[0],rfl,by omega,Own.weak a (by omega)⟩,r⟩
   ·have aI:(y == 0)=false:=by simp[hy]
    clear hy;go_wp2_with fail
    go_ret;exact⟨_,rfl,J,⟨al,cl,l,rfl,by omega,Own.weak E (by omega)⟩,B.out⟩
def ElD (Q:Pr) (B:Nat) (w':World) (v:Value):Prop:=∃(a:Option Addr) (c:Nat) (l:List Int),v=.slice a l.length c/\Vec Q.orders l/\Own B w' (.slice a l.length c) l
theorem l10Some_ok (K:Nat) (w:World) (sb:Nat) (pv:Value) (Q:Pr) (F:Nat->Prop) (aD:K<=w.heap.size) (hs:Src K w sb) (hp:PresV F w pv Q) (hF:∀k,F k->k≠sb) (hV:Valid Q) :
  Calls Tryz.prog 246 #[.pointer (some ⟨sb,0,none⟩),pv] w (Mut w (some sb) (DrawR K sb (ElD Q w.heap.size))):=by
 have aF:=hs.lt;have hQ:=hV.n6;obtain⟨vo,vp,vc,rfl,h3⟩:=hp;obtain⟨ao,co,ez,_,_⟩:=h3.o.shape;obtain⟨ap,cp,hvp,_,_⟩:=Sl.shape h3.p;obtain⟨ac,cc,ey,_,_⟩:=Sl.shape h3.c;subst ez hvp ey;have ai:=Box3.made w 28 (.slice ao Q.orders.length co) (.slice ap Q.powers.length cp) (.slice ac Q.conj.length cc);have E:Ext w (w.alloc (.cells #[.slice ao Q.orders.length co,.slice ap Q.powers.length cp,.slice ac Q.conj.length cc] 28)):=World.grownBy_alloc _ _ _;have aj:=h3.o.ext E;have M:=hs.ext E;have b:(w.alloc (.cells #[.slice ao Q.orders.length co,.slice ap Q.powers.length cp,.slice ac Q.conj.length cc] 28)).heap.size=w.heap.size+1:=by simp
 have HZ:=Lib.hid (And.intro b M);clear b M hs h3;go_enter Tryz.func246,Tryz.ntmps246;go_wp2_with fail
 generalize w.alloc (.cells #[.slice ao Q.orders.length co,.slice ap Q.powers.length cp,.slice ac Q.conj.length cc] 28)=w0 at *;have b:w0.heap.size=w.heap.size+1:=HZ.out.1;have G:=World.grownBy_alloc w0 (.cells #[] 2) none;have r:Own w0.heap.size (w0.alloc (.cells #[] 2)) (.slice (some ⟨w0.heap.size,0,none⟩) 0 0) []:=World.ownsRow_lit w0 #[] 0 (Nat.le_refl _) (by decide) rfl;have HS:=Lib.hid (HZ.out.2.ext G);have N:=grown_of_ext (some sb) G;clear G;have HW:=Lib.hid b;rw[b] at r;have aG:w.heap.size+1<=w0.heap.size:=by omega
 clear b HZ;generalize w0.alloc (.cells #[] 2)=w1 at *;rw[<-HW.out] at r;rw[<-HW.out];go_loopw [5,6] (λov iv wr=>∃(i:Nat) (l:List Int) (v4:Value),v4=ov/\iv=.int .i64 i/\i<=Q.orders.length/\Hid (l.length=i/\∀k,k<l.length->0<=gt l k/\gt l k<gt Q.orders k)/\w0.grownBy wr (some sb)/\Own w0.heap.size wr v4 l/\Hid (Src K wr sb)) (λ_ iv _=>Q.orders.length-(intOf iv).toNat)
 case atStart=>exact⟨0,[],_,rfl,rfl,by omega,Lib.hid ⟨rfl,λk hk=>by simp at hk⟩,N,r,HS⟩
 case round=>
  clear N r HS;obtain⟨i,l,v4,rfl,rfl,hi,hli,hg,hO,O⟩:=hrel;have an:=ai.moved hg (by omega);obtain⟨b0,b1,b2,b3,b4⟩:=id an;have R:∀j,v4.ownBlock=some j->w0.heap.size<=j:=λj A=>(hO.lt j A).1;have L:=Lib.hid R;clear R;by_cases B:i<Q.orders.length
  ·have S:(i:Int)<Q.orders.length:=by omega
   obtain⟨bo,oo,rfl,iM,_,H⟩:=Ints.at aj i B;have hc:=hg.cell H (by simp;exact hF _ iM);have h7:=hV.ord7 i B;obtain⟨x,hx⟩:∃x,x=gt Q.orders i:=⟨_,rfl⟩;rw[<-hx] at hc H h7;have HX:=Lib.hid hx;clear hx H;go_wp2_with fail
   refine Calls.mono (l01Next_ok K wr sb x O.out) ?_;rintro e3 w3 ⟨v3,rfl,hg3,y,rfl,_,hy1,U⟩;have hy:=hy1 (by omega);have V:=grown_trans hg hg3;have W:Own w0.heap.size w3 _ l:=hO.kept hg3 (.inr (λe=>by have:=L.out sb e;omega));clear hc hO hy1;go_wp2_with fail
   refine Calls.mono (l01Next_ok K w3 sb 3 U) ?_;rintro e4 w4 ⟨aK,rfl,hg4,z,rfl,_,_,X⟩;have a:=grown_trans V hg4;have Y:Own w0.heap.size w4 _ l:=W.kept hg4 (.inr (λe=>by have:=L.out sb e;omega));have C:l.length<=1000000:=by have:=hli.out.1;omega
   have D:=Lib.hid (And.intro X C);clear X C W U
   have hrel:∀u:Int,0<=u/\u<x->∀k,k<(l++[u]).length->0<=gt (l++[u]) k/\gt (l++[u]) k<gt Q.orders k:=λu hu k hk=>by
    by_cases h:k<l.length
    ·rw[gt_append_left _ _ _ h];exact hli.out.2 k h
    ·have ar:k=l.length:=by simp at hk;omega
     subst ar;rw[gt_concat,hli.out.1,<-HX.out];exact hu
   have HR:=Lib.hid hrel;clear hrel;by_cases hz:z=0
   ·have au:(z == 0)=true:=by simp[hz]
    clear hz;go_wp2_with (first|(at_builtin;refine wp_app_int rfl _ _ rfl w0.heap.size v4 l 0 rfl w4 Y rfl rfl D.out.2 a.size ?_;intro v5 w5 I m)|fail)
    have J:=D.out.1.own m (λj A=>by have:=L.out j A;omega);have q:w0.grownBy w5 (some sb):=grown_own a m (λj A B=>by have:=L.out j A;omega);have C:(l++[(0:Int)]).length=l.length+1:=by simp
    go_roundw
    case rel=>exact⟨i+1,l++[0],v5,rfl,by go_num,by omega,Lib.hid ⟨by have:=hli.out.1;omega,HR.out 0 (by omega)⟩,q,I,Lib.hid J⟩
    case measure=>simp[intOf];omega
   ·have au:(z == 0)=false:=by simp[hz]
    clear hz;go_wp2_with (first|(at_builtin;refine wp_app_int rfl _ _ rfl w0.heap.size v4 l y rfl w4 Y rfl rfl D.out.2 a.size ?_;intro v5 w5 I m)|fail)
    have J:=D.out.1.own m (λj A=>by have:=L.out j A;omega);have q:w0.grownBy w5 (some sb):=grown_own a m (λj A B=>by have:=L.out j A;omega);have C:(l++[y]).length=l.length+1:=by simp
    go_roundw
    case rel=>exact⟨i+1,l++[y],v5,rfl,by go_num,by omega,Lib.hid ⟨by have:=hli.out.1;omega,HR.out y hy⟩,q,I,Lib.hid J⟩
    case measure=>simp[intOf];omega
  ·have S:¬((i:Int)<Q.orders.length):=by omega
   have Z:Vec Q.orders l:=⟨by have:=hli.out.1;omega,λk hk=>hli.out.2 k (by have:=hli.out.1;omega)⟩;have HV:=Lib.hid Z;clear Z;obtain⟨al,cl,rfl,_⟩:=(hO.ints (by have:=HV.out.1;omega)).shape;have aw:w.grownBy wr (some sb):=grown_trans (grown_of_ext (some sb) E) hg;go_wp2_with fail
   go_ret;exact⟨_,rfl,aw,⟨al,cl,l,rfl,HV.out,Own.weak hO (by omega)⟩,O.out⟩
theorem l12Some_ok (H:Nat) (w:World) (sb:Nat) (pv:Value) (P:Pr) (F:Nat->Prop) (G:Grp P) (aB:H<=w.heap.size) (hs:Src H w sb) (hp:PresV F w pv P) (hF:∀k,F k->k≠sb) :
  Calls Tryz.prog 159 #[.pointer (some ⟨sb,0,none⟩),pv] w (Mut w (some sb) (DrawR H sb λw' v=>∃U,U.length<=6/\(∀x∈U,x.length<=6)/\ShQ (λk=>k<w.heap.size) w.heap.size w' v U)):=by
 have aD:=hs.lt;have aj:=G.v.n6;obtain⟨vo,vp,vc,rfl,h3⟩:=hp;obtain⟨ao,co,ez,_,_⟩:=h3.o.shape;obtain⟨ap,cp,hvp,_,_⟩:=Sl.shape h3.p;obtain⟨ac,cc,ey,_,_⟩:=Sl.shape h3.c;subst ez hvp ey;have ak:=Box3.made w 28 (.slice ao P.orders.length co) (.slice ap P.powers.length cp) (.slice ac P.conj.length cc);have u:Ext w (w.alloc (.cells #[.slice ao P.orders.length co,.slice ap P.powers.length cp,.slice ac P.conj.length cc] 28)):=World.grownBy_alloc _ _ _;have al:=h3.ext u;have I:=hs.ext u;have i:(w.alloc (.cells #[.slice ao P.orders.length co,.slice ap P.powers.length cp,.slice ac P.conj.length cc] 28)).heap.size=w.heap.size+1:=by simp
 have HZ:=Lib.hid (And.intro i I);clear I hs h3;go_enter Tryz.func159,Tryz.ntmps159;go_wp2_with fail
 generalize w.alloc (.cells #[.slice ao P.orders.length co,.slice ap P.powers.length cp,.slice ac P.conj.length cc] 28)=w0 at *;have z:=World.grownBy_alloc w0 (.cells #[] 24) none;have A:ShQ (λk=>k<w.heap.size+1) w0.heap.size (w0.alloc (.cells #[] 24)) (.slice (some ⟨w0.heap.size,0,none⟩) 0 0) []:=ShQ.lit _ _ _ (Nat.le_refl _);have HS:=Lib.hid (HZ.out.2.ext z);have J:=grown_of_ext (some sb) z;clear z;have HW:=Lib.hid i;rw[i] at A;have aE:w.heap.size+1<=w0.heap.size:=by omega
 clear i HZ;generalize w0.alloc (.cells #[] 24)=w1 at *;refine Calls.mono (l01Next_ok H w1 sb 4 HS.out) ?_;rintro e2 w2 ⟨v2,rfl,hg2,k0,rfl,_,hk1,hs2⟩;have hk:=hk1 (by omega)
 have B:=A.kept hg2.size (λj l m=>hg2.block j l (λe=>by
  have:=Option.some.inj e;rcases m with m|m
  ·have:=own_blk m;omega
  ·omega)) (λ_ _ h=>h)
 have q:=grown_trans J hg2;have K:=Lib.hid hs2;clear hs2 A J hg2 HS hk1;rw[<-HW.out] at B;rw[<-HW.out];go_wp2_with fail
 go_loopw [5,6] (λov kv wr=>∃(k:Int) (L:List (List Int)) (v4:Value),v4=ov/\kv=.int .i64 k/\0<=k/\k<=3/\Hid (L.length+k<=3/\∀x∈L,Vec P.orders x)/\w0.grownBy wr (some sb)/\ShQ (λk=>k<w0.heap.size) w0.heap.size wr v4 L/\Hid (Src H wr sb)) (λ_ kv _=>(intOf kv).toNat)
 case atStart=>exact⟨k0,[],_,rfl,rfl,hk.1,by omega,Lib.hid ⟨by simp;omega,λx hx=>by cases hx⟩,q,B,K⟩
 case round=>
  clear B q K hk;obtain⟨k,L,v4,rfl,rfl,hk0,hk3,iT,M,N,O⟩:=hrel;have Q:=ak.moved M (by omega);obtain⟨b0,b1,b2,b3,b4⟩:=id Q;have R:Pres3 F wr _ _ _ P:=al.mono (frame_of M (λk hk _=>⟨hk,λe=>hF k hk (Option.some.inj e).symm⟩));have S:∀j,v4.ownBlock=some j->w0.heap.size<=j:=λj l=>(N.lt j l).1;have HO:=Lib.hid S;clear S;have aI:=M.size;by_cases aJ:0<k
  ·go_wp2_with fail
   refine Calls.mono (l10Some_ok H wr sb _ P F (by omega) O.out ⟨_,_,_,rfl,R⟩ hF G.v) ?_;rintro e3 w3 ⟨v3,rfl,a,⟨a3,c3,x,rfl,C,D⟩,V⟩;have r:=grown_trans M a
   have hQ3:ShQ (λk=>k<w0.heap.size) w0.heap.size w3 v4 L:=N.kept a.size (λj l m=>a.block j l (λe=>by
    have:=Option.some.inj e;rcases m with m|m
    ·have:=HO.out j m;omega
    ·omega)) (λ_ _ h=>h)
   have aq:Ints (λk=>¬k<w0.heap.size/\v4.ownBlock≠some k) w3 (.slice a3 x.length c3) x:=ints_of_own D (by rw[C.1];omega) (λk hk=>by
    have h1:=(D.lt k hk).1;exact⟨by omega,λe=>by have:=(N.lt k e).2;omega⟩)
   have b:L.length<=1000000:=by have:=iT.out.1;omega
   have E:=Lib.hid (And.intro V (And.intro C b));clear V C b D N Q b0 b1 b2 b3 b4;go_wp2_with (first|(at_builtin;refine wp_shq_app rfl _ _ rfl (λk=>k<w0.heap.size) w0.heap.size v4 _ L x rfl w3 hQ3 rfl aq rfl E.out.2.2 r.size ?_;intro v5 w5 ar W aN)|fail)
   have au:=E.out.1.own W (λj l=>by have:=HO.out j l;omega);have X:w0.grownBy w5 (some sb):=grown_own r W (λj l aO=>by have:=HO.out j l;omega);have aQ:(L++[x]).length=L.length+1:=by simp
   go_roundw
   case rel=>exact⟨k-1,L++[x],v5,rfl,rfl,by omega,by omega,Lib.hid ⟨by have:=iT.out.1;omega,λy hy=>by
    rcases List.mem_append.1 hy with h|h
    ·exact iT.out.2 y h
    ·rw[List.mem_singleton.1 h];exact E.out.2.1⟩,X,ar,Lib.hid au⟩
   case measure=>simp[intOf];omega
  ·have av:w.grownBy wr (some sb):=grown_trans (grown_of_ext (some sb) u) M
   have Y:=N.rows;have b:L.length<=10000:=by have:=iT.out.1;omega
   have HC:=Lib.hid (And.intro Y b);clear Y b;go_wp2_with fail
   refine Calls.mono (l12CloseF_ok P G wr _ _ L F Any ⟨_,_,_,rfl,R⟩ HC.out.1 iT.out.2 HC.out.2) ?_;rintro e3 w3 ⟨v3,rfl,a,hQ3⟩;have hS:=G.genP_sub iT.out.2;have Z:=G.cseq_len hS;have aa:∀x∈cseq P (genP P (λx=>x∈L)),x.length<=6:=λx hx=>by rw[((G.seq_facts hS).1.1 x hx).1.1];omega
   obtain⟨a5,c5,rfl,_⟩:=hQ3.shape;have HU:=Lib.hid (And.intro Z (And.intro aa (And.intro hQ3 (O.out.ext a))));clear Z aa hQ3 hS;go_wp2_with fail
   go_ret;refine⟨_,rfl,grown_trans av (grown_of_ext _ a),⟨_,Nat.le_trans HU.out.1 aj,HU.out.2.1,?_⟩,HU.out.2.2.2⟩;exact(HU.out.2.2.1.kept (Nat.le_refl _) (λ_ _ _=>rfl) (λk _ hk=>by have hk:k<w.heap.size:=hk;show k<wr.heap.size;omega)).weak (by omega)
def RowsDr (B:Nat) (w':World) (v:Value):Prop:=∃U:List (List Int),U.length<=8/\(∀x∈U,x.length<=21)/\Rows2 (From B) w' v U
theorem drow_one {w:World}{B n:Nat}{a:Option Addr}{c:Nat}{l:List Int}(b:l.length<=21) (hO:Own B w (.slice a n c) l) (hB:B<=w.heap.size) :
  RowsDr B (w.alloc (.cells #[.slice a n c] 24)) (.slice (some ⟨w.heap.size,0,none⟩) 1 1):=by
 refine⟨[l],by simp,by simpa using b,⟨_,_,rfl,⟨Nat.le_refl _,by simp,λh=>by cases h⟩,λi hi=>⟨w.heap.size,0,.slice a n c,rfl,hB,by simp,?_,?_⟩⟩⟩
 ·have:i=0:=by simpa using hi
  subst this;rw[World.cell?_alloc_at _ _ _ _ rfl];rfl
 ·have:i=0:=by simpa using hi
  subst this;exact Ints.ext (xs:=l) (ints_of_own hO (by omega) (λk hk=>(hO.lt k hk).1)) (World.grownBy_alloc _ _ _)
theorem shq_dr {w:World}{B:Nat}{v:Value}{U:List (List Int)}(h1:U.length<=8) (a:∀x∈U,x.length<=21) (h:ShQ (λk=>k<B) B w v U):RowsDr B w v:=
 ⟨U,h1,a,Rows2.sub (ShQ.rowsB h (λ_ hk=>hk)) (λ_ hk _=>Nat.le_of_not_lt hk)⟩
theorem rowsO_put {w w':World}{g n cap:Nat}{a:Option Addr}{m c:Nat}{U:List (List Int)}{l:List Int}{B C:Nat}(hO:RowsO B w (.slice (some ⟨g,0,none⟩) n cap) U) (hn:n=U.length) (hU:U.length<=8) (G:∀x∈U,x.length<=21) (L:w.heap.size<=C)
  (i:∀k,B<=k->k<w.heap.size->w'.heap[k]? = w.heap[k]?) (j:w.heap.size<=w'.heap.size) (H:l.length<=21) (D:Own C w' (.slice a m c) l) (hi:0<U.length) (p:B<=C) :
  (∃z,w'.cell? ⟨g,0,none⟩=some z)/\w'.frozen? ⟨g,0,none⟩=false/\B<=g/\g<w.heap.size/\RowsDr B (w'.setCell ⟨g,0,none⟩ (.slice a m c)) (.slice (some ⟨g,0,none⟩) n cap):=by
 have h1:RowsI (λk=>B<=k/\k<w.heap.size) w (.slice (some ⟨g,0,none⟩) n cap) U:=SlI.of hO (by omega) (λk h I=>⟨h,I⟩);have q:RowsI (λk=>B<=k/\k<w.heap.size) w' (.slice (some ⟨g,0,none⟩) n cap) U:=rdRowsI.mono h1 (λk hk b=>⟨hk,Nat.lt_of_lt_of_le b j,i k hk.1 b⟩);obtain⟨J,hf⟩:=SlI.place q 0 hi
 have E:B<=g/\g<w.heap.size:=by
  rcases SlI.form q with⟨e,_⟩|⟨M,c',e,hF,_⟩
  ·cases e
  ·cases e;exact hF
 have r:SlI (λF w u (x:List Int)=>Ints F w u x) 24 (λk=>B<=k/\k<w.heap.size) w' (.slice (some ⟨g,0,none⟩) n cap) U:=SlI.map (λ_ _ _ _ h=>h.ints) q;have y:RdOk (λF w u (x:List Int)=>Ints F w u x):=⟨λh i=>Ints.mono h i,λh=>by obtain⟨_,_,rfl,_⟩:=h.shape;rfl⟩;have A:Ints (From C) w' (.slice a m c) l:=ints_of_own D (by omega) (λk hk=>(D.lt k hk).1);have K:=SlI.putR y r A (λk hk h=>by have hk:C<=k:=hk;omega) 0;refine⟨J,hf,E.1,E.2,U.set 0 l,by simpa using hU,λx hx => ?_,Rows2.sub (S:=λk=>(B<=k/\k<w.heap.size)\/From C k) K (λk hk _ => ?_)⟩
 ·rcases List.mem_or_eq_of_mem_set hx with h|h
  ·exact G x h
  ·rw[h];exact H
 ·rcases hk with h|h
  ·exact h.1
  ·exact Nat.le_trans p h
set_option maxHeartbeats 16000000 in
theorem l12Draw_ok (O:Nat) (w:World) (sb:Nat) (pv:Value) (P:Pr) (F:Nat->Prop) (bh:O<=w.heap.size) (hs:Src O w sb) (hp:PresV F w pv P) (hF:∀k,F k->k≠sb) (hn:P.orders.length<=20) :
  Calls Tryz.prog 109 #[.pointer (some ⟨sb,0,none⟩),pv] w (Mut w (some sb) (DrawR O sb (RowsDr w.heap.size))):=by
 have bj:=hs.lt;obtain⟨vo,vp,vc,rfl,h3⟩:=hp;obtain⟨W,co,ez,_,_⟩:=h3.o.shape;obtain⟨ap,X,hvp,_,_⟩:=Sl.shape h3.p;obtain⟨Y,Z,ey,_,_⟩:=Sl.shape h3.c;subst ez hvp ey;have am:=Box3.made w 28 (.slice W P.orders.length co) (.slice ap P.powers.length X) (.slice Y P.conj.length Z);have L:Ext w (w.alloc (.cells #[.slice W P.orders.length co,.slice ap P.powers.length X,.slice Y P.conj.length Z] 28)):=World.grownBy_alloc _ _ _;have an:=h3.ext L;have aq:=hs.ext L;have aX:(w.alloc (.cells #[.slice W P.orders.length co,.slice ap P.powers.length X,.slice Y P.conj.length Z] 28)).heap.size=w.heap.size+1:=by simp
 have HZ:=Lib.hid (And.intro aq an);clear aq hs h3 an;go_enter Tryz.func109,Tryz.ntmps109;go_wp2_with fail
 generalize w.alloc (.cells #[.slice W P.orders.length co,.slice ap P.powers.length X,.slice Y P.conj.length Z] 28)=w0 at *;refine Calls.mono (l08Group_ok P w0 _ F ⟨_,_,_,rfl,HZ.out.2⟩) ?_;rintro e1 l ⟨v1,rfl,y,rfl⟩;have aa:=am.ext y;have ar:=HZ.out.1.ext y;have au:PresV F l (.agg #[.slice W P.orders.length co,.slice ap P.powers.length X,.slice Y P.conj.length Z]) P:=⟨_,_,_,rfl,HZ.out.2.ext y⟩;have Q:=grown_trans (grown_of_ext (some sb) L) (grown_of_ext (some sb) y);have bl:w.heap.size+1<=l.heap.size:=by have:=y.size;omega
 have R:=Lib.hid (And.intro ar (And.intro au Q));clear ar au Q L y am HZ aX;obtain⟨b0,b1,b2,b3,b4⟩:=id aa;cases hr:rconsB P with
 | false=>
  go_wp2_with fail
  refine Calls.mono (l07Vectors_ok O l sb _ P F (by omega) R.out.1 R.out.2.1 hF hn) ?_;rintro e2 w2 ⟨v2,rfl,i,⟨a2,c2,l2,rfl,aw,ax⟩,E⟩;have aZ:=i.size;have H2:=Lib.hid (And.intro aw (And.intro ax (And.intro E i)));clear aw ax E i;go_wp2_with fail
  go_ret;have ay:=World.grownBy_alloc w2 (.cells #[.slice a2 l2.length c2] 24) none;refine⟨_,rfl,grown_trans R.out.2.2 (grown_trans H2.out.2.2.2 (grown_of_ext _ ay)),?_,H2.out.2.2.1.ext ay⟩;exact drow_one H2.out.1 (Own.weak H2.out.2.1 (by omega)) (by omega)
 | true=>
  have G:=grp_of_r hr;have bn:=G.v.n6;go_wp2_with fail
  refine Calls.mono (l12Some_ok O l sb _ P F G (by omega) R.out.1 R.out.2.1 hF) ?_;rintro e2 w2 ⟨v2,rfl,i,⟨U,az,H,hQ⟩,E⟩;have aA:=aa.moved i (by omega);have aZ:=i.size;obtain⟨aU,cU,rfl,a1⟩:=hQ.shape;have HU:=Lib.hid (And.intro az (And.intro H (And.intro hQ E)));clear H hQ E;have HG:=Lib.hid i;clear i b0 b1 b2 b3 b4;go_wp2_with fail
  refine Calls.mono (l01Next_ok O w2 sb 30 HU.out.2.2.2) ?_;rintro e3 w3 ⟨v3,rfl,q,x,rfl,_,A,aC⟩;have af:=aA.moved q (by omega);have bo:=q.size
  have hQ3:ShQ (λk=>k<l.heap.size) l.heap.size w3 (.slice aU U.length cU) U:=HU.out.2.2.1.kept q.size (λj B M=>q.block j B (λe=>by
   have:=Option.some.inj e;rcases M with M|M
   ·have:=(HU.out.2.2.1.lt j M).1;omega
   ·omega)) (λ_ _ h=>h)
  have aD:PresV F w3 (.agg #[.slice W P.orders.length co,.slice ap P.powers.length X,.slice Y P.conj.length Z]) P:=by
   obtain⟨_,_,_,e,h⟩:=R.out.2.1;exact⟨_,_,_,e,h.mono (frame_of (grown_trans HG.out q) (λk hk _=>⟨hk,λe=>hF k hk (Option.some.inj e).symm⟩))⟩
  have S:=grown_trans R.out.2.2 (grown_trans HG.out q);have a:=Lib.hid (And.intro HU.out.2.1 (And.intro hQ3 (And.intro aC (And.intro aD S))));clear hQ3 aC aD S HU HG R q aA aa A;obtain⟨b0,b1,b2,b3,b4⟩:=id af
  have I:RowsDr w.heap.size w3 (.slice aU U.length cU):=by
   obtain⟨U',h1,h2,h3⟩:=shq_dr (by omega) (λx hx=>by have:=a.out.1 x hx;omega) a.out.2.1;exact⟨U',h1,h2,Rows2.sub h3 (λk hk _=>by have hk:l.heap.size<=k:=hk;show w.heap.size<=k;omega)⟩
  have HD:=Lib.hid I;clear I;by_cases J:x=0
  ·subst J
   go_wp2_with fail
   refine Calls.mono (l07Vectors_ok O w3 sb _ P F (by omega) a.out.2.2.1 a.out.2.2.2.1 hF hn) ?_;rintro e4 w4 ⟨v4,rfl,b,⟨a4,c4,l4,rfl,aE,C⟩,K⟩;have aF:=b.size
   have aG:ShQ (λk=>k<l.heap.size) l.heap.size w4 (.slice aU U.length cU) U:=a.out.2.1.kept b.size (λj B M=>b.block j B (λe=>by
    have:=Option.some.inj e;rcases M with M|M
    ·have:=(a.out.2.1.lt j M).1;omega
    ·omega)) (λ_ _ h=>h)
   have a8:Ints (λk=>¬k<l.heap.size/\(Value.slice aU U.length cU).ownBlock≠some k) w4 (.slice a4 l4.length c4) l4:=ints_of_own C (by omega) (λk hk=>by
    have h1:=(C.lt k hk).1;exact⟨by omega,λe=>by have:=(a.out.2.1.lt k e).2;omega⟩)
   have aH:∀j,(Value.slice aU U.length cU).ownBlock=some j->l.heap.size<=j:=λj B=>(aG.lt j B).1;have N:U.length<=1000000:=by omega
   have ai:l.heap.size<=w4.heap.size:=by omega
   have D:=Lib.hid (And.intro aE (And.intro K (And.intro b (And.intro aH (And.intro N ai)))));clear aE K b C aH;go_wp2_with (first|(at_builtin;refine wp_shq_app rfl _ _ rfl (λk=>k<l.heap.size) l.heap.size _ _ U l4 rfl w4 aG rfl a8 rfl D.out.2.2.2.2.1 D.out.2.2.2.2.2 ?_;intro v5 w5 a' r br)|fail)
   go_ret;have aI:=grown_own (grown_trans a.out.2.2.2.2 D.out.2.2.1) r (λj B aj=>by have:=D.out.2.2.2.1 j B;omega);refine⟨_,rfl,aI,?_,D.out.2.1.own r (λj B=>by have:=D.out.2.2.2.1 j B;omega)⟩
   obtain ⟨U',h1,h2,h3⟩:=shq_dr (by simp;omega) (λx hx=>by
    rcases List.mem_append.1 hx with h|h
    ·have:=a.out.1 x h;omega
    ·rw[List.mem_singleton.1 h];exact D.out.1) a'
   exact⟨U',h1,h2,Rows2.sub h3 (λk hk _=>by have hk:l.heap.size<=k:=hk;show w.heap.size<=k;omega)⟩
  by_cases A:x=1
  ·subst A
   clear J;by_cases aJ:1<U.length
   ·obtain ⟨u0,V,rfl⟩:∃u V,U=u :: V:=by
     cases U with
     | nil=>simp at aJ
     | cons u V=>exact⟨_,_,rfl⟩
    have hT:=a.out.2.1.tail;have ak:=run_tail_rows w3 aU (u0 :: V).length cU 1 (by omega) (by omega);rw[show(1:Int).toNat=1 from rfl] at ak;generalize subSl (.slice aU (u0 :: V).length cU) 1 (u0 :: V).length=vT at hT ak;obtain⟨aT,cT,rfl,_⟩:=hT.shape;have ba:(1:Int)<((u0 :: V).length:Nat):=by omega
    have HT:=Lib.hid hT;clear hT;obtain⟨m,hm⟩:∃m,m=(u0 :: V).length:=⟨_,rfl⟩;rw[<-hm] at ak ba aJ az a1;rw[<-hm];have HM:=Lib.hid hm;clear hm;go_wp2_with fail
    go_ret;refine⟨_,rfl,a.out.2.2.2.2,?_,a.out.2.2.1⟩;obtain⟨U',h1,h2,h3⟩:=shq_dr (by have:=HM.out;simp at this;omega) (λx hx=>by have:=a.out.1 x (List.mem_cons_of_mem _ hx);omega) HT.out;exact⟨U',h1,h2,Rows2.sub h3 (λk hk _=>by have hk:l.heap.size<=k:=hk;show w.heap.size<=k;omega)⟩
   ·go_wp2_with fail
    go_ret;exact⟨_,rfl,a.out.2.2.2.2,HD.out,a.out.2.2.1⟩
  by_cases al:x=2
  ·subst al
   clear J A;by_cases bb:0<U.length
   ·have aK:=a.out.2.1.rows
    have H:∀x∈U,x.length<=1000000:=λx hx=>by have:=a.out.1 x hx;omega
    have N:U.length<=1000000:=by omega
    have HC:=Lib.hid (And.intro aK (And.intro H N));clear aK H N;go_wp2_with fail
    refine Calls.mono (l01Own2N_ok w3 _ U Any HC.out.1 HC.out.2.1 HC.out.2.2) ?_;rintro e4 w4 ⟨v4,rfl,b,C,g4,c4,rfl⟩;have aL:=af.ext b;have aF:=b.size;have K:=a.out.2.2.1.ext b
    have aM:PresV F w4 (.agg #[.slice W P.orders.length co,.slice ap P.powers.length X,.slice Y P.conj.length Z]) P:=by
     obtain⟨_,_,_,e,h⟩:=a.out.2.2.2.1;exact⟨_,_,_,e,h.ext b⟩
    have D:=Lib.hid (And.intro K (And.intro aM (And.intro C (grown_trans a.out.2.2.2.2 (grown_of_ext _ b)))));clear K aM C b b0 b1 b2 b3 b4 af;obtain⟨b0,b1,b2,b3,b4⟩:=id aL;go_wp2_with fail
    refine Calls.mono (l07Vectors_ok O w4 sb _ P F (by omega) D.out.1 D.out.2.1 hF hn) ?_;rintro e5 w5 ⟨v5,rfl,r,⟨a5,c5,l5,rfl,lQ,jW⟩,aN⟩;have bd:=r.size;obtain⟨⟨z,hz⟩,hfz,hgB,hgl,hR⟩:=rowsO_put (w':=w5) D.out.2.2.1 rfl (by omega) (λx hx=>by have:=a.out.1 x hx;omega) (Nat.le_refl _) (λk hk aj=>r.block k aj (λe=>by have:=Option.some.inj e;omega)) bd lQ jW bb aF;have H5:=Lib.hid (And.intro r (And.intro aN hR));clear r aN hR lQ jW aL b0 b1 b2 b3 b4;have bx:(0:Int)<(U.length:Nat):=by omega
    go_wp2_with fail
    go_ret;have aO:=grown_set1 w5 g4 0 (.slice a5 l5.length c5);refine⟨_,rfl,grown_own (grown_trans D.out.2.2.2 H5.out.1) aO (λj B aj=>by have:=Option.some.inj B;omega),?_,H5.out.2.1.own aO (λj B=>by have:=Option.some.inj B;omega)⟩;obtain⟨U',h1,h2,h3⟩:=H5.out.2.2;exact⟨U',h1,h2,Rows2.sub h3 (λk hk _=>by have hk:w3.heap.size<=k:=hk;show w.heap.size<=k;omega)⟩
   ·go_wp2_with fail
    go_ret;exact⟨_,rfl,a.out.2.2.2.2,HD.out,a.out.2.2.1⟩
  ·have e0:(x == 0)=false:=by simp[J]
   have e1:(x == 1)=false:=by simp[A]
   have e2:(x == 2)=false:=by simp[al]
   clear J A al;go_wp2_with fail
   go_ret;exact⟨_,rfl,a.out.2.2.2.2,HD.out,a.out.2.2.1⟩
theorem RowsDr.shape {B:Nat}{w:World}{v:Value}(h:RowsDr B w v):∃a n c,v=.slice a n c:=by
 obtain⟨U,_,_,h⟩:=h;obtain⟨a,c,rfl,_⟩:=Sl.shape h;exact⟨_,_,_,rfl⟩
theorem RowsDr.low {B B':Nat}{w:World}{v:Value}(h:RowsDr B w v) (hB:B'<=B):RowsDr B' w v:=by
 obtain⟨U,h1,h2,h3⟩:=h;exact⟨U,h1,h2,Rows2.sub h3 (λk hk _=>Nat.le_trans hB hk)⟩
theorem RowsDr.kept {B:Nat}{r:Option Nat}{w w':World}{v:Value}(h:RowsDr B w v) (a:w.grownBy w' r) (hr:∀k,r=some k->k<B):RowsDr B w' v:=by
 obtain⟨U,h1,h2,h3⟩:=h;exact⟨U,h1,h2,Rows2.mono h3 (frame_of a (λk hk _=>⟨hk,λe=>by have:=hr k e;have hk:B<=k:=hk;omega⟩))⟩
theorem Pres3.keptB {B:Nat}{r:Option Nat}{w w':World}{vo vp vc:Value}{P:Pr}(h:Pres3 (From B) w vo vp vc P) (a:w.grownBy w' r) (hr:∀k,r=some k->k<B):Pres3 (From B) w' vo vp vc P:=
 h.mono (frame_of a (λk hk _=>⟨hk,λe=>by have:=hr k e;have hk:B<=k:=hk;omega⟩))
theorem Pres3.low {B B':Nat}{w:World}{vo vp vc:Value}{P:Pr}(h:Pres3 (From B) w vo vp vc P) (hB:B'<=B):Pres3 (From B') w vo vp vc P:=
 h.mono (λ_ hk a=>⟨Nat.le_trans hB hk,a,rfl⟩)
def PairA (M B:Nat) (w':World) (v:Value):Prop:=∃vo vp vc a P,v=.tuple #[.agg #[vo,vp,vc],a]/\P.orders.length<=M/\Pres3 (From B) w' vo vp vc P/\RowsDr B w' a
theorem pair_ret {w a:World}{sb i M B:Nat}{x y z l:Value}{Q:Pr}(m:w.grownBy a (some sb)) (hB:w.heap.size<B) (b:Src i a sb) (p:i<=w.heap.size) (q:Q.orders.length<=M) (hP:Pres3 (From B) a x y z Q) (hr:RowsDr B a l) :
  Mut w (some sb) (DrawR i sb (PairA M w.heap.size)) (.returned (.tuple #[.agg #[x,y,z],l])) (((a.setCell ⟨w.heap.size,0,none⟩ x).setCell ⟨w.heap.size,1,none⟩ y).setCell ⟨w.heap.size,2,none⟩ z):=by
 have e:=grown_set3 a w.heap.size x y z;exact⟨_,rfl,grown_own m e (λj r u=>by cases r;omega),⟨x,y,z,l,Q,rfl,q,(hP.keptB e (λk hk=>by cases hk;omega)).low (by omega),(hr.kept e (λk hk=>by cases hk;omega)).low (by omega)⟩,b.own e (λk hk=>by cases hk;exact p)⟩
theorem l12Pair_ok (I:Nat) (w:World) (sb:Nat) (i:Int) (V:I<=w.heap.size) (W:Src I w sb) :
  Calls Tryz.prog 236 #[.pointer (some ⟨sb,0,none⟩),.int .i64 i] w (Mut w (some sb) (DrawR I sb (PairA 7 w.heap.size))):=by
 have ae:=W.lt;have J:=Box3.made w 28 (.slice none 0 0) (.slice none 0 0) (.slice none 0 0);have u:Ext w (w.alloc (.cells #[.slice none 0 0,.slice none 0 0,.slice none 0 0] 28)):=World.grownBy_alloc _ _ _;have X:(w.alloc (.cells #[.slice none 0 0,.slice none 0 0,.slice none 0 0] 28)).heap.size=w.heap.size+1:=by simp
 have K:=Lib.hid (W.ext u);clear W;go_enter Tryz.func236,Tryz.ntmps236;go_wp2_with fail
 generalize w.alloc (.cells #[.slice none 0 0,.slice none 0 0,.slice none 0 0] 28)=w0 at *;have Z:w.heap.size+1<=w0.heap.size:=by omega
 clear X;refine Calls.mono (l07Draw_ok I w0 sb i (by omega) K.out) ?_;rintro e1 y ⟨v1,rfl,l,⟨vo,vp,vc,Q,rfl,L,hQ⟩,hs1⟩;obtain⟨a1,z,c1,hy1⟩:∃a n c,vo=.slice a n c:=by obtain⟨a,c,e,_⟩:=hQ.o.shape;exact⟨_,_,_,e⟩
 obtain⟨a2,A,c2,hy2⟩:∃a n c,vp=.slice a n c:=by obtain⟨a,c,e,_⟩:=Sl.shape hQ.p;exact⟨_,_,_,e⟩
 obtain⟨C,D,c3,fV⟩:∃a n c,vc=.slice a n c:=by obtain⟨a,c,e,_⟩:=Sl.shape hQ.c;exact⟨_,_,_,e⟩
 subst hy1 hy2 fV;have b:Ext y (y.alloc (.cells #[.slice a1 z c1,.slice a2 A c2,.slice C D c3] 28)):=World.grownBy_alloc _ _ _;have E:=Box3.made y 28 (.slice a1 z c1) (.slice a2 A c2) (.slice C D c3);obtain⟨pb,F⟩:∃pb,pb=y.heap.size:=⟨_,rfl⟩;rw[<-F] at E;have ab:=l.size;have M:=hQ.ext b;have N:=J.moved l (by omega);have O:=N.ext b;have R:=hs1.ext b;have m:=grown_trans (grown_of_ext (some sb) u) (grown_trans l (grown_of_ext (some sb) b));have af:y.heap.size<=(y.alloc (.cells #[.slice a1 z c1,.slice a2 A c2,.slice C D c3] 28)).heap.size:=b.size;have HP:=Lib.hid F;have G:=Lib.hid (And.intro M (And.intro R (And.intro m L)));clear hQ M R hs1 l J u K N b m L;go_wp2_with fail
 rw[<-HP.out];generalize y.alloc (.cells #[.slice a1 z c1,.slice a2 A c2,.slice C D c3] 28)=q at *;have ag:w0.heap.size<=pb:=by omega
 clear F HP;obtain⟨q0,q1,q2,q3,q4⟩:=id E;have e0:∀w',NearS q sb w.heap.size w'->w'.cell? ⟨pb,0,none⟩=some (.slice a1 z c1):=λw' h=>h.cell q1 (by simp;omega) (by simp;omega);have e1:∀w',NearS q sb w.heap.size w'->w'.cell? ⟨pb,1,none⟩=some (.slice a2 A c2):=λw' h=>h.cell q2 (by simp;omega) (by simp;omega);have e2:∀w',NearS q sb w.heap.size w'->w'.cell? ⟨pb,2,none⟩=some (.slice C D c3):=λw' h=>h.cell q3 (by simp;omega) (by simp;omega);clear q0 q1 q2 q3 q4 E
 go_region_held3 (λw'=>NearS q sb w.heap.size w') (first|exact NearS.ext (grown_drew _ _)|exact NearS.of (by assumption)|exact NearS.two j (grown_set3 _ _ _ _ _)|assumption)
  (first
   | (go_at_call 109;refine Calls.mono (l12Draw_ok I q.drew sb _ Q _ (by have:=(grown_drew q none).size;omega) (G.out.2.1.ext (grown_drew _ _)) ⟨_,_,_,rfl,G.out.1.ext (grown_drew _ _)⟩ (λk hk e=>by have hk:w0.heap.size<=k:=hk;omega) (by have:=G.out.2.2.2;omega)) ?_;rintro e3 w3 ⟨rv,rfl,r,Y,S⟩;have j:q.grownBy w3 (some sb):=grown_trans (grown_of_ext (some sb) (grown_drew _ _)) r;obtain⟨sa,sn,sc,rfl⟩:=Y.shape;have H:=O.moved j (by omega);obtain⟨b0,b1,b2,b3,b4⟩:=id H))
 have am:=(grown_drew q none).size;have hZ:=H.all (.slice a1 z c1) (.slice a2 A c2) (.slice C D c3);obtain⟨-,z0,z1,z2,-⟩:=id hZ;have U:=G.out.1.keptB j (λk hk=>by have:=Option.some.inj hk;omega);have HF:=Lib.hid (And.intro (grown_trans G.out.2.2.1 j) (And.intro Y (And.intro S (And.intro U G.out.2.2.2))));clear Y S U G j r O H hZ e0 e1 e2;go_wp2_with fail
 refine bodyPost_ret (v := .tuple #[.agg #[.slice a1 z c1,.slice a2 A c2,.slice C D c3],.slice sa sn sc]) (by simp[results,Tryz.results236,go_sem,z0,z1,z2]) rfl ?_;exact pair_ret HF.out.1 (B:=w0.heap.size) (by omega) HF.out.2.2.1 V HF.out.2.2.2.2 HF.out.2.2.2.1 (HF.out.2.1.low (by omega))
theorem l01From_ok (w:World) (cv:Value) (bs:List Int) (S:Nat->Prop) (z:Bytes S w cv bs) :
  Calls Tryz.prog 80 #[cv] w (Ret w λw' v=>v=.pointer (some ⟨w.heap.size,0,none⟩)/\Src (w.heap.size+1) w' w.heap.size):=by
 obtain⟨a,cap,rfl,_,hlen⟩:=Sl.shape z;have A:=Box3.made w 163 (.slice a bs.length cap) (.int .i64 0) (.int .i64 76001);have B:Ext w (w.alloc (.cells #[.slice a bs.length cap,.int .i64 0,.int .i64 76001] 163)):=World.grownBy_alloc _ _ _;go_enter Tryz.func80,Tryz.ntmps80;go_wp2_with fail
 generalize w.alloc (.cells #[.slice a bs.length cap,.int .i64 0,.int .i64 76001] 163)=w0 at *;go_loopw [4] (λI wr=>∃(i e:Nat),I=.int .i64 i/\i<=bs.length/\e<2147483647/\Ext w wr/\Box3 wr w.heap.size (.slice a bs.length cap) (.int .i64 0) (.int .i64 e)) (λI _=>bs.length-(intOf I).toNat)
 case atStart=>exact⟨0,76001,rfl,by omega,by omega,B,A⟩
 case round=>
  clear A B;obtain⟨i,e,rfl,hi,hs,q,hB⟩:=hrel;by_cases l:i<bs.length
  ·by_cases O:i<64
   ·obtain ⟨b,off,rfl,j7,hbl,r,J,K⟩:=Bytes.at z i l
    have u:=q.cell r (by simp);generalize gt bs i=x at r u J K;have C:(i:Int)<(bs.length:Nat):=by omega
    have L:(i:Int)<64:=by omega
    obtain⟨p,y⟩:∃p:Nat,((e:Int)*71+x)%2147483647=(p:Int)/\p<2147483647:=⟨(((e:Int)*71+x)%2147483647).toNat,by omega,by omega⟩;have D:=(hB.put (.int .i64 (p:Nat))).2.2;have E:=grown_set wr w.heap.size 2 (.int .i64 (p:Nat));have F:Ext w (wr.setCell ⟨w.heap.size,2,none⟩ (.int .i64 (p:Nat))):=grown_own q E (λj Q l=>by have:=Option.some.inj Q;omega);have G:=D.ext (grown_drew (wr.setCell ⟨w.heap.size,2,none⟩ (.int .i64 (p:Nat))) none);have H:=grown_trans F (grown_drew (wr.setCell ⟨w.heap.size,2,none⟩ (.int .i64 (p:Nat))) none);have R:IntKind.i64.wrap ((e:Int)*71)=(e:Int)*71:=IntWalk.i64_in _ (by omega);have U:IntKind.i64.wrap ((e:Int)*71+x)=(e:Int)*71+x:=IntWalk.i64_in _ (by omega);have V:IntKind.i64.wrap x=x:=IntWalk.i64_in _ (by omega);have M:((e:Int)*71+x).tmod 2147483647=(p:Int):=by rw[Int.tmod_eq_emod_of_nonneg (by omega)];exact y.1
    obtain⟨N,h1,h2,h3,h4⟩:=id hB;have c0:wr.drew.cell? ⟨w.heap.size,2,none⟩=some (.int .i64 e):=h3;have c1:wr.drew.cell? ⟨b,off+i,none⟩=some (.int .u8 x):=u;have c2:w.heap.size<wr.drew.heap.size:=N;have c3:=h4;have m:=Lib.hid (And.intro H (And.intro G (And.intro y.2 z)));clear H G y z F E D hB q N h1 h2 h3 r u;go_wp2;go_still_tail 15,(by kernel_rfl)
    change wpList _ _ _ _ _ wr.drew;go_wp2;go_roundw
    case rel=>exact⟨i+1,p,by go_num,by omega,m.out.2.2.1,m.out.1,m.out.2.1⟩
    case measure=>simp[intOf];omega
   ·have C:(i:Int)<(bs.length:Nat):=by omega
    have L:¬(i:Int)<64:=by omega
    have m:=Lib.hid (And.intro q hB);clear q hB;go_wp2;go_ret;exact⟨_,rfl,m.out.1,rfl,_,0,e,bs,m.out.2,Bytes.mono z (λk _ l=>⟨⟨by omega,by omega⟩,Nat.lt_of_lt_of_le l m.out.1.size,m.out.1.block k l (by simp)⟩),by omega,hs,by omega⟩
  ·have C:¬(i:Int)<(bs.length:Nat):=by omega
   have m:=Lib.hid (And.intro q hB);clear q hB;go_wp2;go_ret;exact⟨_,rfl,m.out.1,rfl,_,0,e,bs,m.out.2,Bytes.mono z (λk _ l=>⟨⟨by omega,by omega⟩,Nat.lt_of_lt_of_le l m.out.1.size,m.out.1.block k l (by simp)⟩),by omega,hs,by omega⟩
theorem l15Pair_ok (N:Nat) (w:World) (sb:Nat) (aX:N<=w.heap.size) (hs:Src N w sb) :
  Calls Tryz.prog 145 #[.pointer (some ⟨sb,0,none⟩)] w (Mut w (some sb) (DrawR N sb (PairA 7 w.heap.size))):=by
 have aY:=hs.lt;have ag:=Box3.made w 28 (.slice none 0 0) (.slice none 0 0) (.slice none 0 0);have V:Ext w (w.alloc (.cells #[.slice none 0 0,.slice none 0 0,.slice none 0 0] 28)):=World.grownBy_alloc _ _ _;have aI:(w.alloc (.cells #[.slice none 0 0,.slice none 0 0,.slice none 0 0] 28)).heap.size=w.heap.size+1:=by simp
 have ah:=Lib.hid (hs.ext V);clear hs;go_enter Tryz.func145,Tryz.ntmps145;go_wp2_with fail
 generalize w.alloc (.cells #[.slice none 0 0,.slice none 0 0,.slice none 0 0] 28)=w0 at *;have aR:w.heap.size+1<=w0.heap.size:=by omega
 clear aI;refine Calls.mono (l12Pair_ok N w0 sb 108 (by omega) ah.out) ?_;rintro e3 w1 ⟨v3,rfl,K,⟨uo,up,uc,rv,Q,rfl,aj,hQ,kD⟩,hs3⟩;obtain⟨a1,i,c1,hy1⟩:∃a n c,uo=.slice a n c:=by obtain⟨a,c,e,_⟩:=hQ.o.shape;exact⟨_,_,_,e⟩
 obtain⟨a2,l,c2,hy2⟩:∃a n c,up=.slice a n c:=by obtain⟨a,c,e,_⟩:=Sl.shape hQ.p;exact⟨_,_,_,e⟩
 obtain⟨m,q,c3,fV⟩:∃a n c,uc=.slice a n c:=by obtain⟨a,c,e,_⟩:=Sl.shape hQ.c;exact⟨_,_,_,e⟩
 obtain⟨ra,rn,rc,rfl⟩:=kD.shape;subst hy1 hy2 fV;have C:Ext w1 (w1.alloc (.cells #[.slice a1 i c1,.slice a2 l c2,.slice m q c3] 28)):=World.grownBy_alloc _ _ _;have H:=Box3.made w1 28 (.slice a1 i c1) (.slice a2 l c2) (.slice m q c3);obtain⟨pb,W⟩:∃pb,pb=w1.heap.size:=⟨_,rfl⟩;rw[<-W] at H;have aS:=K.size;have ak:=hQ.ext C;have X:=kD.kept C (λk hk=>by cases hk);have al:=(ag.moved K (by omega)).ext C;have am:=hs3.ext C;have O:=grown_trans (grown_trans (grown_of_ext (some sb) V) K) (grown_of_ext (some sb) C);have HP:=Lib.hid W;obtain⟨U,nV,nW,an⟩:=id X;have L:=Lib.hid (And.intro ak (And.intro am (And.intro O (And.intro aj (And.intro X an)))));clear hQ ak am hs3 K ag V C O aj X kD an nV nW ah;obtain⟨q0,q1,q2,q3,q4⟩:=id H;go_wp2_with fail
 rw[<-HP.out];clear q0 q1 q2 q3 q4;generalize w1.alloc (.cells #[.slice a1 i c1,.slice a2 l c2,.slice m q c3] 28)=w3 at *;have aZ:w0.heap.size<=pb:=by omega
 have aV:pb<w3.heap.size:=H.1;clear W HP;refine Calls.mono (sIsSubgroup_ok Q w3 _ _ U _ _ ⟨_,_,_,rfl,L.out.1⟩ L.out.2.2.2.2.2) ?_;rintro e4 w4 ⟨v4,rfl,u,r,rfl,hr⟩;have I:=H.ext u;have M:=al.ext u;have a0:=u.size;have D:=Lib.hid (And.intro (L.out.1.ext u) (And.intro (L.out.2.1.ext u) (And.intro (grown_trans L.out.2.2.1 (grown_of_ext (some sb) u)) (And.intro L.out.2.2.2.1 (And.intro (L.out.2.2.2.2.1.kept u (λk hk=>by cases hk)) (Rows2.ext L.out.2.2.2.2.2 u))))));clear L H al u;cases r with
 | false=>
  clear hr;obtain⟨q0,q1,q2,q3,q4⟩:=id I;obtain⟨p0,p1,p2,p3,p4⟩:=id M;have R:=M.all (.slice a1 i c1) (.slice a2 l c2) (.slice m q c3);obtain⟨-,z0,z1,z2,-⟩:=id R;have y:=grown_set3 w4 w.heap.size (.slice a1 i c1) (.slice a2 l c2) (.slice m q c3);have J:∀k,some w.heap.size=some k->k<w0.heap.size:=λk hk=>by have:=Option.some.inj hk;omega
  have b:Mut w (some sb) (DrawR N sb (PairA 7 w.heap.size)) (.returned (.tuple #[.agg #[.slice a1 i c1,.slice a2 l c2,.slice m q c3],.slice ra rn rc])) (((w4.setCell ⟨w.heap.size,0,none⟩ (.slice a1 i c1)).setCell ⟨w.heap.size,1,none⟩ (.slice a2 l c2)).setCell ⟨w.heap.size,2,none⟩ (.slice m q c3)):=
   ⟨_,rfl,grown_own D.out.2.2.1 y (λj hj aq=>by have:=Option.some.inj hj;omega),⟨_,_,_,_,Q,rfl,D.out.2.2.2.1,(D.out.1.keptB y J).low (by omega),(D.out.2.2.2.2.1.kept y (λk hk=>by have:=Option.some.inj hk;omega)).low (by omega)⟩,D.out.2.1.own y (λk hk=>by have:=Option.some.inj hk;omega)⟩
  have HE:=Lib.hid b;clear b y R;go_wp2_with fail
  refine bodyPost_ret (v := .tuple #[.agg #[.slice a1 i c1,.slice a2 l c2,.slice m q c3],.slice ra rn rc]) (by simp[results,Tryz.results145,go_sem,z0,z1,z2]) rfl ?_;exact HE.out
 | true=>
  have HU:=Lib.hid (hr.1 rfl);clear hr;have G:=grp_of_r HU.out.1;have a5:=G.v.n6;go_wp2_with fail
  refine Calls.mono (l01Next_ok N w4 sb 8 D.out.2.1) ?_;rintro e5 E ⟨v5,rfl,z,x,rfl,_,_,au⟩;have aW:=z.size;have S:=I.moved z (by omega);have Y:=M.moved z (by omega);have av:Rows2 (From w0.heap.size) E (.slice ra rn rc) U:=Rows2.mono D.out.2.2.2.2.2 (frame_of z (λk hk _=>⟨hk,λe=>by have:=Option.some.inj e;have hk:w0.heap.size<=k:=hk;omega⟩));have F:=Lib.hid (And.intro (D.out.1.keptB z (λk hk=>by have:=Option.some.inj hk;omega)) (And.intro au (And.intro (grown_trans D.out.2.2.1 z) (And.intro D.out.2.2.2.1 (And.intro (D.out.2.2.2.2.1.kept z (λk hk=>by have:=Option.some.inj hk;omega)) av)))));clear D I M z au av;by_cases hx:0<x
  ·obtain ⟨q0,q1,q2,q3,q4⟩:=id S
   have e0:∀w',NearS E sb w.heap.size w'->w'.cell? ⟨pb,0,none⟩=some (.slice a1 i c1):=λw' h=>h.cell q1 (by simp;omega) (by simp;omega);have e1:∀w',NearS E sb w.heap.size w'->w'.cell? ⟨pb,1,none⟩=some (.slice a2 l c2):=λw' h=>h.cell q2 (by simp;omega) (by simp;omega);have e2:∀w',NearS E sb w.heap.size w'->w'.cell? ⟨pb,2,none⟩=some (.slice m q c3):=λw' h=>h.cell q3 (by simp;omega) (by simp;omega);clear q0 q1 q2 q3 q4
   have aw:Rows2 Any E (.slice ra rn rc) (cseq Q (gU Q U)):=by
    have e:cseq Q (gU Q U)=U:=HU.out.2.2.symm;rw[e];exact Rows2.sub F.out.2.2.2.2.2 (λ_ _ _=>trivial)
   have aK:=Lib.hid aw;clear aw;have ax:=gensOf_len Q.orders.length;have ay:=gensOf_vec G.v;have Z:=Lib.hid (And.intro ax ay);clear ax ay;go_wp2
   go_region_held3 (λw'=>NearS E sb w.heap.size w') (first|exact NearS.ext (grown_drew _ _)|exact NearS.ext (by assumption)|exact NearS.two (grown_of_ext (some sb) A) (grown_set3 _ _ _ _ _)|assumption)
    (first
     | (go_at_call 113;refine Calls.mono (l12Whole_ok Q G.v E.drew _ _ ⟨_,_,_,rfl,F.out.1.ext (grown_drew _ _)⟩) ?_;rintro eA wA ⟨vA,rfl,aM,aa⟩;have B:Ext E wA:=grown_trans (grown_drew _ _) aM;obtain⟨aA,cA,iJ,_,_⟩:=Sl.shape aa;subst iJ)
     | (go_at_call 112;refine Calls.mono (l13StableF_ok Q G wA _ _ _ (gU Q U) (gensOf Q.orders.length) _ Any Any (G.subB HU.out.2) ⟨_,_,_,rfl,F.out.1.ext B⟩ (Rows2.ext aK.out B) aa Z.out.2 (by rw[Z.out.1];omega)) ?_;rintro eB wB ⟨vB,rfl,hgB,kE⟩;have A:Ext E wB:=grown_trans B hgB;obtain⟨ya,yc,az,_,_⟩:=Sl.shape kE;obtain⟨yn,ab⟩:∃yn,yn=(cseq Q (stP Q (gU Q U) (gensOf Q.orders.length))).length:=⟨_,rfl⟩;rw[<-ab] at az;subst az;have a9:=Lib.hid ab;clear ab;have aC:=Y.ext A;obtain⟨b0,b1,b2,b3,b4⟩:=id aC))
   have a':=(grown_drew E none).size;have R:=aC.all (.slice a1 i c1) (.slice a2 l c2) (.slice m q c3);obtain⟨-,z0,z1,z2,-⟩:=id R;have y:=grown_set3 wB w.heap.size (.slice a1 i c1) (.slice a2 l c2) (.slice m q c3);have J:∀k,some w.heap.size=some k->k<w0.heap.size:=λk hk=>by have:=Option.some.inj hk;omega
   have ba:=B.size;have ac:=(G.stP_sub (G.subB HU.out.2) Z.out.2);have aQ:(cseq Q (stP Q (gU Q U) (gensOf Q.orders.length))).length<=Q.orders.length:=G.cseq_len ac;have aD:=(G.seq_facts ac).1;have aE:RowsDr wA.heap.size wB (.slice ya yn yc):=⟨_,by omega,λx hx=>by rw[(aD.1 x hx).1.1];omega,kE⟩
   have b:Mut w (some sb) (DrawR N sb (PairA 7 w.heap.size)) (.returned (.tuple #[.agg #[.slice a1 i c1,.slice a2 l c2,.slice m q c3],.slice ya yn yc])) (((wB.setCell ⟨w.heap.size,0,none⟩ (.slice a1 i c1)).setCell ⟨w.heap.size,1,none⟩ (.slice a2 l c2)).setCell ⟨w.heap.size,2,none⟩ (.slice m q c3)):=
    ⟨_,rfl,grown_own (grown_trans F.out.2.2.1 (grown_of_ext (some sb) A)) y (λj hj aq=>by have:=Option.some.inj hj;omega),⟨_,_,_,_,Q,rfl,F.out.2.2.2.1,((F.out.1.ext A).keptB y J).low (by omega),(aE.kept y (λk hk=>by have:=Option.some.inj hk;omega)).low (by omega)⟩,(F.out.2.1.ext A).own y (λk hk=>by have:=Option.some.inj hk;omega)⟩
   have HE:=Lib.hid b;clear b y R ac aQ aD aE kE aa e0 e1 e2;go_wp2_with fail
   refine bodyPost_ret (v := .tuple #[.agg #[.slice a1 i c1,.slice a2 l c2,.slice m q c3],.slice ya yn yc]) (by simp[results,Tryz.results145,go_sem,z0,z1,z2]) rfl ?_;exact HE.out
  ·obtain ⟨q0,q1,q2,q3,q4⟩:=id S
   obtain⟨p0,p1,p2,p3,p4⟩:=id Y;have R:=Y.all (.slice a1 i c1) (.slice a2 l c2) (.slice m q c3);obtain⟨-,z0,z1,z2,-⟩:=id R;have y:=grown_set3 E w.heap.size (.slice a1 i c1) (.slice a2 l c2) (.slice m q c3);have J:∀k,some w.heap.size=some k->k<w0.heap.size:=λk hk=>by have:=Option.some.inj hk;omega
   have b:Mut w (some sb) (DrawR N sb (PairA 7 w.heap.size)) (.returned (.tuple #[.agg #[.slice a1 i c1,.slice a2 l c2,.slice m q c3],.slice ra rn rc])) (((E.setCell ⟨w.heap.size,0,none⟩ (.slice a1 i c1)).setCell ⟨w.heap.size,1,none⟩ (.slice a2 l c2)).setCell ⟨w.heap.size,2,none⟩ (.slice m q c3)):=
    ⟨_,rfl,grown_own F.out.2.2.1 y (λj hj aq=>by have:=Option.some.inj hj;omega),⟨_,_,_,_,Q,rfl,F.out.2.2.2.1,(F.out.1.keptB y J).low (by omega),(F.out.2.2.2.2.1.kept y (λk hk=>by have:=Option.some.inj hk;omega)).low (by omega)⟩,F.out.2.1.own y (λk hk=>by have:=Option.some.inj hk;omega)⟩
   have HE:=Lib.hid b;clear b y R;go_wp2_with fail
   refine bodyPost_ret (v := .tuple #[.agg #[.slice a1 i c1,.slice a2 l c2,.slice m q c3],.slice ra rn rc]) (by simp[results,Tryz.results145,go_sem,z0,z1,z2]) rfl ?_;exact HE.out
theorem DrawNaturalHom_ok (w:World) (cv:Value) (bs:List Int) (S:Nat->Prop) (V:Bytes S w cv bs) :
  Calls Tryz.prog 49 #[cv] w (Ret w (PairA 7 w.heap.size)):=by
 obtain⟨a,cap,rfl,_,_⟩:=Sl.shape V;have C:=Box3.made w 28 (.slice none 0 0) (.slice none 0 0) (.slice none 0 0);have y:Ext w (w.alloc (.cells #[.slice none 0 0,.slice none 0 0,.slice none 0 0] 28)):=World.grownBy_alloc _ _ _;have K:(w.alloc (.cells #[.slice none 0 0,.slice none 0 0,.slice none 0 0] 28)).heap.size=w.heap.size+1:=by simp
 have D:=Bytes.ext V y;go_enter Tryz.func49,Tryz.ntmps49;go_wp2_with fail
 generalize w.alloc (.cells #[.slice none 0 0,.slice none 0 0,.slice none 0 0] 28)=w0 at *;have E:w.heap.size+1<=w0.heap.size:=by omega
 clear K;refine Calls.mono (l01From_ok w0 _ bs S D) ?_;rintro e0 wS ⟨v0,rfl,gG,rfl,b⟩;have L:w0.heap.size+1<=wS.heap.size:=by have:=b.lt;omega
 have M:=C.ext gG;obtain⟨sb,z⟩:∃sb,sb=w0.heap.size:=⟨_,rfl⟩;rw[<-z] at b;have W:w.heap.size+1<=sb/\sb+1<=wS.heap.size:=by omega
 have F:=grown_trans y gG;have A:=Lib.hid z;clear C D y gG L E;go_wp2_with fail
 rw[<-A.out];refine Calls.mono (l15Pair_ok (sb+1) wS sb (by omega) (by rw[A.out];rw[A.out] at b;exact b)) ?_;rintro e1 N ⟨v1,rfl,i,⟨uo,up,uc,rv,Q,rfl,lR,G,O⟩,_⟩;clear z;obtain⟨a1,l,c1,hy1⟩:∃a n c,uo=.slice a n c:=by obtain⟨a,c,e,_⟩:=G.o.shape;exact⟨_,_,_,e⟩
 obtain⟨a2,m,c2,hy2⟩:∃a n c,up=.slice a n c:=by obtain⟨a,c,e,_⟩:=Sl.shape G.p;exact⟨_,_,_,e⟩
 obtain⟨q,r,c3,fV⟩:∃a n c,uc=.slice a n c:=by obtain⟨a,c,e,_⟩:=Sl.shape G.c;exact⟨_,_,_,e⟩
 obtain⟨X,rn,rc,rfl⟩:=O.shape;subst hy1 hy2 fV;have B:=M.moved i (by omega);have Z:=i.size;obtain⟨b0,b1,b2,b3,b4⟩:=id B;have J:=grown_set3 N w.heap.size (.slice a1 l c1) (.slice a2 m c2) (.slice q r c3);have H:=World.grownBy_alloc (((N.setCell ⟨w.heap.size,0,none⟩ (.slice a1 l c1)).setCell ⟨w.heap.size,1,none⟩ (.slice a2 m c2)).setCell ⟨w.heap.size,2,none⟩ (.slice q r c3)) (.cells #[.slice a1 l c1,.slice a2 m c2,.slice q r c3] 28) none;have Y:=(B.all (.slice a1 l c1) (.slice a2 m c2) (.slice q r c3)).ext H;obtain⟨-,z0,z1,z2,-⟩:=id Y;have I:∀k,some w.heap.size=some k->k<wS.heap.size:=λk hk=>by have:=Option.some.inj hk;omega
 have u:Ret w (PairA 7 w.heap.size) (.returned (.tuple #[.agg #[.slice a1 l c1,.slice a2 m c2,.slice q r c3],.slice X rn rc])) ((((N.setCell ⟨w.heap.size,0,none⟩ (.slice a1 l c1)).setCell ⟨w.heap.size,1,none⟩ (.slice a2 m c2)).setCell ⟨w.heap.size,2,none⟩ (.slice q r c3)).alloc (.cells #[.slice a1 l c1,.slice a2 m c2,.slice q r c3] 28)):=
  ⟨_,rfl,grown_trans (grown_own (grown_own F i (λj R U=>by have:=Option.some.inj R;omega)) J (λj R U=>by have:=Option.some.inj R;omega)) H,_,_,_,_,Q,rfl,lR,((G.keptB J I).ext H).low (by omega),((O.kept J I).kept H (λk hk=>by cases hk)).low (by omega)⟩
 have HE:=Lib.hid u;clear u J H Y B i G O lR;go_wp2_with fail
 refine bodyPost_ret (v := .tuple #[.agg #[.slice a1 l c1,.slice a2 m c2,.slice q r c3],.slice X rn rc]) (by simp[results,Tryz.results49,go_sem,z0,z1,z2]) rfl ?_;exact HE.out
end Go.Proofs.YtldheeicjnncoaaGreat
