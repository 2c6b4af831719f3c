/-
  Drawing: spec.l07Bend (printed by gen_bend.py).
-/
import Derived.Test.YtdcobapnlpeaaaaGreatD12
import Derived.Test.YtdcobapnlpeaaaaGreatD4
import Derived.Deep.CutBlock
namespace Go.Proofs.YtdcobapnlpeaaaaGreat
open Go.RowKit
attribute [local go_sem ↓] Go.wp_at_zero Go.wp_at_succ
theorem step_app_intH {ops:Array Oper}{o:Oper}{a:Act}{K:Act→World→Prop}{Q:Exit→Act→World→Prop}{Ex:Prop}{w:World} (hgd:o.guard=none) (s x:Operand)
  (ho:o.op=Op.call { callee:=Callee.builtin Builtin.append,args := #[s,x],argTypes := #[24,24] }) (B:Nat) (v:Value) (l:List Int) (y:Int) (hs:a.eval s=v) (hown:Own B w v l)
  (H:Nat) (hx:a.eval x=.slice (some ⟨H,0,none⟩) 1 1) (hu:w.cell? ⟨H,0,none⟩=some (.int .i64 y)) (hlen:l.length≤1000000) (hbase:B≤w.heap.size)
  (h:∀v' w',Own B w' v' (l++[y])→w.grownBy w' v.ownBlock→K (a.put o.dst v') w') :
  if Region.wanted o (yielded ops a.tmps)=true then Oper.wp Tryz.prog o a w K Q else Ex:=by
 refine step_app 24 2 (.int .i64 0) 8 und_ints Tryz.infoInt rfl (by decide) hgd s x ho B v (l.map (Value.int .i64)) hs hown.v H (.int .i64 y) hx hu rfl (by simpa using (by omega:l.length≤2000000)) hbase ?_
 intro v' w' h1 h2 _
 exact h v' w' (Own.of (by rw[List.map_append];exact h1)) h2
theorem PresX.conjOwn {F:Nat→Prop}{w:World}{vo vp vc:Value}{P:Pr} (h:PresX F w vo vp vc P) (i:Nat) (hi:i<P.conj.length) :
  ∃g cap z,vc=.slice (some ⟨g,0,none⟩) P.conj.length cap∧F g∧w.cell? ⟨g,i,none⟩=some z∧g<w.heap.size∧w.frozen? ⟨g,i,none⟩=false:=by
 obtain⟨Fo,Fp,Fc,h1,h2,h3,h4,h5,h6⟩:=h
 rcases SlI.form h3 with⟨_,e⟩|⟨g,cap,rfl,hFg,hgl⟩
 ·rw[e] at hi;simp at hi
 obtain⟨⟨z,hz⟩,hf⟩:=SlI.place h3 i hi
 exact⟨g,cap,z,rfl,h6 g hFg,hz,hgl,hf⟩
theorem step_app_rowH {ops:Array Oper}{o:Oper}{a:Act}{K:Act→World→Prop}{Q:Exit→Act→World→Prop}{Ex:Prop}{w:World} (hgd:o.guard=none) (s x:Operand)
  (ho:o.op=Op.call { callee:=Callee.builtin Builtin.append,args := #[s,x],argTypes := #[25,25] }) (B:Nat) (v:Value) (vs:List Value) (hs:a.eval s=v) (hown:OwnV B 24 w v vs)
  (H:Nat) (u:Value) (hx:a.eval x=.slice (some ⟨H,0,none⟩) 1 1) {a1:Option Addr}{n1 c1:Nat} (hu:w.cell? ⟨H,0,none⟩=some u∧u=.slice a1 n1 c1) (hlen:vs.length≤1000000) (hbase:B≤w.heap.size)
  (h:∀v' w',OwnV B 24 w' v' (vs++[u])→w.grownBy w' v.ownBlock→(v'.ownBlock=v.ownBlock∨v'.ownBlock=some w.heap.size)→K (a.put o.dst v') w') :
  if Region.wanted o (yielded ops a.tmps)=true then Oper.wp Tryz.prog o a w K Q else Ex:=
 step_app 25 24 (.slice none 0 0) 24 und_rows Tryz.infoRow rfl (by decide) hgd s x ho B v vs hs hown H u hx hu.1 (by rw[hu.2];rfl) (by omega) hbase h
theorem rows_app {B:Nat}{w5 wc w6:World}{v5 v6 u:Value}{vs:List Value}{L:List (List Int)}{y:List Int}{U:Nat→Prop} (hO6:OwnV B 24 w6 v6 (vs++[u])) (hl:vs.length=L.length) (hll:L.length≤1000000)
  (hE:∀i,i<L.length→Ints (fun k=>B≤k∧v5.ownBlock≠some k) w5 (gt vs i) (gt L i)) (hc:Ext w5 wc) (hg:wc.grownBy w6 v5.ownBlock) (hu:Ints U wc u y) (hU:∀k,U k→B≤k∧v5.ownBlock≠some k) :
  Rows2 (fun k=>B≤k) w6 v6 (L++[y]):=by
 have hlt:=hO6.lt
 rcases hO6.form with⟨_,h2⟩|⟨g,cap,rfl,hnc,_,_⟩
 ·simp at h2
 refine⟨some ⟨g,0,none⟩,cap,by simp[hl],⟨by simp at hnc;simp;omega,by simp;omega,fun h=>by cases h⟩,fun i hi => ?_⟩
 ·have hi:i<(vs++[u]).length:=by simp at hi ⊢;omega
  refine⟨g,0,gt (vs++[u]) i,rfl,(hlt g rfl).1,(hlt g rfl).2,by rw[Nat.zero_add];exact hO6.cell i hi,?_⟩
  by_cases hlt2:i<vs.length
  ·rw [gt_append_left _ _ _ hlt2,gt_append_left _ _ _ (by omega)]
   exact Ints.mono (hE i (by omega)) (fun k hk hkl=>⟨hk.1,Nat.lt_of_lt_of_le hkl (Nat.le_trans hc.size hg.size),(hg.block k (Nat.lt_of_lt_of_le hkl hc.size) (fun e=>hk.2 e.symm)).trans (hc.block k hkl (by simp))⟩)
  ·have hie:i=vs.length:=by simp at hi;omega
   subst hie
   rw[gt_concat,hl,gt_concat]
   exact Ints.mono hu (fun k hk hkl=>⟨(hU k hk).1,Nat.lt_of_lt_of_le hkl hg.size,hg.block k hkl (fun e=>(hU k hk).2 e.symm)⟩)
theorem PresX.putRow {F:Nat→Prop}{w w6:World}{vo vp:Value}{P:Pr}{g n cap:Nat}{u:Value}{L:List (List Int)} (h:PresX F w vo vp (.slice (some ⟨g,0,none⟩) n cap) P) (i:Nat) (hi:i<n) (hn:P.conj.length=n) (hg:Ext w w6) (hu:Rows2 (fun k=>w.heap.size≤k) w6 u L) :
  ∃Q:Pr,Q.orders=P.orders∧Pres3 (fun k=>F k∨w.heap.size≤k) (w6.setCell ⟨g,i,none⟩ u) vo vp (.slice (some ⟨g,0,none⟩) n cap) Q:=by
 obtain⟨Fo,Fp,Fc,h1,h2,h3,h4,h5,h6⟩:=h
 have hFg:Fc g:=by
  rcases SlI.form h3 with⟨e,_⟩|⟨g',c',e,hF,_⟩
  ·cases e
  ·cases e;exact hF
 have hgl:g<w.heap.size:=by
  rcases SlI.form h3 with⟨e,_⟩|⟨g',c',e,_,hl⟩
  ·cases e
  ·cases e;exact hl
 have hT:=grown_set1 w6 g i u
 have hblk:∀k,k<w.heap.size→k≠g→k<(w6.setCell ⟨g,i,none⟩ u).heap.size∧(w6.setCell ⟨g,i,none⟩ u).heap[k]? = w.heap[k]? :=fun k hk hne=>⟨Nat.lt_of_lt_of_le hk (Nat.le_trans hg.size hT.size),(hT.block k (Nat.lt_of_lt_of_le hk hg.size) (fun e=>hne (Option.some.inj e))).trans (hg.block k hk (by simp))⟩
 have h3r:SlI (fun F w u (x:List (List Int))=>Rows2 F w u x) 25 (fun k=>Fc k∧k<w.heap.size) w6 (.slice (some ⟨g,0,none⟩) n cap) P.conj:=
  SlI.map (fun _ _ _ _ h=>RowsI.rows h) (rdRows3I.mono h3 (fun k hk hlt=>⟨⟨hk,hlt⟩,Nat.lt_of_lt_of_le hlt hg.size,hg.block k hlt (by simp)⟩))
 have hrd:RdOk (fun F w u (x:List (List Int))=>Rows2 F w u x):=⟨fun h hb=>Rows2.mono h hb,fun h=>by obtain⟨_,_,rfl,_⟩:=Sl.shape h;rfl⟩
 have hp:=SlI.putR hrd h3r hu (fun k hk h=>by omega) i
 refine⟨⟨P.orders,P.powers,P.conj.set i L⟩,rfl,⟨?_,?_,?_⟩⟩
 ·exact Ints.mono h1.ints (fun k hk hlt=>by
   have h:=hblk k hlt (fun e=>(h4 k hk).2.2 (e▸hFg))
   exact⟨.inl (h4 k hk).1,h.1,h.2⟩)
 ·exact Rows2.mono (RowsI.rows h2) (fun k hk hlt=>by
   have h:=hblk k hlt (fun e=>(h5 k hk).2 (e▸hFg))
   exact⟨.inl (h5 k hk).1,h.1,h.2⟩)
 ·exact Rows3.sub (S:=fun k=>(Fc k∧k<w.heap.size)∨w.heap.size≤k) hp (fun k hk _=>hk.elim (fun h => .inl (h6 k h.1)) .inr)
def BendCut (P0:Pr) (B0 sb qb:Nat) (w wx:World):Prop:=∃(a1:Option Addr) (n1 c1:Nat) (a2:Option Addr) (n2 c2:Nat) (a3:Option Addr) (n3 c3:Nat) (Q:Pr),Box3 wx qb (.slice a1 n1 c1) (.slice a2 n2 c2) (.slice a3 n3 c3)∧Box3 wx (w.heap.size+1) (.slice none 0 0) (.slice none 0 0) (.slice none 0 0) ∧
 w.grownBy wx (some sb)∧Src B0 wx sb∧Q.orders.length≤7∧OrdLe P0 Q∧Pres3 (fun k=>w.heap.size+2≤k) wx (.slice a1 n1 c1) (.slice a2 n2 c2) (.slice a3 n3 c3) Q
set_option linter.unusedSimpArgs false in
set_option maxRecDepth 100000 in
set_option maxHeartbeats 16000000 in
theorem l07BendL_ok (B0:Nat) (w:World) (sb:Nat) (pv:Value) (P:Pr) (F:Nat→Prop) (hB0:B0≤w.heap.size) (hs:Src B0 w sb) (hp:PresV F w pv P) (hV:Valid P) :
  Calls Tryz.prog 238 #[.pointer (some ⟨sb,0,none⟩),pv] w (Mut w (some sb) (DrawR B0 sb (PresAL 7 (OrdLe P) w.heap.size))):=by
 have hsb:=hs.lt
 have hS:=hV.shp
 obtain⟨vo,vp,vc,rfl,h3⟩:=hp
 obtain⟨ao,co,hvo,_,_⟩:=h3.o.shape
 obtain⟨ap,cp,hvp,_,_⟩:=Sl.shape h3.p
 obtain⟨ac,cc,hvc,_,_⟩:=Sl.shape h3.c
 rw[hS.p] at hvp
 rw[hS.c] at hvc
 subst hvo hvp hvc
 obtain⟨n,hn⟩:∃n,n=P.orders.length:=⟨_,rfl⟩
 rw[←hn] at h3
 rw[←hn]
 have hn6:n≤6:=by rw[hn];exact hS.n
 have hgA:Ext w (w.alloc (.cells #[.slice ao n co,.slice ap n cp,.slice ac n cc] 28)):=World.grownBy_alloc _ _ _
 have hsA:(w.alloc (.cells #[.slice ao n co,.slice ap n cp,.slice ac n cc] 28)).heap.size=w.heap.size+1:=by simp
 have hbA:=Box3.made w 28 (.slice ao n co) (.slice ap n cp) (.slice ac n cc)
 have HH:=Lib.hid (And.intro hS (And.intro hV (And.intro hn hs)));clear hS hV hn hs
 go_enter Tryz.func238,Tryz.ntmps238
 go_wp2_with fail
 generalize w.alloc (.cells #[.slice ao n co,.slice ap n cp,.slice ac n cc] 28)=wA at *
 have hgB:Ext wA (wA.alloc (.cells #[.slice none 0 0,.slice none 0 0,.slice none 0 0] 28)):=World.grownBy_alloc _ _ _
 have hbB:=Box3.made wA 28 (.slice none 0 0) (.slice none 0 0) (.slice none 0 0)
 have hg0:=grown_trans hgA hgB
 have hsB:(wA.alloc (.cells #[.slice none 0 0,.slice none 0 0,.slice none 0 0] 28)).heap.size=w.heap.size+2:=by simp[hsA]
 rw[hsA] at hbB
 generalize wA.alloc (.cells #[.slice none 0 0,.slice none 0 0,.slice none 0 0] 28)=w0 at *
 have hs00:w.heap.size+2≤w0.heap.size:=by omega
 clear hgB hgA hbA hsA hsB
 refine Calls.mono (l07Own_ok w0 _ P F 6 ⟨_,_,_,rfl,h3.mono (frame_of hg0 (fun k hk _=>⟨hk,by simp⟩))⟩ HH.out.1 (by omega)) ?_
 rintro e1 w1 ⟨v1,rfl,hg1,qo,qp,qc,rfl,hX1⟩
 obtain⟨ao2,co2,ap2,cp2,ac2,cc2,e1,e2,e3⟩:=hX1.shape
 rw[HH.out.1.p] at e2
 rw[HH.out.1.c] at e3
 rw[←HH.out.2.2.1] at e1 e2 e3
 subst e1 e2 e3
 obtain⟨qb,hqb⟩:∃qb,qb=w1.heap.size:=⟨_,rfl⟩
 have hgq:Ext w1 (w1.alloc (.cells #[.slice ao2 n co2,.slice ap2 n cp2,.slice ac2 n cc2] 28)):=World.grownBy_alloc _ _ _
 have hbQ:=Box3.made w1 28 (.slice ao2 n co2) (.slice ap2 n cp2) (.slice ac2 n cc2)
 rw[←hqb] at hbQ
 have hs1:=hg1.size
 have hX2:PresX (fun k=>w0.heap.size≤k∧k≠qb) (w1.alloc (.cells #[.slice ao2 n co2,.slice ap2 n cp2,.slice ac2 n cc2] 28)) (.slice ao2 n co2) (.slice ap2 n cp2) (.slice ac2 n cc2) P:=hX1.mono (fun k hk hlt=>⟨⟨hk,by omega⟩,Nat.lt_of_lt_of_le hlt hgq.size,hgq.block k hlt (by simp)⟩)
 have hg02:=grown_trans hg1 hgq
 have HQB:=Lib.hid hqb
 go_wp2_with fail
 rw[←HQB.out]
 generalize w1.alloc (.cells #[.slice ao2 n co2,.slice ap2 n cp2,.slice ac2 n cc2] 28)=w2 at *
 have hqs:w0.heap.size≤qb:=by omega
 clear hX1 hg1 hgq hqb HQB hs1
 have hbR:=hbB.ext hg02
 have hgw2:=grown_trans hg0 hg02
 have hs2:=HH.out.2.2.2.ext hgw2
 clear hbB hg02 hg0 h3
 refine Calls.mono (l01Next_ok B0 w2 sb 6 hs2) ?_
 rintro e3 w3 ⟨v3,rfl,hg3,x,rfl,_,hx1,hs3⟩
 have hX3:=hX2.moved hg3 (fun h=>by omega)
 have hbQ3:=hbQ.moved hg3 (by omega)
 have hbR3:=hbR.moved hg3 (by omega)
 have hgw3:=grown_trans (grown_of_ext (some sb) hgw2) hg3
 have hx:=hx1 (by omega)
 have hPn:=HH.out.2.2.1
 have hP2:P.powers.length=n:=by rw[hPn];exact HH.out.2.1.pl
 have hC2:P.conj.length=n:=by rw[hPn];exact HH.out.2.1.cl
 have hq3:qb<w3.heap.size:=hbQ3.1
 have HX3:=Lib.hid (And.intro hX3 (And.intro hs3 (And.intro hPn (And.intro hP2 hC2))))
 clear hX2 hbQ hbR hgw2 hs2 hg3 hX3 hs3 hx1 hPn hP2 hC2
 obtain⟨q0,q1,q2,q3,q4⟩:=id hbQ3
 go_upto_block 0 with fail
 go_cut [] (fun wx=>BendCut P B0 sb qb w wx)
 case' rest=>
  obtain⟨a1,n1,c1,a2,n2,c2,a3,n3,c3,Q,hbQx,hbRx,hgx,hsx,hQl,hQo,hQx⟩:=hcut
  clear q0 q1 q2 q3 q4 hbQ3 hbR3 HX3 hgw3
  obtain⟨q0,q1,q2,q3,q4⟩:=id hbQx
  obtain⟨b0,b1,b2,b3,b4⟩:=id hbRx
  have hZ:=hbRx.all (.slice a1 n1 c1) (.slice a2 n2 c2) (.slice a3 n3 c3)
  obtain⟨-,z0,z1,z2,-⟩:=id hZ
  have HF:=Lib.hid (And.intro hgx (And.intro hsx (And.intro hQx (And.intro hQl hQo))));clear hZ hgx hsx hQx hQl hQo
  go_wp2_with fail
  refine bodyPost_ret (v := .agg #[.slice a1 n1 c1,.slice a2 n2 c2,.slice a3 n3 c3]) (by simp[results,Tryz.results238,go_sem,z0,z1,z2]) rfl ?_
  exact a_ret HF.out.1 (br:=w.heap.size+1) (by omega) (fun k hk _=>⟨by omega,by omega⟩) HF.out.2.1 hB0 HF.out.2.2.2.1 HF.out.2.2.1 HF.out.2.2.2.2
 rcases(show x=0∨x=1∨x=2∨x=3∨x=4∨x=5 by omega) with rfl|rfl|rfl|rfl|rfl|rfl
 all_goals clear hx
 ·obtain ⟨Fo,Fp,Fc,h1,h2,h3,h4,h5,h6⟩:=HX3.out.1
  have hO:=h1.1
  have hoB:∀k,(Value.slice ao2 n co2).ownBlock=some k→(w0.heap.size≤k∧k≠qb)∧¬Fp k∧¬Fc k:=fun k hk=>h4 k (h1.2.1 k hk)
  have hsz0:w3.heap.size≤w3.heap.size:=Nat.le_refl _
  have HO:=Lib.hid (And.intro hoB (And.intro h2 (And.intro h3 (And.intro h5 h6))));clear hoB h1 h2 h3 h4 h5 h6
  have hll:P.orders.length≤1000000:=by have:=HX3.out.2.2.1;omega
  have hlx:(P.orders++[2]).length=P.orders.length+1:=by simp
  go_wp2_with (first|(at_builtin;refine wp_app_intb rfl _ _ rfl 0 (.slice ao2 n co2) P.orders 2 rfl w3 hO rfl rfl hll (Nat.zero_le _) ?_;intro v5 w5 hO5 hg5 hat5;have hb5:Box3 w5 qb (.slice ao2 n co2) (.slice ap2 n cp2) (.slice ac2 n cc2):=hbQ3.keep hg5.size (hg5.block _ hbQ3.1 (fun e=>(HO.out.1 qb e.symm).1.2 rfl));have hbR5:=hbR3.keep hg5.size (hg5.block _ hbR3.1 (fun e=>by have:=(HO.out.1 _ e.symm).1.1;omega));obtain⟨r0,r1,r2,r3,r4⟩:=id hb5;obtain⟨a5,n5,hv5,_⟩:=(hO5.ints (by omega)).shape;rw[hlx] at hv5;subst hv5;have hb6:=(hb5.put (.slice a5 (P.orders.length+1) n5)).1;have hT6:=grown_set1 w5 qb 0 (.slice a5 (P.orders.length+1) n5);have hbR6:=hbR5.moved hT6 (by omega);have HBB:=Lib.hid (And.intro hb6 hbR6);have HF:=Lib.hid (And.intro hO5 (And.intro hg5 (And.intro hat5 hT6)));clear hO5 hg5 hat5 hT6 hbR6 hb6 hb5 hbR5)|fail)
  obtain⟨hO5,hg5,hat5,hT6⟩:=HF.out
  have hg36:w.grownBy (w5.setCell ⟨qb,0,none⟩ (.slice a5 (P.orders.length+1) n5)) (some sb):=grown_own (grown_own hgw3 hg5 (fun j hj hlt=>by have:=(HO.out.1 j hj).1.1;omega)) hT6 (fun j hj hlt=>by have:=Option.some.inj hj;omega)
  have hs6:=(HX3.out.2.1.own hg5 (fun j hj=>by have:=(HO.out.1 j hj).1.1;omega)).own hT6 (fun k hk=>by have:=Option.some.inj hk;omega)
  have hP6:Pres3 (fun k=>(w0.heap.size≤k∧k≠qb)) (w5.setCell ⟨qb,0,none⟩ (.slice a5 (P.orders.length+1) n5)) (.slice a5 (P.orders.length+1) n5) (.slice ap2 n cp2) (.slice ac2 n cc2) ⟨P.orders++[2],P.powers,P.conj⟩:=by
   have hblk:∀k,k<w3.heap.size→(Value.slice ao2 n co2).ownBlock≠some k→k≠qb→k<(w5.setCell ⟨qb,0,none⟩ (.slice a5 (P.orders.length+1) n5)).heap.size∧(w5.setCell ⟨qb,0,none⟩ (.slice a5 (P.orders.length+1) n5)).heap[k]? = w3.heap[k]? :=fun k hk h1 h2=>
    ⟨Nat.lt_of_lt_of_le hk (Nat.le_trans hg5.size hT6.size),(hT6.block k (Nat.lt_of_lt_of_le hk hg5.size) (fun e=>h2 (Option.some.inj e))).trans (hg5.block k hk (fun e=>h1 e.symm))⟩
   refine⟨?_,?_,?_⟩
   ·have hI:Ints (fun k=>w0.heap.size≤k∧k≠qb) w5 (.slice a5 (P.orders.length+1) n5) (P.orders++[2]):=ints_of_own hO5 (by omega) (fun k hk=>by
     rcases hat5 with e|e
     ·rw[e] at hk;exact(HO.out.1 k hk).1
     ·have:=e k hk;exact⟨by omega,by omega⟩)
    exact Ints.mono hI (fun k hk hlt=>⟨hk,Nat.lt_of_lt_of_le hlt hT6.size,hT6.block k hlt (fun e=>hk.2 (Option.some.inj e))⟩)
   ·exact Rows2.mono (RowsI.rows HO.out.2.1) (fun k hk hlt=>by
     have h5:=HO.out.2.2.2.1 k hk
     have h:=hblk k hlt (fun e=>(HO.out.1 k e).2.1 hk) h5.1.2
     exact⟨h5.1,h.1,h.2⟩)
   ·exact Rows3.mono (Rows3I.rows HO.out.2.2.1) (fun k hk hlt=>by
     have h5:=HO.out.2.2.2.2 k hk
     have h:=hblk k hlt (fun e=>(HO.out.1 k e).2.2 hk) h5.2
     exact⟨h5,h.1,h.2⟩)
  try go_meet
  exact⟨_,_,_,_,_,_,_,_,_,_,HBB.out.1,HBB.out.2,hg36,hs6,(by simp;have:=HX3.out.2.2.1;omega),(by exact fun h=>absurd h.pl (by show ¬P.powers.length=(P.orders++[2]).length;rw[HX3.out.2.2.2.1,List.length_append,←HX3.out.2.2.1,List.length_singleton];omega)),hP6.mono (fun k hk hlt=>⟨by omega,hlt,rfl⟩)⟩
 ·by_cases hn0:n=0
  ·have hnb:decide (0<n)=false:=by simp[hn0]
   clear hn0
   go_wp2_with fail
   try go_wp2_with fail
   go_meet
   exact⟨_,_,_,_,_,_,_,_,_,_,hbQ3,hbR3,hgw3,HX3.out.2.1,(by rw[←HX3.out.2.2.1];omega),(by exact OrdLe.same rfl),Pres3.mono HX3.out.1.p3 (fun k hk hlt=>⟨by omega,hlt,rfl⟩)⟩
  ·have hn1:0<n:=by omega
   clear hn0
   obtain⟨Fo,Fp,Fc,h1,h2,h3,h4,h5,h6⟩:=HX3.out.1
   have hO:=h1.1
   obtain⟨g,capg,hvo,_,hgl⟩:=hO.form (by rw[←HX3.out.2.2.1];exact hn1)
   obtain⟨rfl,rfl⟩:ao2=some ⟨g,0,none⟩∧co2=capg:=by cases hvo;exact⟨rfl,rfl⟩
   clear hvo
   have hFg:=h1.2.1 g rfl
   have hg4:=h4 g hFg
   have hgB:w0.heap.size≤g:=hg4.1.1
   have hgq:g≠qb:=hg4.1.2
   have hc0:=hO.cell 0 (by rw[←HX3.out.2.2.1];exact hn1)
   have hf0:=hO.frozen 0
   generalize gt P.orders 0=oz at hc0
   have HO:=Lib.hid (And.intro hO (And.intro h2 (And.intro h3 (And.intro h5 (And.intro h6 hg4)))));clear h1 h2 h3 h4 h5 h6 hO hg4 hFg
   have e0:∀w',NearS w3 sb g w'→w'.cell? ⟨qb,0,none⟩=some (.slice (some ⟨g,0,none⟩) n co2):=fun w' h=>h.cell hbQ3.2.1 (by simp;omega) (by simp;omega)
   have hL:=ints_litL w3.drew [4,1,11,0,-2] (by simp)
   have hLn:∀y∈([4,1,11,0,-2]:List Int),-2≤y:=by simp
   have HL:=Lib.hid (And.intro hL hLn);clear hL hLn
   have hnI:(0:Int)<n:=by omega
   go_wp2_with fail
   go_region_held3 (fun w'=>NearS w3 sb g w') (first|exact NearS.ext (grown_drew _ _)|exact NearS.ext (grown_trans (grown_drew _ _) (World.grownBy_alloc _ _ _))|exact NearS.of (by assumption)|exact NearS.two hg5 (grown_set1 _ _ _ _)|assumption)
    (first
     | (go_at_call 158;refine Calls.mono (l01Pick_ok B0 _ sb _ [4,1,11,0,-2] _ (HX3.out.2.1.ext (grown_trans (grown_drew _ _) (World.grownBy_alloc _ _ _))) HL.out.1 (fun k hk=>by have hk:k=w3.heap.size:=hk;omega) (by simp) (by simp)) ?_;rintro e5 w5 ⟨v5,rfl,hg5a,i,hi,rfl,hs5⟩;have hg5:w3.grownBy w5 (some sb):=grown_trans (grown_of_ext (some sb) (grown_trans (grown_drew _ _) (World.grownBy_alloc _ _ _))) hg5a;have hc5:=hg5.cell hc0 (by simp;omega);have hf5:=(World.frozen?_of_block (a:=⟨g,0,none⟩) (hg5.block g hgl (fun e=>by have:=Option.some.inj e;omega))).trans hf0))
   have hsz5:=hg5.size
   have hT:=grown_set1 w5 g 0 (.int .i64 (gt [4,1,11,0,-2] i))
   have hb6:=(hbQ3.moved hg5 (by omega)).moved hT (by omega)
   have hbR6:=(hbR3.moved hg5 (by omega)).moved hT (by omega)
   have hg6:=grown_own (grown_trans hgw3 hg5) hT (fun j hj hlt=>by have:=Option.some.inj hj;omega)
   have hs6:=hs5.own hT (fun k hk=>by have:=Option.some.inj hk;omega)
   have hO5:Own 0 w5 (.slice (some ⟨g,0,none⟩) n co2) P.orders:=HO.out.1.kept hg5 (.inr (fun e=>by have:=own_blk e;omega))
   have hO6:=(hO5.store 0 (gt [4,1,11,0,-2] i)).1
   have hP6:Pres3 (fun k=>(w0.heap.size≤k∧k≠qb)) (w5.setCell ⟨g,0,none⟩ (.int .i64 (gt [4,1,11,0,-2] i))) (.slice (some ⟨g,0,none⟩) n co2) (.slice ap2 n cp2) (.slice ac2 n cc2) ⟨P.orders.set 0 (gt [4,1,11,0,-2] i),P.powers,P.conj⟩:=by
    have hblk:∀k,k<w3.heap.size→g≠k→(w0.heap.size≤k∧k≠qb)→k<(w5.setCell ⟨g,0,none⟩ (.int .i64 (gt [4,1,11,0,-2] i))).heap.size∧(w5.setCell ⟨g,0,none⟩ (.int .i64 (gt [4,1,11,0,-2] i))).heap[k]? = w3.heap[k]? :=fun k hk h1 h2=>
     ⟨Nat.lt_of_lt_of_le hk (Nat.le_trans hg5.size hT.size),(hT.block k (Nat.lt_of_lt_of_le hk hg5.size) (fun e=>h1 (Option.some.inj e).symm)).trans (hg5.block k hk (fun e=>by have:=Option.some.inj e;omega))⟩
    refine⟨?_,?_,?_⟩
    ·exact ints_of_own hO6 (by rw[List.length_set,←HX3.out.2.2.1];omega) (fun k hk=>by have:=own_blk hk;subst this;exact⟨hgB,hgq⟩)
    ·exact Rows2.mono (RowsI.rows HO.out.2.1) (fun k hk hlt=>by
      have h5:=HO.out.2.2.2.1 k hk
      have h:=hblk k hlt (fun e=>HO.out.2.2.2.2.2.2.1 (e▸hk)) h5.1
      exact⟨h5.1,h.1,h.2⟩)
    ·exact Rows3.mono (Rows3I.rows HO.out.2.2.1) (fun k hk hlt=>by
      have h5:=HO.out.2.2.2.2.1 k hk
      have h:=hblk k hlt (fun e=>HO.out.2.2.2.2.2.2.2 (e▸hk)) h5
      exact⟨h5,h.1,h.2⟩)
   clear hc5 hf5 e0 hT hO6 hs5 hg5a hg5 hbQ3 hbR3 hgw3 q0 q1 q2 q3 q4 hc0 hf0
   have hLen:(P.orders.set 0 (gt [4,1,11,0,-2] i)).length≤7:=by rw[List.length_set,←HX3.out.2.2.1];omega
   have hNo:OrdLe P ⟨P.orders.set 0 (gt [4,1,11,0,-2] i),P.powers,P.conj⟩:=fun h=>by
    have h1:gt (P.orders.set 0 (gt [4,1,11,0,-2] i)) 0=2∨gt (P.orders.set 0 (gt [4,1,11,0,-2] i)) 0=3∨gt (P.orders.set 0 (gt [4,1,11,0,-2] i)) 0=5∨gt (P.orders.set 0 (gt [4,1,11,0,-2] i)) 0=7:=h.ord 0 (by show 0<(P.orders.set 0 _).length;rw[List.length_set,←HX3.out.2.2.1];exact hn1)
    exfalso
    rw[gt_set_eq _ _ _ (by rw[←HX3.out.2.2.1];exact hn1)] at h1
    have hi5:i<5:=hi
    obtain rfl|rfl|rfl|rfl|rfl:i=0∨i=1∨i=2∨i=3∨i=4:=by omega
    all_goals simp[gt] at h1
   have HLen:=Lib.hid (And.intro hLen hNo);clear hLen hNo
   generalize w5.setCell ⟨g,0,none⟩ (.int .i64 (gt [4,1,11,0,-2] i))=w6 at *
   try go_wp2_with fail
   go_meet
   exact⟨_,_,_,_,_,_,_,_,_,_,hb6,hbR6,hg6,hs6,HLen.out.1,HLen.out.2,Pres3.mono hP6 (fun k hk hlt=>⟨by omega,hlt,rfl⟩)⟩
 ·by_cases hn0:n=0
  ·have hnb:decide (0<n)=false:=by simp[hn0]
   clear hn0
   go_wp2_with fail
   try go_wp2_with fail
   go_meet
   exact⟨_,_,_,_,_,_,_,_,_,_,hbQ3,hbR3,hgw3,HX3.out.2.1,(by rw[←HX3.out.2.2.1];omega),(by exact OrdLe.same rfl),Pres3.mono HX3.out.1.p3 (fun k hk hlt=>⟨by omega,hlt,rfl⟩)⟩
  ·have hn1:0<n:=by omega
   clear hn0
   have hnI:(0:Int)<n:=by omega
   have hr0:=HX3.out.1.p3.p
   obtain⟨bq,oq,ae,ce,hap,hbF,_,hcr,hre⟩:=Rows2.at hr0 0 (by rw[HX3.out.2.2.2.1];exact hn1)
   obtain⟨g,capg,z,hvp,⟨hgB,hgq⟩,hgl,hcg,hfg,_⟩:=HX3.out.1.putP 0 (by rw[HX3.out.2.2.2.1];exact hn1) (U:=fun _=>False) (y:=[]) (u := .slice none 0 0) ⟨none,0,rfl,⟨by simp,by simp,fun _=>rfl⟩,fun i hi=>by simp at hi⟩ (fun _ h=>h.elim)
   obtain⟨rfl,rfl⟩:ap2=some ⟨g,0,none⟩∧cp2=capg:=by cases hvp;exact⟨rfl,rfl⟩
   have hbg:g=bq:=by cases hap;rfl
   have hoq:oq=0:=by cases hap;rfl
   clear hap
   subst hbg hoq
   rw[Nat.zero_add] at hcr
   have hel:(gt P.powers 0).length≤6:=HH.out.1.pv _ (gtMem (by rw[HX3.out.2.2.2.1];exact hn1))
   obtain⟨e,he⟩:∃e,e=gt P.powers 0:=⟨_,rfl⟩
   rw[←he] at hcr hre hel
   clear hvp he hcg hr0
   have hbd:=hbQ3.ext (grown_drew _ none)
   obtain⟨d0,d1,d2,d3,d4⟩:=id hbd
   have f1:w3.drew.cell? ⟨g,0,none⟩=some (.slice ae e.length ce):=hcr
   have hlx:(e++[(0:Int)]).length=e.length+1:=by simp
   go_wp2_with fail
   have e1:∀w',Near w3 g w'→w'.cell? ⟨qb,1,none⟩=some (.slice (some ⟨g,0,none⟩) n cp2):=fun w' h=>h.cell hbQ3.2.2.1 (by simp;omega)
   refine wp_region_held_drew (S:=fun w'=>Near w3 g w') (by kernel_rfl) (Near.of (grown_drew _ _)) (fun hHeld => ?_)
   refine wpAnyH_take (i:=0) (v := ?vp0_1) rfl (by kernel_rfl) (by kernel_rfl) (by kernel_rfl) (fun _ _ _ h=>h) (Or.inl ⟨by rfl,?hyp0_1⟩) (by assumption) ?restp0_1
   case hyp0_1=>(intro w hSw;(try dsimp only at hSw);go_simp;try with_reducible rfl)
   try simp only[Act.put,List.getElem_toArray,List.getElem_cons_succ,List.getElem_cons_zero,List.setIfInBounds_toArray,List.set_cons_zero,List.set_cons_succ]
   refine wpAnyH_take (i:=1) (v := ?vp1_2) rfl (by kernel_rfl) (by kernel_rfl) (by kernel_rfl) (fun _ _ _ h=>h) (Or.inl ⟨by rfl,?hyp1_2⟩) (by assumption) ?restp1_2
   case hyp1_2=>(intro w hSw;(try dsimp only at hSw);go_simp;try with_reducible rfl)
   try simp only[Act.put,List.getElem_toArray,List.getElem_cons_succ,List.getElem_cons_zero,List.setIfInBounds_toArray,List.set_cons_zero,List.set_cons_succ]
   refine wpAnyH_take (i:=2) (v := ?vp2_3) rfl (by kernel_rfl) (by kernel_rfl) (by kernel_rfl) (fun _ _ _ h=>h) (Or.inl ⟨by rfl,?hyp2_3⟩) (by assumption) ?restp2_3
   case hyp2_3=>(intro w hSw;(try dsimp only at hSw);go_simp;try with_reducible rfl)
   try simp only[Act.put,List.getElem_toArray,List.getElem_cons_succ,List.getElem_cons_zero,List.setIfInBounds_toArray,List.set_cons_zero,List.set_cons_succ]
   refine wpAnyH_take (i:=3) (v := ?vp3_4) rfl (by kernel_rfl) (by kernel_rfl) (by kernel_rfl) (fun _ _ _ h=>h) (Or.inl ⟨by rfl,?hyp3_4⟩) (by assumption) ?restp3_4
   case hyp3_4=>(intro w hSw;(try dsimp only at hSw);go_simp;try with_reducible rfl)
   try simp only[Act.put,List.getElem_toArray,List.getElem_cons_succ,List.getElem_cons_zero,List.setIfInBounds_toArray,List.set_cons_zero,List.set_cons_succ]
   refine wpAnyH_take (i:=4) (v := ?vp4_5) rfl (by kernel_rfl) (by kernel_rfl) (by kernel_rfl) (fun _ _ _ h=>h) (Or.inl ⟨by rfl,?hyp4_5⟩) (by assumption) ?restp4_5
   case hyp4_5=>(intro w hSw;(try dsimp only at hSw);go_simp;try with_reducible rfl)
   try simp only[Act.put,List.getElem_toArray,List.getElem_cons_succ,List.getElem_cons_zero,List.setIfInBounds_toArray,List.set_cons_zero,List.set_cons_succ]
   refine wpAnyH_ready (rs:=[5,7]) (by kernel_rfl) (by simp) ?_
   refine AllReadyH.cons rfl (fun Kc hKc => ?_) (AllReadyH.cons rfl (fun Kc hKc => ?_) AllReadyH.nil)
   ·go_simp
    refine hKc.out _ _ ?_ (fun hHeld => ?_)
    ·assumption
    clear hKc Kc
    try simp only[Act.put,List.getElem_toArray,List.getElem_cons_succ,List.getElem_cons_zero,List.setIfInBounds_toArray,List.set_cons_zero,List.set_cons_succ]
    refine wpAnyH_ready (rs:=[6,7]) (by kernel_rfl) (by simp) ?_
    refine AllReadyH.cons rfl (fun Kc hKc => ?_) (AllReadyH.cons rfl (fun Kc hKc => ?_) AllReadyH.nil)
    ·go_simp
     go_at_call 199
     refine Calls.mono (l01Own_ok w3.drew _ e _ (hre.ext (grown_drew _ _)) (by omega)) ?_
     rintro e5 w5 ⟨v5,rfl,hg5,hO5d⟩
     have hg35:Ext w3 w5:=grown_trans (grown_drew _ _) hg5
     have hO5:Own w3.heap.size w5 v5 e:=hO5d
     obtain⟨a5,c5,hv5,_⟩:=(hO5.ints (by omega)).shape
     subst hv5
     go_wp2_with fail
     refine hKc.out _ _ ?_ (fun hHeld => ?_)
     ·exact Near.of hg35
     clear hKc Kc
     try simp only[Act.put,List.getElem_toArray,List.getElem_cons_succ,List.getElem_cons_zero,List.setIfInBounds_toArray,List.set_cons_zero,List.set_cons_succ]
     refine wpAnyH_ready (rs:=[7]) (by kernel_rfl) (by simp) ?_
     refine AllReadyH.cons rfl (fun Kc hKc => ?_) AllReadyH.nil
     go_simp
     refine hKc.out _ _ ?_ (fun hHeld => ?_)
     ·exact Near.of (grown_trans hg35 (World.grownBy_alloc _ _ _))
     clear hKc Kc
     try simp only[Act.put,List.getElem_toArray,List.getElem_cons_succ,List.getElem_cons_zero,List.setIfInBounds_toArray,List.set_cons_zero,List.set_cons_succ]
     refine wpAnyH_ready (rs:=[8]) (by kernel_rfl) (by simp) ?_
     refine AllReadyH.cons rfl (fun Kc hKc => ?_) AllReadyH.nil
     refine step_app_int (by rfl) _ _ (by rfl) w3.heap.size _ e 0 (by rfl) w5 hO5 (by rfl) (by rfl) (by omega) hg35.size ?_
     intro v6 w6 hO6 hg6
     have hg36:Ext w3 w6:=grown_own hg35 hg6 (fun j hj hlt=>by have:=(hO5.lt j hj).1;omega)
     obtain⟨a6,c6,hv6,_⟩:=(hO6.ints (by simp;omega)).shape
     rw[hlx] at hv6
     subst hv6
     have r1:=hg36.cell hcr (by simp)
     have r2:=(World.frozen?_of_block (a:=⟨g,0,none⟩) (hg36.block g hgl (by simp))).trans hfg
     refine hKc.out _ _ ?_ (fun hHeld => ?_)
     ·exact Near.of hg36
     clear hKc Kc
     try simp only[Act.put,List.getElem_toArray,List.getElem_cons_succ,List.getElem_cons_zero,List.setIfInBounds_toArray,List.set_cons_zero,List.set_cons_succ]
     refine wpAnyH_take (i:=9) (v := ?vp9_6) rfl (by kernel_rfl) (by kernel_rfl) (by kernel_rfl) (fun _ _ _ h=>h) (Or.inl ⟨by rfl,?hyp9_6⟩) (by assumption) ?restp9_6
     case hyp9_6=>(intro w hSw;(try dsimp only at hSw);go_simp;try with_reducible rfl)
     try simp only[Act.put,List.getElem_toArray,List.getElem_cons_succ,List.getElem_cons_zero,List.setIfInBounds_toArray,List.set_cons_zero,List.set_cons_succ]
     refine wpAnyH_ready (rs:=[10]) (by kernel_rfl) (by simp) ?_
     refine AllReadyH.cons rfl (fun Kc hKc => ?_) AllReadyH.nil
     go_simp
     refine hKc.out _ _ ?_ (fun hHeld => ?_)
     ·exact Near.store hg36
     clear hKc Kc
     try simp only[Act.put,List.getElem_toArray,List.getElem_cons_succ,List.getElem_cons_zero,List.setIfInBounds_toArray,List.set_cons_zero,List.set_cons_succ]
     refine wpAnyH_done (by kernel_rfl) ?_ _
     have hT:=grown_set1 w6 g 0 (.slice a6 (e.length+1) c6)
     have hb7:=(hbQ3.ext hg36).moved hT (by omega)
     have hbR7:=(hbR3.ext hg36).moved hT (by omega)
     have hg7:=grown_own (grown_trans hgw3 (grown_of_ext (some sb) hg36)) hT (fun j hj hlt=>by have:=Option.some.inj hj;omega)
     have hs7:=(HX3.out.2.1.ext hg36).own hT (fun k hk=>by have:=Option.some.inj hk;omega)
     have hX6:PresX (fun k=>w0.heap.size≤k∧k≠qb∧k<w3.heap.size) w6 (.slice ao2 n co2) (.slice (some ⟨g,0,none⟩) n cp2) (.slice ac2 n cc2) P:=HX3.out.1.mono (fun k hk hlt=>⟨⟨hk.1,hk.2,hlt⟩,Nat.lt_of_lt_of_le hlt hg36.size,hg36.block k hlt (by simp)⟩)
     have hYI:Ints (fun k=>w3.heap.size≤k) w6 (.slice a6 (e.length+1) c6) (e++[0]):=ints_of_own hO6 (by omega) (fun k hk=>(hO6.lt k hk).1)
     obtain⟨g',_,_,he1,_,_,_,_,hP7⟩:=hX6.putP 0 (by rw[HX3.out.2.2.2.1];exact hn1) hYI (fun k hk h=>by omega)
     have hgg:g'=g:=by simp only[Value.slice.injEq,Option.some.injEq,Addr.mk.injEq] at he1;exact he1.1.1.symm
     rw[hgg] at hP7
     clear he1 hgg
     clear hT hX6 hYI hO6 hO5 r1 r2
     go_wp2_with fail
     go_meet
     exact⟨_,_,_,_,_,_,_,_,_,_,hb7,hbR7,hg7,hs7,(by show P.orders.length≤7;rw[←HX3.out.2.2.1];omega),(by exact OrdLe.same rfl),hP7.mono (fun k hk hlt=>⟨by rcases hk with hk|hk<;>omega,hlt,rfl⟩)⟩
    ·go_simp
     refine hKc.out _ _ ?_ (fun hHeld => ?_)
     ·exact Near.of (grown_trans (World.grownBy_alloc w3 (.cells #[.int .i64 0] 2) none) (grown_drew _ _))
     clear hKc Kc
     try simp only[Act.put,List.getElem_toArray,List.getElem_cons_succ,List.getElem_cons_zero,List.setIfInBounds_toArray,List.set_cons_zero,List.set_cons_succ]
     refine wpAnyH_ready (rs:=[6]) (by kernel_rfl) (by simp) ?_
     refine AllReadyH.cons rfl (fun Kc hKc => ?_) AllReadyH.nil
     go_simp
     go_at_call 199
     refine Calls.mono (l01Own_ok (w3.alloc (.cells #[.int .i64 0] 2)).drew _ e _ (hre.ext (grown_trans (World.grownBy_alloc w3 (.cells #[.int .i64 0] 2) none) (grown_drew _ _))) (by omega)) ?_
     rintro e5 w5 ⟨v5,rfl,hg5,hO5d⟩
     have hg35:Ext w3 w5:=grown_trans (grown_trans (World.grownBy_alloc w3 (.cells #[.int .i64 0] 2) none) (grown_drew _ _)) hg5
     have hsd:(w3.alloc (.cells #[.int .i64 0] 2)).drew.heap.size=w3.heap.size+1:=(by simp:(w3.alloc (.cells #[.int .i64 0] 2)).heap.size=w3.heap.size+1)
     have hO5:Own w3.heap.size w5 v5 e:=hO5d.weak (by omega)
     have hu4:(w3.alloc (.cells #[.int .i64 0] 2)).drew.cell? ⟨w3.heap.size,0,none⟩=some (.int .i64 0):=(by rw[World.cell?_alloc_at _ _ _ _ rfl];rfl:(w3.alloc (.cells #[.int .i64 0] 2)).cell? ⟨w3.heap.size,0,none⟩=some (.int .i64 0))
     have hu5:=hg5.cell hu4 (by simp)
     obtain⟨a5,c5,hv5,_⟩:=(hO5.ints (by omega)).shape
     subst hv5
     go_wp2_with fail
     refine hKc.out _ _ ?_ (fun hHeld => ?_)
     ·exact Near.of hg35
     clear hKc Kc
     try simp only[Act.put,List.getElem_toArray,List.getElem_cons_succ,List.getElem_cons_zero,List.setIfInBounds_toArray,List.set_cons_zero,List.set_cons_succ]
     refine wpAnyH_ready (rs:=[8]) (by kernel_rfl) (by simp) ?_
     refine AllReadyH.cons rfl (fun Kc hKc => ?_) AllReadyH.nil
     refine step_app_intH (by rfl) _ _ (by rfl) w3.heap.size _ e 0 (by rfl) hO5 w3.heap.size (by rfl) hu5 (by omega) hg35.size ?_
     intro v6 w6 hO6 hg6
     have hg36:Ext w3 w6:=grown_own hg35 hg6 (fun j hj hlt=>by have:=(hO5.lt j hj).1;omega)
     obtain⟨a6,c6,hv6,_⟩:=(hO6.ints (by simp;omega)).shape
     rw[hlx] at hv6
     subst hv6
     have r1:=hg36.cell hcr (by simp)
     have r2:=(World.frozen?_of_block (a:=⟨g,0,none⟩) (hg36.block g hgl (by simp))).trans hfg
     refine hKc.out _ _ ?_ (fun hHeld => ?_)
     ·exact Near.of hg36
     clear hKc Kc
     try simp only[Act.put,List.getElem_toArray,List.getElem_cons_succ,List.getElem_cons_zero,List.setIfInBounds_toArray,List.set_cons_zero,List.set_cons_succ]
     refine wpAnyH_take (i:=9) (v := ?vp9_7) rfl (by kernel_rfl) (by kernel_rfl) (by kernel_rfl) (fun _ _ _ h=>h) (Or.inl ⟨by rfl,?hyp9_7⟩) (by assumption) ?restp9_7
     case hyp9_7=>(intro w hSw;(try dsimp only at hSw);go_simp;try with_reducible rfl)
     try simp only[Act.put,List.getElem_toArray,List.getElem_cons_succ,List.getElem_cons_zero,List.setIfInBounds_toArray,List.set_cons_zero,List.set_cons_succ]
     refine wpAnyH_ready (rs:=[10]) (by kernel_rfl) (by simp) ?_
     refine AllReadyH.cons rfl (fun Kc hKc => ?_) AllReadyH.nil
     go_simp
     refine hKc.out _ _ ?_ (fun hHeld => ?_)
     ·exact Near.store hg36
     clear hKc Kc
     try simp only[Act.put,List.getElem_toArray,List.getElem_cons_succ,List.getElem_cons_zero,List.setIfInBounds_toArray,List.set_cons_zero,List.set_cons_succ]
     refine wpAnyH_done (by kernel_rfl) ?_ _
     have hT:=grown_set1 w6 g 0 (.slice a6 (e.length+1) c6)
     have hb7:=(hbQ3.ext hg36).moved hT (by omega)
     have hbR7:=(hbR3.ext hg36).moved hT (by omega)
     have hg7:=grown_own (grown_trans hgw3 (grown_of_ext (some sb) hg36)) hT (fun j hj hlt=>by have:=Option.some.inj hj;omega)
     have hs7:=(HX3.out.2.1.ext hg36).own hT (fun k hk=>by have:=Option.some.inj hk;omega)
     have hX6:PresX (fun k=>w0.heap.size≤k∧k≠qb∧k<w3.heap.size) w6 (.slice ao2 n co2) (.slice (some ⟨g,0,none⟩) n cp2) (.slice ac2 n cc2) P:=HX3.out.1.mono (fun k hk hlt=>⟨⟨hk.1,hk.2,hlt⟩,Nat.lt_of_lt_of_le hlt hg36.size,hg36.block k hlt (by simp)⟩)
     have hYI:Ints (fun k=>w3.heap.size≤k) w6 (.slice a6 (e.length+1) c6) (e++[0]):=ints_of_own hO6 (by omega) (fun k hk=>(hO6.lt k hk).1)
     obtain⟨g',_,_,he1,_,_,_,_,hP7⟩:=hX6.putP 0 (by rw[HX3.out.2.2.2.1];exact hn1) hYI (fun k hk h=>by omega)
     have hgg:g'=g:=by simp only[Value.slice.injEq,Option.some.injEq,Addr.mk.injEq] at he1;exact he1.1.1.symm
     rw[hgg] at hP7
     clear he1 hgg
     clear hT hX6 hYI hO6 hO5 r1 r2
     go_wp2_with fail
     go_meet
     exact⟨_,_,_,_,_,_,_,_,_,_,hb7,hbR7,hg7,hs7,(by show P.orders.length≤7;rw[←HX3.out.2.2.1];omega),(by exact OrdLe.same rfl),hP7.mono (fun k hk hlt=>⟨by rcases hk with hk|hk<;>omega,hlt,rfl⟩)⟩
   ·go_simp
    refine hKc.out _ _ ?_ (fun hHeld => ?_)
    ·exact Near.of (grown_trans (World.grownBy_alloc w3 (.cells #[.int .i64 0] 2) none) (grown_drew _ _))
    clear hKc Kc
    try simp only[Act.put,List.getElem_toArray,List.getElem_cons_succ,List.getElem_cons_zero,List.setIfInBounds_toArray,List.set_cons_zero,List.set_cons_succ]
    refine wpAnyH_ready (rs:=[5]) (by kernel_rfl) (by simp) ?_
    refine AllReadyH.cons rfl (fun Kc hKc => ?_) AllReadyH.nil
    have f2:(w3.alloc (.cells #[.int .i64 0] 2)).drew.cell? ⟨g,0,none⟩=some (.slice ae e.length ce):=(grown_trans (World.grownBy_alloc w3 (.cells #[.int .i64 0] 2) none) (grown_drew _ _):Ext w3 (w3.alloc (.cells #[.int .i64 0] 2)).drew).cell hcr (by simp)
    go_simp
    refine hKc.out _ _ ?_ (fun hHeld => ?_)
    ·assumption
    clear hKc Kc
    try simp only[Act.put,List.getElem_toArray,List.getElem_cons_succ,List.getElem_cons_zero,List.setIfInBounds_toArray,List.set_cons_zero,List.set_cons_succ]
    refine wpAnyH_ready (rs:=[6]) (by kernel_rfl) (by simp) ?_
    refine AllReadyH.cons rfl (fun Kc hKc => ?_) AllReadyH.nil
    go_simp
    go_at_call 199
    refine Calls.mono (l01Own_ok (w3.alloc (.cells #[.int .i64 0] 2)).drew _ e _ (hre.ext (grown_trans (World.grownBy_alloc w3 (.cells #[.int .i64 0] 2) none) (grown_drew _ _))) (by omega)) ?_
    rintro e5 w5 ⟨v5,rfl,hg5,hO5d⟩
    have hg35:Ext w3 w5:=grown_trans (grown_trans (World.grownBy_alloc w3 (.cells #[.int .i64 0] 2) none) (grown_drew _ _)) hg5
    have hsd:(w3.alloc (.cells #[.int .i64 0] 2)).drew.heap.size=w3.heap.size+1:=(by simp:(w3.alloc (.cells #[.int .i64 0] 2)).heap.size=w3.heap.size+1)
    have hO5:Own w3.heap.size w5 v5 e:=hO5d.weak (by omega)
    have hu4:(w3.alloc (.cells #[.int .i64 0] 2)).drew.cell? ⟨w3.heap.size,0,none⟩=some (.int .i64 0):=(by rw[World.cell?_alloc_at _ _ _ _ rfl];rfl:(w3.alloc (.cells #[.int .i64 0] 2)).cell? ⟨w3.heap.size,0,none⟩=some (.int .i64 0))
    have hu5:=hg5.cell hu4 (by simp)
    obtain⟨a5,c5,hv5,_⟩:=(hO5.ints (by omega)).shape
    subst hv5
    go_wp2_with fail
    refine hKc.out _ _ ?_ (fun hHeld => ?_)
    ·exact Near.of hg35
    clear hKc Kc
    try simp only[Act.put,List.getElem_toArray,List.getElem_cons_succ,List.getElem_cons_zero,List.setIfInBounds_toArray,List.set_cons_zero,List.set_cons_succ]
    refine wpAnyH_ready (rs:=[8]) (by kernel_rfl) (by simp) ?_
    refine AllReadyH.cons rfl (fun Kc hKc => ?_) AllReadyH.nil
    refine step_app_intH (by rfl) _ _ (by rfl) w3.heap.size _ e 0 (by rfl) hO5 w3.heap.size (by rfl) hu5 (by omega) hg35.size ?_
    intro v6 w6 hO6 hg6
    have hg36:Ext w3 w6:=grown_own hg35 hg6 (fun j hj hlt=>by have:=(hO5.lt j hj).1;omega)
    obtain⟨a6,c6,hv6,_⟩:=(hO6.ints (by simp;omega)).shape
    rw[hlx] at hv6
    subst hv6
    have r1:=hg36.cell hcr (by simp)
    have r2:=(World.frozen?_of_block (a:=⟨g,0,none⟩) (hg36.block g hgl (by simp))).trans hfg
    refine hKc.out _ _ ?_ (fun hHeld => ?_)
    ·exact Near.of hg36
    clear hKc Kc
    try simp only[Act.put,List.getElem_toArray,List.getElem_cons_succ,List.getElem_cons_zero,List.setIfInBounds_toArray,List.set_cons_zero,List.set_cons_succ]
    refine wpAnyH_take (i:=9) (v := ?vp9_8) rfl (by kernel_rfl) (by kernel_rfl) (by kernel_rfl) (fun _ _ _ h=>h) (Or.inl ⟨by rfl,?hyp9_8⟩) (by assumption) ?restp9_8
    case hyp9_8=>(intro w hSw;(try dsimp only at hSw);go_simp;try with_reducible rfl)
    try simp only[Act.put,List.getElem_toArray,List.getElem_cons_succ,List.getElem_cons_zero,List.setIfInBounds_toArray,List.set_cons_zero,List.set_cons_succ]
    refine wpAnyH_ready (rs:=[10]) (by kernel_rfl) (by simp) ?_
    refine AllReadyH.cons rfl (fun Kc hKc => ?_) AllReadyH.nil
    go_simp
    refine hKc.out _ _ ?_ (fun hHeld => ?_)
    ·exact Near.store hg36
    clear hKc Kc
    try simp only[Act.put,List.getElem_toArray,List.getElem_cons_succ,List.getElem_cons_zero,List.setIfInBounds_toArray,List.set_cons_zero,List.set_cons_succ]
    refine wpAnyH_done (by kernel_rfl) ?_ _
    have hT:=grown_set1 w6 g 0 (.slice a6 (e.length+1) c6)
    have hb7:=(hbQ3.ext hg36).moved hT (by omega)
    have hbR7:=(hbR3.ext hg36).moved hT (by omega)
    have hg7:=grown_own (grown_trans hgw3 (grown_of_ext (some sb) hg36)) hT (fun j hj hlt=>by have:=Option.some.inj hj;omega)
    have hs7:=(HX3.out.2.1.ext hg36).own hT (fun k hk=>by have:=Option.some.inj hk;omega)
    have hX6:PresX (fun k=>w0.heap.size≤k∧k≠qb∧k<w3.heap.size) w6 (.slice ao2 n co2) (.slice (some ⟨g,0,none⟩) n cp2) (.slice ac2 n cc2) P:=HX3.out.1.mono (fun k hk hlt=>⟨⟨hk.1,hk.2,hlt⟩,Nat.lt_of_lt_of_le hlt hg36.size,hg36.block k hlt (by simp)⟩)
    have hYI:Ints (fun k=>w3.heap.size≤k) w6 (.slice a6 (e.length+1) c6) (e++[0]):=ints_of_own hO6 (by omega) (fun k hk=>(hO6.lt k hk).1)
    obtain⟨g',_,_,he1,_,_,_,_,hP7⟩:=hX6.putP 0 (by rw[HX3.out.2.2.2.1];exact hn1) hYI (fun k hk h=>by omega)
    have hgg:g'=g:=by simp only[Value.slice.injEq,Option.some.injEq,Addr.mk.injEq] at he1;exact he1.1.1.symm
    rw[hgg] at hP7
    clear he1 hgg
    clear hT hX6 hYI hO6 hO5 r1 r2
    go_wp2_with fail
    go_meet
    exact⟨_,_,_,_,_,_,_,_,_,_,hb7,hbR7,hg7,hs7,(by show P.orders.length≤7;rw[←HX3.out.2.2.1];omega),(by exact OrdLe.same rfl),hP7.mono (fun k hk hlt=>⟨by rcases hk with hk|hk<;>omega,hlt,rfl⟩)⟩
 ·by_cases hn0:n=0
  ·have hnb:decide (0<n)=false:=by simp[hn0]
   clear hn0
   go_wp2_with fail
   try go_wp2_with fail
   go_meet
   exact⟨_,_,_,_,_,_,_,_,_,_,hbQ3,hbR3,hgw3,HX3.out.2.1,(by rw[←HX3.out.2.2.1];omega),(by exact OrdLe.same rfl),Pres3.mono HX3.out.1.p3 (fun k hk hlt=>⟨by omega,hlt,rfl⟩)⟩
  ·have hn1:0<n:=by omega
   clear hn0
   have hnI:(0:Int)<n:=by omega
   have hpl:(gt P.powers 0).length=n:=by rw[HX3.out.2.2.1];exact(HH.out.2.1.pv 0 (by rw[←HX3.out.2.2.1];exact hn1)).1.1
   obtain⟨g,capg,b,capb,hvp,⟨hgB,hgq⟩,hgl,hcg,⟨hbB,hbq⟩,hbg,hbl,hcb,hst⟩:=HX3.out.1.openPIm (r:=sb) 0 0 (by rw[HX3.out.2.2.2.1];exact hn1) (by rw[hpl];exact hn1) (fun h=>by omega)
   obtain⟨rfl,rfl⟩:ap2=some ⟨g,0,none⟩∧cp2=capg:=by cases hvp;exact⟨rfl,rfl⟩
   clear hvp
   rw[hpl] at hcg
   obtain⟨hfr,hX4⟩:=hst w3 (grown_refl _ _)
   have hX4:=hX4 1
   have hT:=grown_set1 w3 b 0 (.int .i64 1)
   have hb6:=hbQ3.moved hT (by omega)
   have hbR6:=hbR3.moved hT (by omega)
   have hg6:=grown_own hgw3 hT (fun j hj hlt=>by have:=Option.some.inj hj;omega)
   have hs6:=HX3.out.2.1.own hT (fun k hk=>by have:=Option.some.inj hk;omega)
   generalize gt (gt P.powers 0) 0=oz at hcb
   have HX4:=Lib.hid (And.intro hX4 (And.intro hb6 (And.intro hbR6 (And.intro hg6 hs6))));clear hX4 hb6 hbR6 hg6 hs6 hT hst hpl
   go_wp2_with fail
   go_meet
   obtain⟨hX4,hb6,hbR6,hg6,hs6⟩:=HX4.out
   exact⟨_,_,_,_,_,_,_,_,_,_,hb6,hbR6,hg6,hs6,(by show P.orders.length≤7;rw[←HX3.out.2.2.1];omega),(by exact OrdLe.same rfl),hX4.p3.mono (fun k hk hlt=>⟨by rcases hk with hk|hk<;>omega,hlt,rfl⟩)⟩
 ·by_cases hn0:n=0
  ·have hnb:decide (0<n)=false:=by simp[hn0]
   clear hn0
   go_wp2_with fail
   try go_wp2_with fail
   go_meet
   exact⟨_,_,_,_,_,_,_,_,_,_,hbQ3,hbR3,hgw3,HX3.out.2.1,(by rw[←HX3.out.2.2.1];omega),(by exact OrdLe.same rfl),Pres3.mono HX3.out.1.p3 (fun k hk hlt=>⟨by omega,hlt,rfl⟩)⟩
  ·have hn1:0<n:=by omega
   clear hn0
   have hnI:(0:Int)<n:=by omega
   have hr0:=HX3.out.1.p3.c
   obtain⟨bq,oq,ae,ce,hap,hbF,_,hcr,hre⟩:=Rows3.at hr0 0 (by rw[HX3.out.2.2.2.2];exact hn1)
   obtain⟨g,capg,z,hvp,hgB,hgq,hgl,hfg⟩:=HX3.out.1.conjOwn 0 (by rw[HX3.out.2.2.2.2];exact hn1)
   obtain⟨rfl,rfl⟩:ac2=some ⟨g,0,none⟩∧cc2=capg:=by cases hvp;exact⟨rfl,rfl⟩
   have hbg:g=bq:=by cases hap;rfl
   have hoq:oq=0:=by cases hap;rfl
   clear hap
   subst hbg hoq
   rw[Nat.zero_add] at hcr
   have e1:∀w',Near w3 g w'→w'.cell? ⟨qb,2,none⟩=some (.slice (some ⟨g,0,none⟩) n cc2):=fun w' h=>h.cell hbQ3.2.2.2.1 (by simp;omega)
   have e0:∀w',Near w3 g w'→w'.cell? ⟨qb,0,none⟩=some (.slice ao2 n co2):=fun w' h=>h.cell hbQ3.2.1 (by simp;omega)
   have hrl:(gt P.conj 0).length≤6:=by rw[HH.out.1.cl 0 (by rw[←HX3.out.2.2.1];exact hn1),←HX3.out.2.2.1];omega
   have hrv:∀x∈gt P.conj 0,x.length≤1000000:=fun x hx=>by have:=HH.out.1.cv _ (gtMem (by rw[HX3.out.2.2.2.2];exact hn1)) x hx;omega
   obtain⟨R,hR⟩:∃R,R=gt P.conj 0:=⟨_,rfl⟩
   rw[←hR] at hcr hre hrl hrv
   have HR:=Lib.hid (And.intro hrv hR)
   clear hvp hrv hR hr0 hgB
   have hmk:=fun w=>run_mk_ints n (by omega) w
   go_wp2_with fail
   refine wp_region_held_drew (S:=fun w'=>Near w3 g w') (by kernel_rfl) (Near.of (grown_drew _ _)) (fun hHeld => ?_)
   refine wpAnyH_take (i:=0) (v := ?vc0_1) rfl (by kernel_rfl) (by kernel_rfl) (by kernel_rfl) (fun _ _ _ h=>h) (Or.inl ⟨by rfl,?hyc0_1⟩) (by assumption) ?restc0_1
   case hyc0_1=>(intro w hSw;(try dsimp only at hSw);go_simp;try with_reducible rfl)
   try simp only[Act.put,List.getElem_toArray,List.getElem_cons_succ,List.getElem_cons_zero,List.setIfInBounds_toArray,List.set_cons_zero,List.set_cons_succ]
   refine wpAnyH_take (i:=1) (v := ?vc1_2) rfl (by kernel_rfl) (by kernel_rfl) (by kernel_rfl) (fun _ _ _ h=>h) (Or.inl ⟨by rfl,?hyc1_2⟩) (by assumption) ?restc1_2
   case hyc1_2=>(intro w hSw;(try dsimp only at hSw);go_simp;try with_reducible rfl)
   try simp only[Act.put,List.getElem_toArray,List.getElem_cons_succ,List.getElem_cons_zero,List.setIfInBounds_toArray,List.set_cons_zero,List.set_cons_succ]
   refine wpAnyH_take (i:=2) (v := ?vc2_3) rfl (by kernel_rfl) (by kernel_rfl) (by kernel_rfl) (fun _ _ _ h=>h) (Or.inl ⟨by rfl,?hyc2_3⟩) (by assumption) ?restc2_3
   case hyc2_3=>(intro w hSw;(try dsimp only at hSw);go_simp;try with_reducible rfl)
   try simp only[Act.put,List.getElem_toArray,List.getElem_cons_succ,List.getElem_cons_zero,List.setIfInBounds_toArray,List.set_cons_zero,List.set_cons_succ]
   refine wpAnyH_take (i:=3) (v := ?vc3_4) rfl (by kernel_rfl) (by kernel_rfl) (by kernel_rfl) (fun _ _ _ h=>h) (Or.inl ⟨by rfl,?hyc3_4⟩) (by assumption) ?restc3_4
   case hyc3_4=>(intro w hSw;(try dsimp only at hSw);go_simp;try with_reducible rfl)
   try simp only[Act.put,List.getElem_toArray,List.getElem_cons_succ,List.getElem_cons_zero,List.setIfInBounds_toArray,List.set_cons_zero,List.set_cons_succ]
   refine wpAnyH_take (i:=4) (v := ?vc4_5) rfl (by kernel_rfl) (by kernel_rfl) (by kernel_rfl) (fun _ _ _ h=>h) (Or.inl ⟨by rfl,?hyc4_5⟩) (by assumption) ?restc4_5
   case hyc4_5=>(intro w hSw;(try dsimp only at hSw);go_simp;try with_reducible rfl)
   try simp only[Act.put,List.getElem_toArray,List.getElem_cons_succ,List.getElem_cons_zero,List.setIfInBounds_toArray,List.set_cons_zero,List.set_cons_succ]
   refine wpAnyH_take (i:=7) (v := ?vc7_6) rfl (by kernel_rfl) (by kernel_rfl) (by kernel_rfl) (fun _ _ _ h=>h) (Or.inl ⟨by rfl,?hyc7_6⟩) (by assumption) ?restc7_6
   case hyc7_6=>(intro w hSw;(try dsimp only at hSw);go_simp;try with_reducible rfl)
   try simp only[Act.put,List.getElem_toArray,List.getElem_cons_succ,List.getElem_cons_zero,List.setIfInBounds_toArray,List.set_cons_zero,List.set_cons_succ]
   refine wpAnyH_take (i:=8) (v := ?vc8_7) rfl (by kernel_rfl) (by kernel_rfl) (by kernel_rfl) (fun _ _ _ h=>h) (Or.inl ⟨by rfl,?hyc8_7⟩) (by assumption) ?restc8_7
   case hyc8_7=>(intro w hSw;(try dsimp only at hSw);go_simp;try with_reducible rfl)
   try simp only[Act.put,List.getElem_toArray,List.getElem_cons_succ,List.getElem_cons_zero,List.setIfInBounds_toArray,List.set_cons_zero,List.set_cons_succ]
   refine wpAnyH_take (i:=9) (v := ?vc9_8) rfl (by kernel_rfl) (by kernel_rfl) (by kernel_rfl) (fun _ _ _ h=>h) (Or.inl ⟨by rfl,?hyc9_8⟩) (by assumption) ?restc9_8
   case hyc9_8=>(intro w hSw;(try dsimp only at hSw);go_simp;try with_reducible rfl)
   try simp only[Act.put,List.getElem_toArray,List.getElem_cons_succ,List.getElem_cons_zero,List.setIfInBounds_toArray,List.set_cons_zero,List.set_cons_succ]
   refine wpAnyH_ready (rs:=[5,10]) (by kernel_rfl) (by simp) ?_
   refine AllReadyH.cons rfl (fun Kc hKc => ?_) (AllReadyH.cons rfl (fun Kc hKc => ?_) AllReadyH.nil)
   ·have f2:w3.drew.cell? ⟨g,0,none⟩=some (.slice ae R.length ce):=((grown_trans (grown_refl w3 none) (grown_drew _ none)):Ext w3 w3.drew).cell hcr (by simp)
    go_simp
    refine hKc.out _ _ ?_ (fun hHeld => ?_)
    ·exact Near.of (grown_trans (grown_refl w3 none) (grown_drew _ none))
    clear hKc Kc
    try simp only[Act.put,List.getElem_toArray,List.getElem_cons_succ,List.getElem_cons_zero,List.setIfInBounds_toArray,List.set_cons_zero,List.set_cons_succ]
    refine wpAnyH_ready (rs:=[6,10]) (by kernel_rfl) (by simp) ?_
    refine AllReadyH.cons rfl (fun Kc hKc => ?_) (AllReadyH.cons rfl (fun Kc hKc => ?_) AllReadyH.nil)
    ·go_simp
     go_at_call 213
     refine Calls.mono (l01Own2_ok w3.drew _ R _ (Rows2.ext hre (grown_trans (grown_refl w3 none) (grown_drew _ none))) HR.out.1 (by omega)) ?_
     rintro e5 w5 ⟨v5,rfl,hg5,hO5⟩
     have hg35:Ext w3 w5:=grown_trans (grown_trans (grown_refl w3 none) (grown_drew _ none)) hg5
     obtain⟨vs,G,hvl,hO5,hG5,_,hE5⟩:=hO5
     have hsd:w3.drew.heap.size=w3.heap.size+0:=(by simp:w3.heap.size=w3.heap.size+0)
     have hbb:∀k,v5.ownBlock=some k→w3.heap.size+0≤k:=fun k hk=>by have:=(hO5.lt k hk).1;omega
     have hO5:OwnV w3.heap.size 24 w5 v5 vs:=ownsRow_move hO5 (fun k hk=>⟨rfl,Nat.le_trans ((grown_trans (grown_refl w3 none) (grown_drew _ none)):Ext w3 w3.drew).size (hO5.lt k hk).1⟩)
     have hE5:∀i,i<R.length→Ints (fun k=>w3.heap.size≤k∧v5.ownBlock≠some k) w5 (gt vs i) (gt R i):=fun i hi=>Ints.sub (hE5 i hi).ints (fun k hk _=>⟨Nat.le_trans ((grown_trans (grown_refl w3 none) (grown_drew _ none)):Ext w3 w3.drew).size (hG5 i k hi hk).1,(hG5 i k hi hk).2.1⟩)
     obtain ⟨a5,c5,hv5,_⟩:∃a c,v5=.slice a vs.length c∧True:=by
      rcases hO5.form with⟨h1,h2⟩|⟨g5,cap5,h1,_⟩
      ·exact⟨_,_,by rw[h1,h2];rfl,trivial⟩
      ·exact⟨_,_,h1,trivial⟩
     have hvl6:vs.length≤6:=by omega
     subst hv5
     have HE5:=Lib.hid (And.intro hE5 hvl);clear hE5 hvl hG5
     go_wp2_with fail
     refine hKc.out _ _ ?_ (fun hHeld => ?_)
     ·exact Near.of hg35
     clear hKc Kc
     try simp only[Act.put,List.getElem_toArray,List.getElem_cons_succ,List.getElem_cons_zero,List.setIfInBounds_toArray,List.set_cons_zero,List.set_cons_succ]
     refine wpAnyH_ready (rs:=[10]) (by kernel_rfl) (by simp) ?_
     refine AllReadyH.cons rfl (fun Kc hKc => ?_) AllReadyH.nil
     go_simp
     refine hKc.out _ _ ?_ (fun hHeld => ?_)
     ·exact Near.of (grown_trans hg35 (World.grownBy_alloc w5 (.cells (madeCells #[.int .i64 0] n) 2) none))
     clear hKc Kc
     try simp only[Act.put,List.getElem_toArray,List.getElem_cons_succ,List.getElem_cons_zero,List.setIfInBounds_toArray,List.set_cons_zero,List.set_cons_succ]
     refine wpAnyH_ready (rs:=[11]) (by kernel_rfl) (by simp) ?_
     refine AllReadyH.cons rfl (fun Kc hKc => ?_) AllReadyH.nil
     go_simp
     refine hKc.out _ _ ?_ (fun hHeld => ?_)
     ·exact Near.of (grown_trans (grown_trans hg35 (World.grownBy_alloc w5 (.cells (madeCells #[.int .i64 0] n) 2) none)) (World.grownBy_alloc (w5.alloc (.cells (madeCells #[.int .i64 0] n) 2)) (.cells #[.slice (some ⟨w5.heap.size,0,none⟩) n n] 24) none))
     clear hKc Kc
     try simp only[Act.put,List.getElem_toArray,List.getElem_cons_succ,List.getElem_cons_zero,List.setIfInBounds_toArray,List.set_cons_zero,List.set_cons_succ]
     refine wpAnyH_ready (rs:=[12]) (by kernel_rfl) (by simp) ?_
     refine AllReadyH.cons rfl (fun Kc hKc => ?_) AllReadyH.nil
     have hM0:Ints (fun k=>w3.heap.size≤k∧k=w5.heap.size) (w5.alloc (.cells (madeCells #[.int .i64 0] n) 2)) (.slice (some ⟨w5.heap.size,0,none⟩) n n) (List.replicate n 0):=ints_of_own (own_mk_ints n (by omega) w5) (by simp;omega) (fun k hk=>by have:=own_blk hk;subst this;exact⟨by first|exact Nat.le_refl _|exact hg35.size,rfl⟩)
     have hM:Ints (fun k=>w3.heap.size≤k∧k=w5.heap.size) ((w5.alloc (.cells (madeCells #[.int .i64 0] n) 2)).alloc (.cells #[.slice (some ⟨w5.heap.size,0,none⟩) n n] 24)) (.slice (some ⟨w5.heap.size,0,none⟩) n n) (List.replicate n 0):=Ints.ext hM0 (grown_trans (grown_refl _ none) (World.grownBy_alloc (w5.alloc (.cells (madeCells #[.int .i64 0] n) 2)) (.cells #[.slice (some ⟨w5.heap.size,0,none⟩) n n] 24) none))
     have hszl:(w5.alloc (.cells (madeCells #[.int .i64 0] n) 2)).heap.size=w5.heap.size+1:=by simp
     have hu0:((w5.alloc (.cells (madeCells #[.int .i64 0] n) 2)).alloc (.cells #[.slice (some ⟨w5.heap.size,0,none⟩) n n] 24)).cell? ⟨w5.heap.size+1,0,none⟩=some (.slice (some ⟨w5.heap.size,0,none⟩) n n):=by rw[World.cell?_alloc_at _ _ _ _ hszl.symm];rfl
     have hu:=hu0
     have hc35:Ext w3 ((w5.alloc (.cells (madeCells #[.int .i64 0] n) 2)).alloc (.cells #[.slice (some ⟨w5.heap.size,0,none⟩) n n] 24)):=(grown_trans (grown_trans hg35 (World.grownBy_alloc w5 (.cells (madeCells #[.int .i64 0] n) 2) none)) (World.grownBy_alloc (w5.alloc (.cells (madeCells #[.int .i64 0] n) 2)) (.cells #[.slice (some ⟨w5.heap.size,0,none⟩) n n] 24) none))
     have hc5:Ext w5 ((w5.alloc (.cells (madeCells #[.int .i64 0] n) 2)).alloc (.cells #[.slice (some ⟨w5.heap.size,0,none⟩) n n] 24)):=(grown_trans (grown_trans (grown_refl _ none) (World.grownBy_alloc w5 (.cells (madeCells #[.int .i64 0] n) 2) none)) (World.grownBy_alloc (w5.alloc (.cells (madeCells #[.int .i64 0] n) 2)) (.cells #[.slice (some ⟨w5.heap.size,0,none⟩) n n] 24) none))
     have hOc:=World.ownsRow.kept hO5 hc5 (by cases hv:(Value.slice a5 vs.length c5).ownBlock<;>simp)
     refine step_app_rowH (by rfl) _ _ (by rfl) w3.heap.size _ vs (by rfl) hOc (w5.heap.size+1) _ (by rfl) ⟨hu,rfl⟩ (by omega) hc35.size ?_
     intro v6 w6 hO6 hg6 hat6
     have hg36:Ext w3 w6:=grown_own hc35 hg6 (fun j hj hlt=>by have:=(hO5.lt j hj).1;omega)
     have hRows6:=rows_app (L:=R) (y:=List.replicate n 0) hO6 HE5.out.2 (by omega) HE5.out.1 hc5 hg6 hM (fun k hk=>⟨hk.1,fun e=>by have h1:=hbb k e;have h2:=(hO5.lt k e).2;omega⟩)
     obtain ⟨a6,c6,hv6,_⟩:∃a c,v6=.slice a (vs.length+1) c∧True:=by
      have hll:(vs++[Value.slice (some ⟨w5.heap.size,0,none⟩) n n]).length=vs.length+1:=by simp
      rcases hO6.form with⟨h1,h2⟩|⟨g5,cap5,h1,_⟩
      ·simp at h2
      ·exact⟨_,_,by rw[h1,hll],trivial⟩
     subst hv6
     have r1:=hg36.cell hcr (by simp)
     have r2:=(World.frozen?_of_block (a:=⟨g,0,none⟩) (hg36.block g hgl (by simp))).trans hfg
     refine hKc.out _ _ ?_ (fun hHeld => ?_)
     ·exact Near.of hg36
     clear hKc Kc
     try simp only[Act.put,List.getElem_toArray,List.getElem_cons_succ,List.getElem_cons_zero,List.setIfInBounds_toArray,List.set_cons_zero,List.set_cons_succ]
     refine wpAnyH_take (i:=13) (v := ?vc13_9) rfl (by kernel_rfl) (by kernel_rfl) (by kernel_rfl) (fun _ _ _ h=>h) (Or.inl ⟨by rfl,?hyc13_9⟩) (by assumption) ?restc13_9
     case hyc13_9=>(intro w hSw;(try dsimp only at hSw);go_simp;try with_reducible rfl)
     try simp only[Act.put,List.getElem_toArray,List.getElem_cons_succ,List.getElem_cons_zero,List.setIfInBounds_toArray,List.set_cons_zero,List.set_cons_succ]
     refine wpAnyH_ready (rs:=[14]) (by kernel_rfl) (by simp) ?_
     refine AllReadyH.cons rfl (fun Kc hKc => ?_) AllReadyH.nil
     go_simp
     refine hKc.out _ _ ?_ (fun hHeld => ?_)
     ·exact Near.store hg36
     clear hKc Kc
     try simp only[Act.put,List.getElem_toArray,List.getElem_cons_succ,List.getElem_cons_zero,List.setIfInBounds_toArray,List.set_cons_zero,List.set_cons_succ]
     refine wpAnyH_done (by kernel_rfl) ?_ _
     clear r1 r2 hmk e0 e1
     have hT:=grown_set1 w6 g 0 (.slice a6 (vs.length+1) c6)
     have hb7:=(hbQ3.ext hg36).moved hT (by omega)
     have hbR7:=(hbR3.ext hg36).moved hT (by omega)
     have hg7:=grown_own (grown_trans hgw3 (grown_of_ext (some sb) hg36)) hT (fun j hj hlt=>by have:=Option.some.inj hj;omega)
     have hs7:=(HX3.out.2.1.ext hg36).own hT (fun k hk=>by have:=Option.some.inj hk;omega)
     have hP7:=HX3.out.1.putRow 0 hn1 HX3.out.2.2.2.2 hg36 hRows6
     have HF:=Lib.hid (And.intro hb7 (And.intro hbR7 (And.intro hg7 (And.intro hs7 hP7))));clear hb7 hbR7 hg7 hs7 hP7 hT hRows6
     go_wp2_with fail
     go_meet
     obtain⟨hb7,hbR7,hg7,hs7,Q7,hq7,hP7⟩:=HF.out
     exact⟨_,_,_,_,_,_,_,_,_,_,hb7,hbR7,hg7,hs7,(by rw[hq7,←HX3.out.2.2.1];omega),(OrdLe.same hq7),hP7.mono (fun k hk hlt=>⟨by rcases hk with hk|hk<;>omega,hlt,rfl⟩)⟩
    ·go_simp
     refine hKc.out _ _ ?_ (fun hHeld => ?_)
     ·exact Near.of (grown_trans (grown_trans (grown_refl w3 none) (World.grownBy_alloc w3 (.cells (madeCells #[.int .i64 0] n) 2) none)) (grown_drew _ none))
     clear hKc Kc
     try simp only[Act.put,List.getElem_toArray,List.getElem_cons_succ,List.getElem_cons_zero,List.setIfInBounds_toArray,List.set_cons_zero,List.set_cons_succ]
     refine wpAnyH_ready (rs:=[6,11]) (by kernel_rfl) (by simp) ?_
     refine AllReadyH.cons rfl (fun Kc hKc => ?_) (AllReadyH.cons rfl (fun Kc hKc => ?_) AllReadyH.nil)
     ·go_simp
      go_at_call 213
      refine Calls.mono (l01Own2_ok (w3.alloc (.cells (madeCells #[.int .i64 0] n) 2)).drew _ R _ (Rows2.ext hre (grown_trans (grown_trans (grown_refl w3 none) (World.grownBy_alloc w3 (.cells (madeCells #[.int .i64 0] n) 2) none)) (grown_drew _ none))) HR.out.1 (by omega)) ?_
      rintro e5 w5 ⟨v5,rfl,hg5,hO5⟩
      have hg35:Ext w3 w5:=grown_trans (grown_trans (grown_trans (grown_refl w3 none) (World.grownBy_alloc w3 (.cells (madeCells #[.int .i64 0] n) 2) none)) (grown_drew _ none)) hg5
      obtain⟨vs,G,hvl,hO5,hG5,_,hE5⟩:=hO5
      have hsd:(w3.alloc (.cells (madeCells #[.int .i64 0] n) 2)).drew.heap.size=w3.heap.size+1:=(by simp:(w3.alloc (.cells (madeCells #[.int .i64 0] n) 2)).heap.size=w3.heap.size+1)
      have hbb:∀k,v5.ownBlock=some k→w3.heap.size+1≤k:=fun k hk=>by have:=(hO5.lt k hk).1;omega
      have hO5:OwnV w3.heap.size 24 w5 v5 vs:=ownsRow_move hO5 (fun k hk=>⟨rfl,Nat.le_trans ((grown_trans (grown_trans (grown_refl w3 none) (World.grownBy_alloc w3 (.cells (madeCells #[.int .i64 0] n) 2) none)) (grown_drew _ none)):Ext w3 (w3.alloc (.cells (madeCells #[.int .i64 0] n) 2)).drew).size (hO5.lt k hk).1⟩)
      have hE5:∀i,i<R.length→Ints (fun k=>w3.heap.size≤k∧v5.ownBlock≠some k) w5 (gt vs i) (gt R i):=fun i hi=>Ints.sub (hE5 i hi).ints (fun k hk _=>⟨Nat.le_trans ((grown_trans (grown_trans (grown_refl w3 none) (World.grownBy_alloc w3 (.cells (madeCells #[.int .i64 0] n) 2) none)) (grown_drew _ none)):Ext w3 (w3.alloc (.cells (madeCells #[.int .i64 0] n) 2)).drew).size (hG5 i k hi hk).1,(hG5 i k hi hk).2.1⟩)
      obtain ⟨a5,c5,hv5,_⟩:∃a c,v5=.slice a vs.length c∧True:=by
       rcases hO5.form with⟨h1,h2⟩|⟨g5,cap5,h1,_⟩
       ·exact⟨_,_,by rw[h1,h2];rfl,trivial⟩
       ·exact⟨_,_,h1,trivial⟩
      have hvl6:vs.length≤6:=by omega
      subst hv5
      have HE5:=Lib.hid (And.intro hE5 hvl);clear hE5 hvl hG5
      go_wp2_with fail
      refine hKc.out _ _ ?_ (fun hHeld => ?_)
      ·exact Near.of hg35
      clear hKc Kc
      try simp only[Act.put,List.getElem_toArray,List.getElem_cons_succ,List.getElem_cons_zero,List.setIfInBounds_toArray,List.set_cons_zero,List.set_cons_succ]
      refine wpAnyH_ready (rs:=[11]) (by kernel_rfl) (by simp) ?_
      refine AllReadyH.cons rfl (fun Kc hKc => ?_) AllReadyH.nil
      go_simp
      refine hKc.out _ _ ?_ (fun hHeld => ?_)
      ·exact Near.of (grown_trans hg35 (World.grownBy_alloc w5 (.cells #[.slice (some ⟨w3.heap.size,0,none⟩) n n] 24) none))
      clear hKc Kc
      try simp only[Act.put,List.getElem_toArray,List.getElem_cons_succ,List.getElem_cons_zero,List.setIfInBounds_toArray,List.set_cons_zero,List.set_cons_succ]
      refine wpAnyH_ready (rs:=[12]) (by kernel_rfl) (by simp) ?_
      refine AllReadyH.cons rfl (fun Kc hKc => ?_) AllReadyH.nil
      have hM0:Ints (fun k=>w3.heap.size≤k∧k=w3.heap.size) (w3.alloc (.cells (madeCells #[.int .i64 0] n) 2)) (.slice (some ⟨w3.heap.size,0,none⟩) n n) (List.replicate n 0):=ints_of_own (own_mk_ints n (by omega) w3) (by simp;omega) (fun k hk=>by have:=own_blk hk;subst this;exact⟨by first|exact Nat.le_refl _|exact hg35.size,rfl⟩)
      have hM:Ints (fun k=>w3.heap.size≤k∧k=w3.heap.size) (w5.alloc (.cells #[.slice (some ⟨w3.heap.size,0,none⟩) n n] 24)) (.slice (some ⟨w3.heap.size,0,none⟩) n n) (List.replicate n 0):=Ints.ext hM0 (grown_trans (grown_trans (grown_trans (grown_refl _ none) (grown_drew (w3.alloc (.cells (madeCells #[.int .i64 0] n) 2)) none)) (hg5)) (World.grownBy_alloc w5 (.cells #[.slice (some ⟨w3.heap.size,0,none⟩) n n] 24) none))
      have hszl:w5.heap.size=w5.heap.size:=rfl
      have hu0:(w5.alloc (.cells #[.slice (some ⟨w3.heap.size,0,none⟩) n n] 24)).cell? ⟨w5.heap.size,0,none⟩=some (.slice (some ⟨w3.heap.size,0,none⟩) n n):=by rw[World.cell?_alloc_at _ _ _ _ hszl.symm];rfl
      have hu:=hu0
      have hc35:Ext w3 (w5.alloc (.cells #[.slice (some ⟨w3.heap.size,0,none⟩) n n] 24)):=(grown_trans hg35 (World.grownBy_alloc w5 (.cells #[.slice (some ⟨w3.heap.size,0,none⟩) n n] 24) none))
      have hc5:Ext w5 (w5.alloc (.cells #[.slice (some ⟨w3.heap.size,0,none⟩) n n] 24)):=(grown_trans (grown_refl _ none) (World.grownBy_alloc w5 (.cells #[.slice (some ⟨w3.heap.size,0,none⟩) n n] 24) none))
      have hOc:=World.ownsRow.kept hO5 hc5 (by cases hv:(Value.slice a5 vs.length c5).ownBlock<;>simp)
      refine step_app_rowH (by rfl) _ _ (by rfl) w3.heap.size _ vs (by rfl) hOc (w5.heap.size) _ (by rfl) ⟨hu,rfl⟩ (by omega) hc35.size ?_
      intro v6 w6 hO6 hg6 hat6
      have hg36:Ext w3 w6:=grown_own hc35 hg6 (fun j hj hlt=>by have:=(hO5.lt j hj).1;omega)
      have hRows6:=rows_app (L:=R) (y:=List.replicate n 0) hO6 HE5.out.2 (by omega) HE5.out.1 hc5 hg6 hM (fun k hk=>⟨hk.1,fun e=>by have h1:=hbb k e;have h2:=(hO5.lt k e).2;omega⟩)
      obtain ⟨a6,c6,hv6,_⟩:∃a c,v6=.slice a (vs.length+1) c∧True:=by
       have hll:(vs++[Value.slice (some ⟨w3.heap.size,0,none⟩) n n]).length=vs.length+1:=by simp
       rcases hO6.form with⟨h1,h2⟩|⟨g5,cap5,h1,_⟩
       ·simp at h2
       ·exact⟨_,_,by rw[h1,hll],trivial⟩
      subst hv6
      have r1:=hg36.cell hcr (by simp)
      have r2:=(World.frozen?_of_block (a:=⟨g,0,none⟩) (hg36.block g hgl (by simp))).trans hfg
      refine hKc.out _ _ ?_ (fun hHeld => ?_)
      ·exact Near.of hg36
      clear hKc Kc
      try simp only[Act.put,List.getElem_toArray,List.getElem_cons_succ,List.getElem_cons_zero,List.setIfInBounds_toArray,List.set_cons_zero,List.set_cons_succ]
      refine wpAnyH_take (i:=13) (v := ?vc13_10) rfl (by kernel_rfl) (by kernel_rfl) (by kernel_rfl) (fun _ _ _ h=>h) (Or.inl ⟨by rfl,?hyc13_10⟩) (by assumption) ?restc13_10
      case hyc13_10=>(intro w hSw;(try dsimp only at hSw);go_simp;try with_reducible rfl)
      try simp only[Act.put,List.getElem_toArray,List.getElem_cons_succ,List.getElem_cons_zero,List.setIfInBounds_toArray,List.set_cons_zero,List.set_cons_succ]
      refine wpAnyH_ready (rs:=[14]) (by kernel_rfl) (by simp) ?_
      refine AllReadyH.cons rfl (fun Kc hKc => ?_) AllReadyH.nil
      go_simp
      refine hKc.out _ _ ?_ (fun hHeld => ?_)
      ·exact Near.store hg36
      clear hKc Kc
      try simp only[Act.put,List.getElem_toArray,List.getElem_cons_succ,List.getElem_cons_zero,List.setIfInBounds_toArray,List.set_cons_zero,List.set_cons_succ]
      refine wpAnyH_done (by kernel_rfl) ?_ _
      clear r1 r2 hmk e0 e1
      have hT:=grown_set1 w6 g 0 (.slice a6 (vs.length+1) c6)
      have hb7:=(hbQ3.ext hg36).moved hT (by omega)
      have hbR7:=(hbR3.ext hg36).moved hT (by omega)
      have hg7:=grown_own (grown_trans hgw3 (grown_of_ext (some sb) hg36)) hT (fun j hj hlt=>by have:=Option.some.inj hj;omega)
      have hs7:=(HX3.out.2.1.ext hg36).own hT (fun k hk=>by have:=Option.some.inj hk;omega)
      have hP7:=HX3.out.1.putRow 0 hn1 HX3.out.2.2.2.2 hg36 hRows6
      have HF:=Lib.hid (And.intro hb7 (And.intro hbR7 (And.intro hg7 (And.intro hs7 hP7))));clear hb7 hbR7 hg7 hs7 hP7 hT hRows6
      go_wp2_with fail
      go_meet
      obtain⟨hb7,hbR7,hg7,hs7,Q7,hq7,hP7⟩:=HF.out
      exact⟨_,_,_,_,_,_,_,_,_,_,hb7,hbR7,hg7,hs7,(by rw[hq7,←HX3.out.2.2.1];omega),(OrdLe.same hq7),hP7.mono (fun k hk hlt=>⟨by rcases hk with hk|hk<;>omega,hlt,rfl⟩)⟩
     ·go_simp
      refine hKc.out _ _ ?_ (fun hHeld => ?_)
      ·exact Near.of (grown_trans (grown_trans (grown_trans (grown_refl w3 none) (World.grownBy_alloc w3 (.cells (madeCells #[.int .i64 0] n) 2) none)) (World.grownBy_alloc (w3.alloc (.cells (madeCells #[.int .i64 0] n) 2)) (.cells #[.slice (some ⟨w3.heap.size,0,none⟩) n n] 24) none)) (grown_drew _ none))
      clear hKc Kc
      try simp only[Act.put,List.getElem_toArray,List.getElem_cons_succ,List.getElem_cons_zero,List.setIfInBounds_toArray,List.set_cons_zero,List.set_cons_succ]
      refine wpAnyH_ready (rs:=[6]) (by kernel_rfl) (by simp) ?_
      refine AllReadyH.cons rfl (fun Kc hKc => ?_) AllReadyH.nil
      go_simp
      go_at_call 213
      refine Calls.mono (l01Own2_ok ((w3.alloc (.cells (madeCells #[.int .i64 0] n) 2)).alloc (.cells #[.slice (some ⟨w3.heap.size,0,none⟩) n n] 24)).drew _ R _ (Rows2.ext hre (grown_trans (grown_trans (grown_trans (grown_refl w3 none) (World.grownBy_alloc w3 (.cells (madeCells #[.int .i64 0] n) 2) none)) (World.grownBy_alloc (w3.alloc (.cells (madeCells #[.int .i64 0] n) 2)) (.cells #[.slice (some ⟨w3.heap.size,0,none⟩) n n] 24) none)) (grown_drew _ none))) HR.out.1 (by omega)) ?_
      rintro e5 w5 ⟨v5,rfl,hg5,hO5⟩
      have hg35:Ext w3 w5:=grown_trans (grown_trans (grown_trans (grown_trans (grown_refl w3 none) (World.grownBy_alloc w3 (.cells (madeCells #[.int .i64 0] n) 2) none)) (World.grownBy_alloc (w3.alloc (.cells (madeCells #[.int .i64 0] n) 2)) (.cells #[.slice (some ⟨w3.heap.size,0,none⟩) n n] 24) none)) (grown_drew _ none)) hg5
      obtain⟨vs,G,hvl,hO5,hG5,_,hE5⟩:=hO5
      have hsd:((w3.alloc (.cells (madeCells #[.int .i64 0] n) 2)).alloc (.cells #[.slice (some ⟨w3.heap.size,0,none⟩) n n] 24)).drew.heap.size=w3.heap.size+2:=(by simp:((w3.alloc (.cells (madeCells #[.int .i64 0] n) 2)).alloc (.cells #[.slice (some ⟨w3.heap.size,0,none⟩) n n] 24)).heap.size=w3.heap.size+2)
      have hbb:∀k,v5.ownBlock=some k→w3.heap.size+2≤k:=fun k hk=>by have:=(hO5.lt k hk).1;omega
      have hO5:OwnV w3.heap.size 24 w5 v5 vs:=ownsRow_move hO5 (fun k hk=>⟨rfl,Nat.le_trans ((grown_trans (grown_trans (grown_trans (grown_refl w3 none) (World.grownBy_alloc w3 (.cells (madeCells #[.int .i64 0] n) 2) none)) (World.grownBy_alloc (w3.alloc (.cells (madeCells #[.int .i64 0] n) 2)) (.cells #[.slice (some ⟨w3.heap.size,0,none⟩) n n] 24) none)) (grown_drew _ none)):Ext w3 ((w3.alloc (.cells (madeCells #[.int .i64 0] n) 2)).alloc (.cells #[.slice (some ⟨w3.heap.size,0,none⟩) n n] 24)).drew).size (hO5.lt k hk).1⟩)
      have hE5:∀i,i<R.length→Ints (fun k=>w3.heap.size≤k∧v5.ownBlock≠some k) w5 (gt vs i) (gt R i):=fun i hi=>Ints.sub (hE5 i hi).ints (fun k hk _=>⟨Nat.le_trans ((grown_trans (grown_trans (grown_trans (grown_refl w3 none) (World.grownBy_alloc w3 (.cells (madeCells #[.int .i64 0] n) 2) none)) (World.grownBy_alloc (w3.alloc (.cells (madeCells #[.int .i64 0] n) 2)) (.cells #[.slice (some ⟨w3.heap.size,0,none⟩) n n] 24) none)) (grown_drew _ none)):Ext w3 ((w3.alloc (.cells (madeCells #[.int .i64 0] n) 2)).alloc (.cells #[.slice (some ⟨w3.heap.size,0,none⟩) n n] 24)).drew).size (hG5 i k hi hk).1,(hG5 i k hi hk).2.1⟩)
      obtain ⟨a5,c5,hv5,_⟩:∃a c,v5=.slice a vs.length c∧True:=by
       rcases hO5.form with⟨h1,h2⟩|⟨g5,cap5,h1,_⟩
       ·exact⟨_,_,by rw[h1,h2];rfl,trivial⟩
       ·exact⟨_,_,h1,trivial⟩
      have hvl6:vs.length≤6:=by omega
      subst hv5
      have HE5:=Lib.hid (And.intro hE5 hvl);clear hE5 hvl hG5
      go_wp2_with fail
      refine hKc.out _ _ ?_ (fun hHeld => ?_)
      ·exact Near.of hg35
      clear hKc Kc
      try simp only[Act.put,List.getElem_toArray,List.getElem_cons_succ,List.getElem_cons_zero,List.setIfInBounds_toArray,List.set_cons_zero,List.set_cons_succ]
      refine wpAnyH_ready (rs:=[12]) (by kernel_rfl) (by simp) ?_
      refine AllReadyH.cons rfl (fun Kc hKc => ?_) AllReadyH.nil
      have hM0:Ints (fun k=>w3.heap.size≤k∧k=w3.heap.size) (w3.alloc (.cells (madeCells #[.int .i64 0] n) 2)) (.slice (some ⟨w3.heap.size,0,none⟩) n n) (List.replicate n 0):=ints_of_own (own_mk_ints n (by omega) w3) (by simp;omega) (fun k hk=>by have:=own_blk hk;subst this;exact⟨by first|exact Nat.le_refl _|exact hg35.size,rfl⟩)
      have hM:Ints (fun k=>w3.heap.size≤k∧k=w3.heap.size) w5 (.slice (some ⟨w3.heap.size,0,none⟩) n n) (List.replicate n 0):=Ints.ext hM0 (grown_trans (grown_trans (grown_trans (grown_refl _ none) (World.grownBy_alloc (w3.alloc (.cells (madeCells #[.int .i64 0] n) 2)) (.cells #[.slice (some ⟨w3.heap.size,0,none⟩) n n] 24) none)) (grown_drew ((w3.alloc (.cells (madeCells #[.int .i64 0] n) 2)).alloc (.cells #[.slice (some ⟨w3.heap.size,0,none⟩) n n] 24)) none)) (hg5))
      have hszl:(w3.alloc (.cells (madeCells #[.int .i64 0] n) 2)).heap.size=w3.heap.size+1:=by simp
      have hu0:((w3.alloc (.cells (madeCells #[.int .i64 0] n) 2)).alloc (.cells #[.slice (some ⟨w3.heap.size,0,none⟩) n n] 24)).cell? ⟨w3.heap.size+1,0,none⟩=some (.slice (some ⟨w3.heap.size,0,none⟩) n n):=by rw[World.cell?_alloc_at _ _ _ _ hszl.symm];rfl
      have hu:w5.cell? ⟨w3.heap.size+1,0,none⟩=some (.slice (some ⟨w3.heap.size,0,none⟩) n n):=hg5.cell hu0 (by simp)
      have hc35:Ext w3 w5:=hg35
      have hc5:Ext w5 w5:=(grown_refl _ none)
      have hOc:=World.ownsRow.kept hO5 hc5 (by cases hv:(Value.slice a5 vs.length c5).ownBlock<;>simp)
      refine step_app_rowH (by rfl) _ _ (by rfl) w3.heap.size _ vs (by rfl) hOc (w3.heap.size+1) _ (by rfl) ⟨hu,rfl⟩ (by omega) hc35.size ?_
      intro v6 w6 hO6 hg6 hat6
      have hg36:Ext w3 w6:=grown_own hc35 hg6 (fun j hj hlt=>by have:=(hO5.lt j hj).1;omega)
      have hRows6:=rows_app (L:=R) (y:=List.replicate n 0) hO6 HE5.out.2 (by omega) HE5.out.1 hc5 hg6 hM (fun k hk=>⟨hk.1,fun e=>by have h1:=hbb k e;have h2:=(hO5.lt k e).2;omega⟩)
      obtain ⟨a6,c6,hv6,_⟩:∃a c,v6=.slice a (vs.length+1) c∧True:=by
       have hll:(vs++[Value.slice (some ⟨w3.heap.size,0,none⟩) n n]).length=vs.length+1:=by simp
       rcases hO6.form with⟨h1,h2⟩|⟨g5,cap5,h1,_⟩
       ·simp at h2
       ·exact⟨_,_,by rw[h1,hll],trivial⟩
      subst hv6
      have r1:=hg36.cell hcr (by simp)
      have r2:=(World.frozen?_of_block (a:=⟨g,0,none⟩) (hg36.block g hgl (by simp))).trans hfg
      refine hKc.out _ _ ?_ (fun hHeld => ?_)
      ·exact Near.of hg36
      clear hKc Kc
      try simp only[Act.put,List.getElem_toArray,List.getElem_cons_succ,List.getElem_cons_zero,List.setIfInBounds_toArray,List.set_cons_zero,List.set_cons_succ]
      refine wpAnyH_take (i:=13) (v := ?vc13_11) rfl (by kernel_rfl) (by kernel_rfl) (by kernel_rfl) (fun _ _ _ h=>h) (Or.inl ⟨by rfl,?hyc13_11⟩) (by assumption) ?restc13_11
      case hyc13_11=>(intro w hSw;(try dsimp only at hSw);go_simp;try with_reducible rfl)
      try simp only[Act.put,List.getElem_toArray,List.getElem_cons_succ,List.getElem_cons_zero,List.setIfInBounds_toArray,List.set_cons_zero,List.set_cons_succ]
      refine wpAnyH_ready (rs:=[14]) (by kernel_rfl) (by simp) ?_
      refine AllReadyH.cons rfl (fun Kc hKc => ?_) AllReadyH.nil
      go_simp
      refine hKc.out _ _ ?_ (fun hHeld => ?_)
      ·exact Near.store hg36
      clear hKc Kc
      try simp only[Act.put,List.getElem_toArray,List.getElem_cons_succ,List.getElem_cons_zero,List.setIfInBounds_toArray,List.set_cons_zero,List.set_cons_succ]
      refine wpAnyH_done (by kernel_rfl) ?_ _
      clear r1 r2 hmk e0 e1
      have hT:=grown_set1 w6 g 0 (.slice a6 (vs.length+1) c6)
      have hb7:=(hbQ3.ext hg36).moved hT (by omega)
      have hbR7:=(hbR3.ext hg36).moved hT (by omega)
      have hg7:=grown_own (grown_trans hgw3 (grown_of_ext (some sb) hg36)) hT (fun j hj hlt=>by have:=Option.some.inj hj;omega)
      have hs7:=(HX3.out.2.1.ext hg36).own hT (fun k hk=>by have:=Option.some.inj hk;omega)
      have hP7:=HX3.out.1.putRow 0 hn1 HX3.out.2.2.2.2 hg36 hRows6
      have HF:=Lib.hid (And.intro hb7 (And.intro hbR7 (And.intro hg7 (And.intro hs7 hP7))));clear hb7 hbR7 hg7 hs7 hP7 hT hRows6
      go_wp2_with fail
      go_meet
      obtain⟨hb7,hbR7,hg7,hs7,Q7,hq7,hP7⟩:=HF.out
      exact⟨_,_,_,_,_,_,_,_,_,_,hb7,hbR7,hg7,hs7,(by rw[hq7,←HX3.out.2.2.1];omega),(OrdLe.same hq7),hP7.mono (fun k hk hlt=>⟨by rcases hk with hk|hk<;>omega,hlt,rfl⟩)⟩
   ·go_simp
    refine hKc.out _ _ ?_ (fun hHeld => ?_)
    ·exact Near.of (grown_trans (grown_trans (grown_refl w3 none) (World.grownBy_alloc w3 (.cells (madeCells #[.int .i64 0] n) 2) none)) (grown_drew _ none))
    clear hKc Kc
    try simp only[Act.put,List.getElem_toArray,List.getElem_cons_succ,List.getElem_cons_zero,List.setIfInBounds_toArray,List.set_cons_zero,List.set_cons_succ]
    refine wpAnyH_ready (rs:=[5,11]) (by kernel_rfl) (by simp) ?_
    refine AllReadyH.cons rfl (fun Kc hKc => ?_) (AllReadyH.cons rfl (fun Kc hKc => ?_) AllReadyH.nil)
    ·have f2:(w3.alloc (.cells (madeCells #[.int .i64 0] n) 2)).drew.cell? ⟨g,0,none⟩=some (.slice ae R.length ce):=((grown_trans (grown_trans (grown_refl w3 none) (World.grownBy_alloc w3 (.cells (madeCells #[.int .i64 0] n) 2) none)) (grown_drew _ none)):Ext w3 (w3.alloc (.cells (madeCells #[.int .i64 0] n) 2)).drew).cell hcr (by simp)
     go_simp
     refine hKc.out _ _ ?_ (fun hHeld => ?_)
     ·exact Near.of (grown_trans (grown_trans (grown_refl w3 none) (World.grownBy_alloc w3 (.cells (madeCells #[.int .i64 0] n) 2) none)) (grown_drew _ none))
     clear hKc Kc
     try simp only[Act.put,List.getElem_toArray,List.getElem_cons_succ,List.getElem_cons_zero,List.setIfInBounds_toArray,List.set_cons_zero,List.set_cons_succ]
     refine wpAnyH_ready (rs:=[6,11]) (by kernel_rfl) (by simp) ?_
     refine AllReadyH.cons rfl (fun Kc hKc => ?_) (AllReadyH.cons rfl (fun Kc hKc => ?_) AllReadyH.nil)
     ·go_simp
      go_at_call 213
      refine Calls.mono (l01Own2_ok (w3.alloc (.cells (madeCells #[.int .i64 0] n) 2)).drew _ R _ (Rows2.ext hre (grown_trans (grown_trans (grown_refl w3 none) (World.grownBy_alloc w3 (.cells (madeCells #[.int .i64 0] n) 2) none)) (grown_drew _ none))) HR.out.1 (by omega)) ?_
      rintro e5 w5 ⟨v5,rfl,hg5,hO5⟩
      have hg35:Ext w3 w5:=grown_trans (grown_trans (grown_trans (grown_refl w3 none) (World.grownBy_alloc w3 (.cells (madeCells #[.int .i64 0] n) 2) none)) (grown_drew _ none)) hg5
      obtain⟨vs,G,hvl,hO5,hG5,_,hE5⟩:=hO5
      have hsd:(w3.alloc (.cells (madeCells #[.int .i64 0] n) 2)).drew.heap.size=w3.heap.size+1:=(by simp:(w3.alloc (.cells (madeCells #[.int .i64 0] n) 2)).heap.size=w3.heap.size+1)
      have hbb:∀k,v5.ownBlock=some k→w3.heap.size+1≤k:=fun k hk=>by have:=(hO5.lt k hk).1;omega
      have hO5:OwnV w3.heap.size 24 w5 v5 vs:=ownsRow_move hO5 (fun k hk=>⟨rfl,Nat.le_trans ((grown_trans (grown_trans (grown_refl w3 none) (World.grownBy_alloc w3 (.cells (madeCells #[.int .i64 0] n) 2) none)) (grown_drew _ none)):Ext w3 (w3.alloc (.cells (madeCells #[.int .i64 0] n) 2)).drew).size (hO5.lt k hk).1⟩)
      have hE5:∀i,i<R.length→Ints (fun k=>w3.heap.size≤k∧v5.ownBlock≠some k) w5 (gt vs i) (gt R i):=fun i hi=>Ints.sub (hE5 i hi).ints (fun k hk _=>⟨Nat.le_trans ((grown_trans (grown_trans (grown_refl w3 none) (World.grownBy_alloc w3 (.cells (madeCells #[.int .i64 0] n) 2) none)) (grown_drew _ none)):Ext w3 (w3.alloc (.cells (madeCells #[.int .i64 0] n) 2)).drew).size (hG5 i k hi hk).1,(hG5 i k hi hk).2.1⟩)
      obtain ⟨a5,c5,hv5,_⟩:∃a c,v5=.slice a vs.length c∧True:=by
       rcases hO5.form with⟨h1,h2⟩|⟨g5,cap5,h1,_⟩
       ·exact⟨_,_,by rw[h1,h2];rfl,trivial⟩
       ·exact⟨_,_,h1,trivial⟩
      have hvl6:vs.length≤6:=by omega
      subst hv5
      have HE5:=Lib.hid (And.intro hE5 hvl);clear hE5 hvl hG5
      go_wp2_with fail
      refine hKc.out _ _ ?_ (fun hHeld => ?_)
      ·exact Near.of hg35
      clear hKc Kc
      try simp only[Act.put,List.getElem_toArray,List.getElem_cons_succ,List.getElem_cons_zero,List.setIfInBounds_toArray,List.set_cons_zero,List.set_cons_succ]
      refine wpAnyH_ready (rs:=[11]) (by kernel_rfl) (by simp) ?_
      refine AllReadyH.cons rfl (fun Kc hKc => ?_) AllReadyH.nil
      go_simp
      refine hKc.out _ _ ?_ (fun hHeld => ?_)
      ·exact Near.of (grown_trans hg35 (World.grownBy_alloc w5 (.cells #[.slice (some ⟨w3.heap.size,0,none⟩) n n] 24) none))
      clear hKc Kc
      try simp only[Act.put,List.getElem_toArray,List.getElem_cons_succ,List.getElem_cons_zero,List.setIfInBounds_toArray,List.set_cons_zero,List.set_cons_succ]
      refine wpAnyH_ready (rs:=[12]) (by kernel_rfl) (by simp) ?_
      refine AllReadyH.cons rfl (fun Kc hKc => ?_) AllReadyH.nil
      have hM0:Ints (fun k=>w3.heap.size≤k∧k=w3.heap.size) (w3.alloc (.cells (madeCells #[.int .i64 0] n) 2)) (.slice (some ⟨w3.heap.size,0,none⟩) n n) (List.replicate n 0):=ints_of_own (own_mk_ints n (by omega) w3) (by simp;omega) (fun k hk=>by have:=own_blk hk;subst this;exact⟨by first|exact Nat.le_refl _|exact hg35.size,rfl⟩)
      have hM:Ints (fun k=>w3.heap.size≤k∧k=w3.heap.size) (w5.alloc (.cells #[.slice (some ⟨w3.heap.size,0,none⟩) n n] 24)) (.slice (some ⟨w3.heap.size,0,none⟩) n n) (List.replicate n 0):=Ints.ext hM0 (grown_trans (grown_trans (grown_trans (grown_refl _ none) (grown_drew (w3.alloc (.cells (madeCells #[.int .i64 0] n) 2)) none)) (hg5)) (World.grownBy_alloc w5 (.cells #[.slice (some ⟨w3.heap.size,0,none⟩) n n] 24) none))
      have hszl:w5.heap.size=w5.heap.size:=rfl
      have hu0:(w5.alloc (.cells #[.slice (some ⟨w3.heap.size,0,none⟩) n n] 24)).cell? ⟨w5.heap.size,0,none⟩=some (.slice (some ⟨w3.heap.size,0,none⟩) n n):=by rw[World.cell?_alloc_at _ _ _ _ hszl.symm];rfl
      have hu:=hu0
      have hc35:Ext w3 (w5.alloc (.cells #[.slice (some ⟨w3.heap.size,0,none⟩) n n] 24)):=(grown_trans hg35 (World.grownBy_alloc w5 (.cells #[.slice (some ⟨w3.heap.size,0,none⟩) n n] 24) none))
      have hc5:Ext w5 (w5.alloc (.cells #[.slice (some ⟨w3.heap.size,0,none⟩) n n] 24)):=(grown_trans (grown_refl _ none) (World.grownBy_alloc w5 (.cells #[.slice (some ⟨w3.heap.size,0,none⟩) n n] 24) none))
      have hOc:=World.ownsRow.kept hO5 hc5 (by cases hv:(Value.slice a5 vs.length c5).ownBlock<;>simp)
      refine step_app_rowH (by rfl) _ _ (by rfl) w3.heap.size _ vs (by rfl) hOc (w5.heap.size) _ (by rfl) ⟨hu,rfl⟩ (by omega) hc35.size ?_
      intro v6 w6 hO6 hg6 hat6
      have hg36:Ext w3 w6:=grown_own hc35 hg6 (fun j hj hlt=>by have:=(hO5.lt j hj).1;omega)
      have hRows6:=rows_app (L:=R) (y:=List.replicate n 0) hO6 HE5.out.2 (by omega) HE5.out.1 hc5 hg6 hM (fun k hk=>⟨hk.1,fun e=>by have h1:=hbb k e;have h2:=(hO5.lt k e).2;omega⟩)
      obtain ⟨a6,c6,hv6,_⟩:∃a c,v6=.slice a (vs.length+1) c∧True:=by
       have hll:(vs++[Value.slice (some ⟨w3.heap.size,0,none⟩) n n]).length=vs.length+1:=by simp
       rcases hO6.form with⟨h1,h2⟩|⟨g5,cap5,h1,_⟩
       ·simp at h2
       ·exact⟨_,_,by rw[h1,hll],trivial⟩
      subst hv6
      have r1:=hg36.cell hcr (by simp)
      have r2:=(World.frozen?_of_block (a:=⟨g,0,none⟩) (hg36.block g hgl (by simp))).trans hfg
      refine hKc.out _ _ ?_ (fun hHeld => ?_)
      ·exact Near.of hg36
      clear hKc Kc
      try simp only[Act.put,List.getElem_toArray,List.getElem_cons_succ,List.getElem_cons_zero,List.setIfInBounds_toArray,List.set_cons_zero,List.set_cons_succ]
      refine wpAnyH_take (i:=13) (v := ?vc13_12) rfl (by kernel_rfl) (by kernel_rfl) (by kernel_rfl) (fun _ _ _ h=>h) (Or.inl ⟨by rfl,?hyc13_12⟩) (by assumption) ?restc13_12
      case hyc13_12=>(intro w hSw;(try dsimp only at hSw);go_simp;try with_reducible rfl)
      try simp only[Act.put,List.getElem_toArray,List.getElem_cons_succ,List.getElem_cons_zero,List.setIfInBounds_toArray,List.set_cons_zero,List.set_cons_succ]
      refine wpAnyH_ready (rs:=[14]) (by kernel_rfl) (by simp) ?_
      refine AllReadyH.cons rfl (fun Kc hKc => ?_) AllReadyH.nil
      go_simp
      refine hKc.out _ _ ?_ (fun hHeld => ?_)
      ·exact Near.store hg36
      clear hKc Kc
      try simp only[Act.put,List.getElem_toArray,List.getElem_cons_succ,List.getElem_cons_zero,List.setIfInBounds_toArray,List.set_cons_zero,List.set_cons_succ]
      refine wpAnyH_done (by kernel_rfl) ?_ _
      clear r1 r2 hmk e0 e1
      have hT:=grown_set1 w6 g 0 (.slice a6 (vs.length+1) c6)
      have hb7:=(hbQ3.ext hg36).moved hT (by omega)
      have hbR7:=(hbR3.ext hg36).moved hT (by omega)
      have hg7:=grown_own (grown_trans hgw3 (grown_of_ext (some sb) hg36)) hT (fun j hj hlt=>by have:=Option.some.inj hj;omega)
      have hs7:=(HX3.out.2.1.ext hg36).own hT (fun k hk=>by have:=Option.some.inj hk;omega)
      have hP7:=HX3.out.1.putRow 0 hn1 HX3.out.2.2.2.2 hg36 hRows6
      have HF:=Lib.hid (And.intro hb7 (And.intro hbR7 (And.intro hg7 (And.intro hs7 hP7))));clear hb7 hbR7 hg7 hs7 hP7 hT hRows6
      go_wp2_with fail
      go_meet
      obtain⟨hb7,hbR7,hg7,hs7,Q7,hq7,hP7⟩:=HF.out
      exact⟨_,_,_,_,_,_,_,_,_,_,hb7,hbR7,hg7,hs7,(by rw[hq7,←HX3.out.2.2.1];omega),(OrdLe.same hq7),hP7.mono (fun k hk hlt=>⟨by rcases hk with hk|hk<;>omega,hlt,rfl⟩)⟩
     ·go_simp
      refine hKc.out _ _ ?_ (fun hHeld => ?_)
      ·exact Near.of (grown_trans (grown_trans (grown_trans (grown_refl w3 none) (World.grownBy_alloc w3 (.cells (madeCells #[.int .i64 0] n) 2) none)) (World.grownBy_alloc (w3.alloc (.cells (madeCells #[.int .i64 0] n) 2)) (.cells #[.slice (some ⟨w3.heap.size,0,none⟩) n n] 24) none)) (grown_drew _ none))
      clear hKc Kc
      try simp only[Act.put,List.getElem_toArray,List.getElem_cons_succ,List.getElem_cons_zero,List.setIfInBounds_toArray,List.set_cons_zero,List.set_cons_succ]
      refine wpAnyH_ready (rs:=[6]) (by kernel_rfl) (by simp) ?_
      refine AllReadyH.cons rfl (fun Kc hKc => ?_) AllReadyH.nil
      go_simp
      go_at_call 213
      refine Calls.mono (l01Own2_ok ((w3.alloc (.cells (madeCells #[.int .i64 0] n) 2)).alloc (.cells #[.slice (some ⟨w3.heap.size,0,none⟩) n n] 24)).drew _ R _ (Rows2.ext hre (grown_trans (grown_trans (grown_trans (grown_refl w3 none) (World.grownBy_alloc w3 (.cells (madeCells #[.int .i64 0] n) 2) none)) (World.grownBy_alloc (w3.alloc (.cells (madeCells #[.int .i64 0] n) 2)) (.cells #[.slice (some ⟨w3.heap.size,0,none⟩) n n] 24) none)) (grown_drew _ none))) HR.out.1 (by omega)) ?_
      rintro e5 w5 ⟨v5,rfl,hg5,hO5⟩
      have hg35:Ext w3 w5:=grown_trans (grown_trans (grown_trans (grown_trans (grown_refl w3 none) (World.grownBy_alloc w3 (.cells (madeCells #[.int .i64 0] n) 2) none)) (World.grownBy_alloc (w3.alloc (.cells (madeCells #[.int .i64 0] n) 2)) (.cells #[.slice (some ⟨w3.heap.size,0,none⟩) n n] 24) none)) (grown_drew _ none)) hg5
      obtain⟨vs,G,hvl,hO5,hG5,_,hE5⟩:=hO5
      have hsd:((w3.alloc (.cells (madeCells #[.int .i64 0] n) 2)).alloc (.cells #[.slice (some ⟨w3.heap.size,0,none⟩) n n] 24)).drew.heap.size=w3.heap.size+2:=(by simp:((w3.alloc (.cells (madeCells #[.int .i64 0] n) 2)).alloc (.cells #[.slice (some ⟨w3.heap.size,0,none⟩) n n] 24)).heap.size=w3.heap.size+2)
      have hbb:∀k,v5.ownBlock=some k→w3.heap.size+2≤k:=fun k hk=>by have:=(hO5.lt k hk).1;omega
      have hO5:OwnV w3.heap.size 24 w5 v5 vs:=ownsRow_move hO5 (fun k hk=>⟨rfl,Nat.le_trans ((grown_trans (grown_trans (grown_trans (grown_refl w3 none) (World.grownBy_alloc w3 (.cells (madeCells #[.int .i64 0] n) 2) none)) (World.grownBy_alloc (w3.alloc (.cells (madeCells #[.int .i64 0] n) 2)) (.cells #[.slice (some ⟨w3.heap.size,0,none⟩) n n] 24) none)) (grown_drew _ none)):Ext w3 ((w3.alloc (.cells (madeCells #[.int .i64 0] n) 2)).alloc (.cells #[.slice (some ⟨w3.heap.size,0,none⟩) n n] 24)).drew).size (hO5.lt k hk).1⟩)
      have hE5:∀i,i<R.length→Ints (fun k=>w3.heap.size≤k∧v5.ownBlock≠some k) w5 (gt vs i) (gt R i):=fun i hi=>Ints.sub (hE5 i hi).ints (fun k hk _=>⟨Nat.le_trans ((grown_trans (grown_trans (grown_trans (grown_refl w3 none) (World.grownBy_alloc w3 (.cells (madeCells #[.int .i64 0] n) 2) none)) (World.grownBy_alloc (w3.alloc (.cells (madeCells #[.int .i64 0] n) 2)) (.cells #[.slice (some ⟨w3.heap.size,0,none⟩) n n] 24) none)) (grown_drew _ none)):Ext w3 ((w3.alloc (.cells (madeCells #[.int .i64 0] n) 2)).alloc (.cells #[.slice (some ⟨w3.heap.size,0,none⟩) n n] 24)).drew).size (hG5 i k hi hk).1,(hG5 i k hi hk).2.1⟩)
      obtain ⟨a5,c5,hv5,_⟩:∃a c,v5=.slice a vs.length c∧True:=by
       rcases hO5.form with⟨h1,h2⟩|⟨g5,cap5,h1,_⟩
       ·exact⟨_,_,by rw[h1,h2];rfl,trivial⟩
       ·exact⟨_,_,h1,trivial⟩
      have hvl6:vs.length≤6:=by omega
      subst hv5
      have HE5:=Lib.hid (And.intro hE5 hvl);clear hE5 hvl hG5
      go_wp2_with fail
      refine hKc.out _ _ ?_ (fun hHeld => ?_)
      ·exact Near.of hg35
      clear hKc Kc
      try simp only[Act.put,List.getElem_toArray,List.getElem_cons_succ,List.getElem_cons_zero,List.setIfInBounds_toArray,List.set_cons_zero,List.set_cons_succ]
      refine wpAnyH_ready (rs:=[12]) (by kernel_rfl) (by simp) ?_
      refine AllReadyH.cons rfl (fun Kc hKc => ?_) AllReadyH.nil
      have hM0:Ints (fun k=>w3.heap.size≤k∧k=w3.heap.size) (w3.alloc (.cells (madeCells #[.int .i64 0] n) 2)) (.slice (some ⟨w3.heap.size,0,none⟩) n n) (List.replicate n 0):=ints_of_own (own_mk_ints n (by omega) w3) (by simp;omega) (fun k hk=>by have:=own_blk hk;subst this;exact⟨by first|exact Nat.le_refl _|exact hg35.size,rfl⟩)
      have hM:Ints (fun k=>w3.heap.size≤k∧k=w3.heap.size) w5 (.slice (some ⟨w3.heap.size,0,none⟩) n n) (List.replicate n 0):=Ints.ext hM0 (grown_trans (grown_trans (grown_trans (grown_refl _ none) (World.grownBy_alloc (w3.alloc (.cells (madeCells #[.int .i64 0] n) 2)) (.cells #[.slice (some ⟨w3.heap.size,0,none⟩) n n] 24) none)) (grown_drew ((w3.alloc (.cells (madeCells #[.int .i64 0] n) 2)).alloc (.cells #[.slice (some ⟨w3.heap.size,0,none⟩) n n] 24)) none)) (hg5))
      have hszl:(w3.alloc (.cells (madeCells #[.int .i64 0] n) 2)).heap.size=w3.heap.size+1:=by simp
      have hu0:((w3.alloc (.cells (madeCells #[.int .i64 0] n) 2)).alloc (.cells #[.slice (some ⟨w3.heap.size,0,none⟩) n n] 24)).cell? ⟨w3.heap.size+1,0,none⟩=some (.slice (some ⟨w3.heap.size,0,none⟩) n n):=by rw[World.cell?_alloc_at _ _ _ _ hszl.symm];rfl
      have hu:w5.cell? ⟨w3.heap.size+1,0,none⟩=some (.slice (some ⟨w3.heap.size,0,none⟩) n n):=hg5.cell hu0 (by simp)
      have hc35:Ext w3 w5:=hg35
      have hc5:Ext w5 w5:=(grown_refl _ none)
      have hOc:=World.ownsRow.kept hO5 hc5 (by cases hv:(Value.slice a5 vs.length c5).ownBlock<;>simp)
      refine step_app_rowH (by rfl) _ _ (by rfl) w3.heap.size _ vs (by rfl) hOc (w3.heap.size+1) _ (by rfl) ⟨hu,rfl⟩ (by omega) hc35.size ?_
      intro v6 w6 hO6 hg6 hat6
      have hg36:Ext w3 w6:=grown_own hc35 hg6 (fun j hj hlt=>by have:=(hO5.lt j hj).1;omega)
      have hRows6:=rows_app (L:=R) (y:=List.replicate n 0) hO6 HE5.out.2 (by omega) HE5.out.1 hc5 hg6 hM (fun k hk=>⟨hk.1,fun e=>by have h1:=hbb k e;have h2:=(hO5.lt k e).2;omega⟩)
      obtain ⟨a6,c6,hv6,_⟩:∃a c,v6=.slice a (vs.length+1) c∧True:=by
       have hll:(vs++[Value.slice (some ⟨w3.heap.size,0,none⟩) n n]).length=vs.length+1:=by simp
       rcases hO6.form with⟨h1,h2⟩|⟨g5,cap5,h1,_⟩
       ·simp at h2
       ·exact⟨_,_,by rw[h1,hll],trivial⟩
      subst hv6
      have r1:=hg36.cell hcr (by simp)
      have r2:=(World.frozen?_of_block (a:=⟨g,0,none⟩) (hg36.block g hgl (by simp))).trans hfg
      refine hKc.out _ _ ?_ (fun hHeld => ?_)
      ·exact Near.of hg36
      clear hKc Kc
      try simp only[Act.put,List.getElem_toArray,List.getElem_cons_succ,List.getElem_cons_zero,List.setIfInBounds_toArray,List.set_cons_zero,List.set_cons_succ]
      refine wpAnyH_take (i:=13) (v := ?vc13_13) rfl (by kernel_rfl) (by kernel_rfl) (by kernel_rfl) (fun _ _ _ h=>h) (Or.inl ⟨by rfl,?hyc13_13⟩) (by assumption) ?restc13_13
      case hyc13_13=>(intro w hSw;(try dsimp only at hSw);go_simp;try with_reducible rfl)
      try simp only[Act.put,List.getElem_toArray,List.getElem_cons_succ,List.getElem_cons_zero,List.setIfInBounds_toArray,List.set_cons_zero,List.set_cons_succ]
      refine wpAnyH_ready (rs:=[14]) (by kernel_rfl) (by simp) ?_
      refine AllReadyH.cons rfl (fun Kc hKc => ?_) AllReadyH.nil
      go_simp
      refine hKc.out _ _ ?_ (fun hHeld => ?_)
      ·exact Near.store hg36
      clear hKc Kc
      try simp only[Act.put,List.getElem_toArray,List.getElem_cons_succ,List.getElem_cons_zero,List.setIfInBounds_toArray,List.set_cons_zero,List.set_cons_succ]
      refine wpAnyH_done (by kernel_rfl) ?_ _
      clear r1 r2 hmk e0 e1
      have hT:=grown_set1 w6 g 0 (.slice a6 (vs.length+1) c6)
      have hb7:=(hbQ3.ext hg36).moved hT (by omega)
      have hbR7:=(hbR3.ext hg36).moved hT (by omega)
      have hg7:=grown_own (grown_trans hgw3 (grown_of_ext (some sb) hg36)) hT (fun j hj hlt=>by have:=Option.some.inj hj;omega)
      have hs7:=(HX3.out.2.1.ext hg36).own hT (fun k hk=>by have:=Option.some.inj hk;omega)
      have hP7:=HX3.out.1.putRow 0 hn1 HX3.out.2.2.2.2 hg36 hRows6
      have HF:=Lib.hid (And.intro hb7 (And.intro hbR7 (And.intro hg7 (And.intro hs7 hP7))));clear hb7 hbR7 hg7 hs7 hP7 hT hRows6
      go_wp2_with fail
      go_meet
      obtain⟨hb7,hbR7,hg7,hs7,Q7,hq7,hP7⟩:=HF.out
      exact⟨_,_,_,_,_,_,_,_,_,_,hb7,hbR7,hg7,hs7,(by rw[hq7,←HX3.out.2.2.1];omega),(OrdLe.same hq7),hP7.mono (fun k hk hlt=>⟨by rcases hk with hk|hk<;>omega,hlt,rfl⟩)⟩
    ·go_simp
     refine hKc.out _ _ ?_ (fun hHeld => ?_)
     ·exact Near.of (grown_trans (grown_trans (grown_trans (grown_refl w3 none) (World.grownBy_alloc w3 (.cells (madeCells #[.int .i64 0] n) 2) none)) (World.grownBy_alloc (w3.alloc (.cells (madeCells #[.int .i64 0] n) 2)) (.cells #[.slice (some ⟨w3.heap.size,0,none⟩) n n] 24) none)) (grown_drew _ none))
     clear hKc Kc
     try simp only[Act.put,List.getElem_toArray,List.getElem_cons_succ,List.getElem_cons_zero,List.setIfInBounds_toArray,List.set_cons_zero,List.set_cons_succ]
     refine wpAnyH_ready (rs:=[5]) (by kernel_rfl) (by simp) ?_
     refine AllReadyH.cons rfl (fun Kc hKc => ?_) AllReadyH.nil
     have f2:((w3.alloc (.cells (madeCells #[.int .i64 0] n) 2)).alloc (.cells #[.slice (some ⟨w3.heap.size,0,none⟩) n n] 24)).drew.cell? ⟨g,0,none⟩=some (.slice ae R.length ce):=((grown_trans (grown_trans (grown_trans (grown_refl w3 none) (World.grownBy_alloc w3 (.cells (madeCells #[.int .i64 0] n) 2) none)) (World.grownBy_alloc (w3.alloc (.cells (madeCells #[.int .i64 0] n) 2)) (.cells #[.slice (some ⟨w3.heap.size,0,none⟩) n n] 24) none)) (grown_drew _ none)):Ext w3 ((w3.alloc (.cells (madeCells #[.int .i64 0] n) 2)).alloc (.cells #[.slice (some ⟨w3.heap.size,0,none⟩) n n] 24)).drew).cell hcr (by simp)
     go_simp
     refine hKc.out _ _ ?_ (fun hHeld => ?_)
     ·exact Near.of (grown_trans (grown_trans (grown_trans (grown_refl w3 none) (World.grownBy_alloc w3 (.cells (madeCells #[.int .i64 0] n) 2) none)) (World.grownBy_alloc (w3.alloc (.cells (madeCells #[.int .i64 0] n) 2)) (.cells #[.slice (some ⟨w3.heap.size,0,none⟩) n n] 24) none)) (grown_drew _ none))
     clear hKc Kc
     try simp only[Act.put,List.getElem_toArray,List.getElem_cons_succ,List.getElem_cons_zero,List.setIfInBounds_toArray,List.set_cons_zero,List.set_cons_succ]
     refine wpAnyH_ready (rs:=[6]) (by kernel_rfl) (by simp) ?_
     refine AllReadyH.cons rfl (fun Kc hKc => ?_) AllReadyH.nil
     go_simp
     go_at_call 213
     refine Calls.mono (l01Own2_ok ((w3.alloc (.cells (madeCells #[.int .i64 0] n) 2)).alloc (.cells #[.slice (some ⟨w3.heap.size,0,none⟩) n n] 24)).drew _ R _ (Rows2.ext hre (grown_trans (grown_trans (grown_trans (grown_refl w3 none) (World.grownBy_alloc w3 (.cells (madeCells #[.int .i64 0] n) 2) none)) (World.grownBy_alloc (w3.alloc (.cells (madeCells #[.int .i64 0] n) 2)) (.cells #[.slice (some ⟨w3.heap.size,0,none⟩) n n] 24) none)) (grown_drew _ none))) HR.out.1 (by omega)) ?_
     rintro e5 w5 ⟨v5,rfl,hg5,hO5⟩
     have hg35:Ext w3 w5:=grown_trans (grown_trans (grown_trans (grown_trans (grown_refl w3 none) (World.grownBy_alloc w3 (.cells (madeCells #[.int .i64 0] n) 2) none)) (World.grownBy_alloc (w3.alloc (.cells (madeCells #[.int .i64 0] n) 2)) (.cells #[.slice (some ⟨w3.heap.size,0,none⟩) n n] 24) none)) (grown_drew _ none)) hg5
     obtain⟨vs,G,hvl,hO5,hG5,_,hE5⟩:=hO5
     have hsd:((w3.alloc (.cells (madeCells #[.int .i64 0] n) 2)).alloc (.cells #[.slice (some ⟨w3.heap.size,0,none⟩) n n] 24)).drew.heap.size=w3.heap.size+2:=(by simp:((w3.alloc (.cells (madeCells #[.int .i64 0] n) 2)).alloc (.cells #[.slice (some ⟨w3.heap.size,0,none⟩) n n] 24)).heap.size=w3.heap.size+2)
     have hbb:∀k,v5.ownBlock=some k→w3.heap.size+2≤k:=fun k hk=>by have:=(hO5.lt k hk).1;omega
     have hO5:OwnV w3.heap.size 24 w5 v5 vs:=ownsRow_move hO5 (fun k hk=>⟨rfl,Nat.le_trans ((grown_trans (grown_trans (grown_trans (grown_refl w3 none) (World.grownBy_alloc w3 (.cells (madeCells #[.int .i64 0] n) 2) none)) (World.grownBy_alloc (w3.alloc (.cells (madeCells #[.int .i64 0] n) 2)) (.cells #[.slice (some ⟨w3.heap.size,0,none⟩) n n] 24) none)) (grown_drew _ none)):Ext w3 ((w3.alloc (.cells (madeCells #[.int .i64 0] n) 2)).alloc (.cells #[.slice (some ⟨w3.heap.size,0,none⟩) n n] 24)).drew).size (hO5.lt k hk).1⟩)
     have hE5:∀i,i<R.length→Ints (fun k=>w3.heap.size≤k∧v5.ownBlock≠some k) w5 (gt vs i) (gt R i):=fun i hi=>Ints.sub (hE5 i hi).ints (fun k hk _=>⟨Nat.le_trans ((grown_trans (grown_trans (grown_trans (grown_refl w3 none) (World.grownBy_alloc w3 (.cells (madeCells #[.int .i64 0] n) 2) none)) (World.grownBy_alloc (w3.alloc (.cells (madeCells #[.int .i64 0] n) 2)) (.cells #[.slice (some ⟨w3.heap.size,0,none⟩) n n] 24) none)) (grown_drew _ none)):Ext w3 ((w3.alloc (.cells (madeCells #[.int .i64 0] n) 2)).alloc (.cells #[.slice (some ⟨w3.heap.size,0,none⟩) n n] 24)).drew).size (hG5 i k hi hk).1,(hG5 i k hi hk).2.1⟩)
     obtain ⟨a5,c5,hv5,_⟩:∃a c,v5=.slice a vs.length c∧True:=by
      rcases hO5.form with⟨h1,h2⟩|⟨g5,cap5,h1,_⟩
      ·exact⟨_,_,by rw[h1,h2];rfl,trivial⟩
      ·exact⟨_,_,h1,trivial⟩
     have hvl6:vs.length≤6:=by omega
     subst hv5
     have HE5:=Lib.hid (And.intro hE5 hvl);clear hE5 hvl hG5
     go_wp2_with fail
     refine hKc.out _ _ ?_ (fun hHeld => ?_)
     ·exact Near.of hg35
     clear hKc Kc
     try simp only[Act.put,List.getElem_toArray,List.getElem_cons_succ,List.getElem_cons_zero,List.setIfInBounds_toArray,List.set_cons_zero,List.set_cons_succ]
     refine wpAnyH_ready (rs:=[12]) (by kernel_rfl) (by simp) ?_
     refine AllReadyH.cons rfl (fun Kc hKc => ?_) AllReadyH.nil
     have hM0:Ints (fun k=>w3.heap.size≤k∧k=w3.heap.size) (w3.alloc (.cells (madeCells #[.int .i64 0] n) 2)) (.slice (some ⟨w3.heap.size,0,none⟩) n n) (List.replicate n 0):=ints_of_own (own_mk_ints n (by omega) w3) (by simp;omega) (fun k hk=>by have:=own_blk hk;subst this;exact⟨by first|exact Nat.le_refl _|exact hg35.size,rfl⟩)
     have hM:Ints (fun k=>w3.heap.size≤k∧k=w3.heap.size) w5 (.slice (some ⟨w3.heap.size,0,none⟩) n n) (List.replicate n 0):=Ints.ext hM0 (grown_trans (grown_trans (grown_trans (grown_refl _ none) (World.grownBy_alloc (w3.alloc (.cells (madeCells #[.int .i64 0] n) 2)) (.cells #[.slice (some ⟨w3.heap.size,0,none⟩) n n] 24) none)) (grown_drew ((w3.alloc (.cells (madeCells #[.int .i64 0] n) 2)).alloc (.cells #[.slice (some ⟨w3.heap.size,0,none⟩) n n] 24)) none)) (hg5))
     have hszl:(w3.alloc (.cells (madeCells #[.int .i64 0] n) 2)).heap.size=w3.heap.size+1:=by simp
     have hu0:((w3.alloc (.cells (madeCells #[.int .i64 0] n) 2)).alloc (.cells #[.slice (some ⟨w3.heap.size,0,none⟩) n n] 24)).cell? ⟨w3.heap.size+1,0,none⟩=some (.slice (some ⟨w3.heap.size,0,none⟩) n n):=by rw[World.cell?_alloc_at _ _ _ _ hszl.symm];rfl
     have hu:w5.cell? ⟨w3.heap.size+1,0,none⟩=some (.slice (some ⟨w3.heap.size,0,none⟩) n n):=hg5.cell hu0 (by simp)
     have hc35:Ext w3 w5:=hg35
     have hc5:Ext w5 w5:=(grown_refl _ none)
     have hOc:=World.ownsRow.kept hO5 hc5 (by cases hv:(Value.slice a5 vs.length c5).ownBlock<;>simp)
     refine step_app_rowH (by rfl) _ _ (by rfl) w3.heap.size _ vs (by rfl) hOc (w3.heap.size+1) _ (by rfl) ⟨hu,rfl⟩ (by omega) hc35.size ?_
     intro v6 w6 hO6 hg6 hat6
     have hg36:Ext w3 w6:=grown_own hc35 hg6 (fun j hj hlt=>by have:=(hO5.lt j hj).1;omega)
     have hRows6:=rows_app (L:=R) (y:=List.replicate n 0) hO6 HE5.out.2 (by omega) HE5.out.1 hc5 hg6 hM (fun k hk=>⟨hk.1,fun e=>by have h1:=hbb k e;have h2:=(hO5.lt k e).2;omega⟩)
     obtain ⟨a6,c6,hv6,_⟩:∃a c,v6=.slice a (vs.length+1) c∧True:=by
      have hll:(vs++[Value.slice (some ⟨w3.heap.size,0,none⟩) n n]).length=vs.length+1:=by simp
      rcases hO6.form with⟨h1,h2⟩|⟨g5,cap5,h1,_⟩
      ·simp at h2
      ·exact⟨_,_,by rw[h1,hll],trivial⟩
     subst hv6
     have r1:=hg36.cell hcr (by simp)
     have r2:=(World.frozen?_of_block (a:=⟨g,0,none⟩) (hg36.block g hgl (by simp))).trans hfg
     refine hKc.out _ _ ?_ (fun hHeld => ?_)
     ·exact Near.of hg36
     clear hKc Kc
     try simp only[Act.put,List.getElem_toArray,List.getElem_cons_succ,List.getElem_cons_zero,List.setIfInBounds_toArray,List.set_cons_zero,List.set_cons_succ]
     refine wpAnyH_take (i:=13) (v := ?vc13_14) rfl (by kernel_rfl) (by kernel_rfl) (by kernel_rfl) (fun _ _ _ h=>h) (Or.inl ⟨by rfl,?hyc13_14⟩) (by assumption) ?restc13_14
     case hyc13_14=>(intro w hSw;(try dsimp only at hSw);go_simp;try with_reducible rfl)
     try simp only[Act.put,List.getElem_toArray,List.getElem_cons_succ,List.getElem_cons_zero,List.setIfInBounds_toArray,List.set_cons_zero,List.set_cons_succ]
     refine wpAnyH_ready (rs:=[14]) (by kernel_rfl) (by simp) ?_
     refine AllReadyH.cons rfl (fun Kc hKc => ?_) AllReadyH.nil
     go_simp
     refine hKc.out _ _ ?_ (fun hHeld => ?_)
     ·exact Near.store hg36
     clear hKc Kc
     try simp only[Act.put,List.getElem_toArray,List.getElem_cons_succ,List.getElem_cons_zero,List.setIfInBounds_toArray,List.set_cons_zero,List.set_cons_succ]
     refine wpAnyH_done (by kernel_rfl) ?_ _
     clear r1 r2 hmk e0 e1
     have hT:=grown_set1 w6 g 0 (.slice a6 (vs.length+1) c6)
     have hb7:=(hbQ3.ext hg36).moved hT (by omega)
     have hbR7:=(hbR3.ext hg36).moved hT (by omega)
     have hg7:=grown_own (grown_trans hgw3 (grown_of_ext (some sb) hg36)) hT (fun j hj hlt=>by have:=Option.some.inj hj;omega)
     have hs7:=(HX3.out.2.1.ext hg36).own hT (fun k hk=>by have:=Option.some.inj hk;omega)
     have hP7:=HX3.out.1.putRow 0 hn1 HX3.out.2.2.2.2 hg36 hRows6
     have HF:=Lib.hid (And.intro hb7 (And.intro hbR7 (And.intro hg7 (And.intro hs7 hP7))));clear hb7 hbR7 hg7 hs7 hP7 hT hRows6
     go_wp2_with fail
     go_meet
     obtain⟨hb7,hbR7,hg7,hs7,Q7,hq7,hP7⟩:=HF.out
     exact⟨_,_,_,_,_,_,_,_,_,_,hb7,hbR7,hg7,hs7,(by rw[hq7,←HX3.out.2.2.1];omega),(OrdLe.same hq7),hP7.mono (fun k hk hlt=>⟨by rcases hk with hk|hk<;>omega,hlt,rfl⟩)⟩
 ·go_wp2_with fail
  have hgL5:Ext w3 (w3.alloc (.cells #[.int .i64 7,.int .i64 7,.int .i64 7,.int .i64 7] 2)):=World.grownBy_alloc _ _ _
  have hL5:Ints Any (w3.alloc (.cells #[.int .i64 7,.int .i64 7,.int .i64 7,.int .i64 7] 2)) (.slice (some ⟨w3.heap.size,0,none⟩) 4 4) [7,7,7,7]:=Ints.sub (ints_litL w3 [7,7,7,7] (by simp)) (fun _ _ _=>trivial)
  have hsL5:(w3.alloc (.cells #[.int .i64 7,.int .i64 7,.int .i64 7,.int .i64 7] 2)).heap.size=w3.heap.size+1:=by simp
  refine Calls.mono (l07Trivial_ok _ _ [7,7,7,7] _ hL5 (by simp)) ?_
  rintro e5 w5 ⟨v5,rfl,hg5,uo5,up5,uc5,rfl,hX5⟩
  obtain⟨x15,z15,x25,z25,x35,z35,rfl,rfl,rfl⟩:=trivX_shape hX5
  have hgT5:=grown_trans hgL5 hg5
  have hsz5:=hgT5.size
  have hbQ5:=hbQ3.ext hgT5
  have hbR5:=hbR3.ext hgT5
  obtain⟨q0,q1,q2,q3,q4⟩:=id hbQ5
  have hT5:=grown_set3 w5 qb (.slice x15 4 z15) (.slice x25 4 z25) (.slice x35 4 z35)
  have hbS5:=hbQ5.all (.slice x15 4 z15) (.slice x25 4 z25) (.slice x35 4 z35)
  have hbU5:=hbR5.moved hT5 (by omega)
  have hP5:Pres3 (fun k=>w.heap.size+2≤k) (((w5.setCell ⟨qb,0,none⟩ (.slice x15 4 z15)).setCell ⟨qb,1,none⟩ (.slice x25 4 z25)).setCell ⟨qb,2,none⟩ (.slice x35 4 z35)) (.slice x15 4 z15) (.slice x25 4 z25) (.slice x35 4 z35) (trivP [7,7,7,7]):=
   hX5.p3.mono (fun k hk hlt=>by
    have hk:(w3.alloc (.cells #[.int .i64 7,.int .i64 7,.int .i64 7,.int .i64 7] 2)).heap.size≤k:=hk
    exact⟨by omega,Nat.lt_of_lt_of_le hlt hT5.size,hT5.block k hlt (fun e=>by have:=Option.some.inj e;omega)⟩)
  clear hX5 hL5 hsL5 hg5 hgL5 hbQ5 hbR5
  have hg35:=grown_own (grown_trans hgw3 (grown_of_ext (some sb) hgT5)) hT5 (fun j hj hlt=>by have:=Option.some.inj hj;omega)
  have hs5:=(HX3.out.2.1.ext hgT5).own hT5 (fun k hk=>by have:=Option.some.inj hk;omega)
  have hsq5:=hT5.size
  have HF:=Lib.hid (And.intro hP5 (And.intro hg35 hs5));clear hP5 hg35 hs5 hT5
  go_wp2_with fail
  generalize ((w5.setCell ⟨qb,0,none⟩ (.slice x15 4 z15)).setCell ⟨qb,1,none⟩ (.slice x25 4 z25)).setCell ⟨qb,2,none⟩ (.slice x35 4 z35)=w6 at *
  refine Calls.mono (l01Next_ok B0 w6 sb 2 HF.out.2.2) ?_
  rintro e7 w7 ⟨v7,rfl,hg7,y,rfl,_,_,hs7⟩
  have hb7:=hbS5.moved hg7 (by omega)
  have hbR7:=hbU5.moved hg7 (by omega)
  have hgw7:=grown_trans HF.out.2.1 hg7
  have hP7:Pres3 (fun k=>w.heap.size+2≤k) w7 (.slice x15 4 z15) (.slice x25 4 z25) (.slice x35 4 z35) (trivP [7,7,7,7]):=HF.out.1.mono (fun k hk hlt=>⟨hk,Nat.lt_of_lt_of_le hlt hg7.size,hg7.block k hlt (fun e=>by have:=Option.some.inj e;omega)⟩)
  have hsz7:=hg7.size
  clear HF hbS5 hbU5 hg7
  by_cases hy:y=0
  ·have hyb:(y == 0)=true:=by simp[hy]
   clear hy
   go_wp2_with fail
   have hgL8:Ext w7 (w7.alloc (.cells #[.int .i64 2,.int .i64 2,.int .i64 2,.int .i64 2,.int .i64 2,.int .i64 2,.int .i64 2] 2)):=World.grownBy_alloc _ _ _
   have hL8:Ints Any (w7.alloc (.cells #[.int .i64 2,.int .i64 2,.int .i64 2,.int .i64 2,.int .i64 2,.int .i64 2,.int .i64 2] 2)) (.slice (some ⟨w7.heap.size,0,none⟩) 7 7) [2,2,2,2,2,2,2]:=Ints.sub (ints_litL w7 [2,2,2,2,2,2,2] (by simp)) (fun _ _ _=>trivial)
   have hsL8:(w7.alloc (.cells #[.int .i64 2,.int .i64 2,.int .i64 2,.int .i64 2,.int .i64 2,.int .i64 2,.int .i64 2] 2)).heap.size=w7.heap.size+1:=by simp
   refine Calls.mono (l07Trivial_ok _ _ [2,2,2,2,2,2,2] _ hL8 (by simp)) ?_
   rintro e8 w8 ⟨v8,rfl,hg8,uo8,up8,uc8,rfl,hX8⟩
   obtain⟨x18,z18,x28,z28,x38,z38,rfl,rfl,rfl⟩:=trivX_shape hX8
   have hgT8:=grown_trans hgL8 hg8
   have hsz8:=hgT8.size
   have hbQ8:=hb7.ext hgT8
   have hbR8:=hbR7.ext hgT8
   obtain⟨q0,q1,q2,q3,q4⟩:=id hbQ8
   have hT8:=grown_set3 w8 qb (.slice x18 7 z18) (.slice x28 7 z28) (.slice x38 7 z38)
   have hbS8:=hbQ8.all (.slice x18 7 z18) (.slice x28 7 z28) (.slice x38 7 z38)
   have hbU8:=hbR8.moved hT8 (by omega)
   have hP8:Pres3 (fun k=>w.heap.size+2≤k) (((w8.setCell ⟨qb,0,none⟩ (.slice x18 7 z18)).setCell ⟨qb,1,none⟩ (.slice x28 7 z28)).setCell ⟨qb,2,none⟩ (.slice x38 7 z38)) (.slice x18 7 z18) (.slice x28 7 z28) (.slice x38 7 z38) (trivP [2,2,2,2,2,2,2]):=
    hX8.p3.mono (fun k hk hlt=>by
     have hk:(w7.alloc (.cells #[.int .i64 2,.int .i64 2,.int .i64 2,.int .i64 2,.int .i64 2,.int .i64 2,.int .i64 2] 2)).heap.size≤k:=hk
     exact⟨by omega,Nat.lt_of_lt_of_le hlt hT8.size,hT8.block k hlt (fun e=>by have:=Option.some.inj e;omega)⟩)
   clear hX8 hL8 hsL8 hg8 hgL8 hbQ8 hbR8
   have hg8:=grown_own (grown_trans hgw7 (grown_of_ext (some sb) hgT8)) hT8 (fun j hj hlt=>by have:=Option.some.inj hj;omega)
   have hs8:=(hs7.ext hgT8).own hT8 (fun k hk=>by have:=Option.some.inj hk;omega)
   have HF:=Lib.hid (And.intro hP8 (And.intro hg8 (And.intro hs8 (And.intro hbS8 hbU8))));clear hP8 hg8 hs8 hT8 hbS8 hbU8
   go_wp2_with fail
   go_meet
   exact⟨_,_,_,_,_,_,_,_,_,_,HF.out.2.2.2.1,HF.out.2.2.2.2,HF.out.2.1,HF.out.2.2.1,by decide,(by exact fun h=>absurd h.n6 (by decide)),HF.out.1⟩
  ·have hyb:(y == 0)=false:=by simp[hy]
   clear hy
   go_wp2_with fail
   go_meet
   exact⟨_,_,_,_,_,_,_,_,_,_,hb7,hbR7,hgw7,hs7,by decide,(by exact fun h=>absurd h.le729 (by decide)),hP7⟩
end Go.Proofs.YtdcobapnlpeaaaaGreat
