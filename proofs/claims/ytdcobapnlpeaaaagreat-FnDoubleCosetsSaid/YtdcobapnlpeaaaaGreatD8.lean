/-
  append to a queue of rows inside a region that draws its order; v[1:] at rows.
  (*impl.sequence).canonical.
  (*impl.sequence).add.
  impl.generated.
  impl.sameRows, impl.areSubgroups.
  Plain: a sequence as a table by depths, as the reference lays it; coset representatives, sifting and the reduced sequence by such a table.
  The reference's power with any exponent: spec.l10Pow.
  The reference's tables by depths: spec.l02Lead, l12Depth, l12Table; how a table reads.
  The reference's reduced sequence: spec.l12Full.
  The reference's sifting: spec.l12Strip.
  Plain: generated subgroups of sets; intersections.
-/
import Derived.Test.YtdcobapnlpeaaaaGreatD3
import Derived.Test.YtdcobapnlpeaaaaGreatD4
import Derived.Test.YtdcobapnlpeaaaaGreatD5
import Derived.Test.YtdcobapnlpeaaaaGreatD6
import Derived.Test.YtdcobapnlpeaaaaGreatD7
namespace Go.Proofs.YtdcobapnlpeaaaaGreat
open Go.RowKit
theorem step_append_at {P:Program} (w:World) {ops:Array Oper}{o:Oper}{a:Act}{K:Act→World→Prop}{Q:Exit→Act→World→Prop}{Ex:Prop}
  (hg:o.guard=none) (s x:Operand) (t:TypeId) (hop:o.op=Op.call { callee:=Callee.builtin Builtin.append,args := #[s,x],argTypes := #[t,t] })
  (e:TypeId) (i:TypeInfo) (z:Value) (size bytes:Nat) (h1:P.underlying t=some (.slice e)) (h2:P.info? e=some i) (h3:i.zero=some z) (h4:i.size=size) (h5:i.bytes=bytes) (h6:z.cells.size=size) (h7:0<size)
  (b off n cap:Nat) (olds:List Value) (hs:a.eval s=.slice (some ⟨b,off,none⟩) n cap) (hlo:olds.length=n*size) (holds:∀j u,olds[j]? = some u→w.cell? ⟨b,off+j,none⟩=some u)
  (ad:Addr) (m c:Nat) (news:List Value) (hx:a.eval x=.slice (some ad) m c) (hn:news.length=m*size) (hc:∀j u,news[j]? = some u→w.cell? (ad.add j)=some u) (h1c:∀u∈news,u.oneCell'=true)
  (hspare:n+m≤cap→∀j,j<news.length→(w.cell? ⟨b,off+n*size+j,none⟩).isSome=true∧w.frozen? ⟨b,off+n*size+j,none⟩=false)
  (b1:n+m≤maxLen) (b2:(n+m)*bytes≤140737488355328)
  (hroom:n+m≤cap→K (a.put o.dst (.slice (some ⟨b,off,none⟩) (n+m) cap)) (w.setCells b (off+n*size) news))
  (hgrow:cap<n+m→∀v' w',w'.ownsRow w.heap.size e size v' (n+m) (olds++news)→w.grownBy w' none→K (a.put o.dst v') w') :
  if Region.wanted o (yielded ops a.tmps)=true then Oper.wp P o a w K Q else Ex:=by
 have hw:Region.wanted o (yielded ops a.tmps)=true:=by simp[Region.wanted,hg]
 rw[if_pos hw]
 by_cases hr:n+m≤cap
 ·subst h4
  have hrun:=run_append_room_cells (P:=P) w t o.type e i h1 h2 b off n cap ad m c news hn hc h1c hr (fun j hj=>(hspare hr j hj).1) (fun j hj=>(hspare hr j hj).2)
  unfold Oper.wp
  simp[execOp,hop,resolve,invoke,builtin,hs,hx,hrun,Result.andThen]
  exact hroom hr
 ·obtain ⟨v',w',hrun,r1,r2⟩:=run_append_arg_grows (P:=P) w t o.type e i z size bytes h1 h2 h3 h4 h5 h6 h7 ⟨b,off,none⟩ n cap olds hlo (fun j u hj=>by rw[Addr.add_lit];exact holds j u hj) ad m c news hn hc (by omega) b1 b2
  unfold Oper.wp
  simp[execOp,hop,resolve,invoke,builtin,hs,hx,hrun,Result.andThen]
  exact hgrow (by omega) v' w' r1 r2
theorem step_q_app (T E:Nat) (z:Value) (bytes:Nat) (hT:Tryz.prog.underlying T=some (.slice E)) (hE:(Tryz.prog.info? E).map (fun i=>(i.zero,i.size,i.bytes))=some (some z,1,bytes))
  (hzs:z.cells.size=1) (hbt:bytes≤64) {ops:Array Oper}{o:Oper}{a:Act}{K:Act→World→Prop}{Q:Exit→Act→World→Prop}{Ex:Prop}{w:World} (hgd:o.guard=none) (s x:Operand)
  (ho:o.op=Op.call { callee:=Callee.builtin Builtin.append,args := #[s,x],argTypes := #[T,T] }) (base:Nat) (v:Value) (xs:List Value) (hs:a.eval s=v) (hown:QOwn base E w v xs)
  (H:Nat) (u:Value) (hx:a.eval x=.slice (some ⟨H,0,none⟩) 1 1) (hu:w.cell? ⟨H,0,none⟩=some u) (h1:u.oneCell'=true) (hlen:xs.length≤1000000) (hbase:base≤w.heap.size)
  (h:∀v' w',QOwn base E w' v' (xs++[u])→w.grownBy w' v.ownBlock→(v'.ownBlock=v.ownBlock∨∀k,v'.ownBlock=some k→w.heap.size≤k)→K (a.put o.dst v') w') :
  if Region.wanted o (yielded ops a.tmps)=true then Oper.wp Tryz.prog o a w K Q else Ex:=by
 rcases hown with⟨rfl,rfl⟩|⟨g,off,cap,cur,rfl,hb,hg,hnc,hcm,hsz,hc⟩
 ·refine step_app T E z bytes hT hE hzs hbt hgd s x ho base (.slice none 0 0) [] hs (World.ownsRow_nil _ _ _ _) H u hx hu h1 (by simp) hbase ?_
  intro v' w' k1 k2 k4
  exact h v' w' (QOwn.of k1) k2 (k4.imp id (fun e k hk=>by rw[e] at hk;cases hk;exact Nat.le_refl _))
 ·obtain ⟨i0,hi,hz0,hz1,hz2⟩:=info_parts hE
  have hgs:g<w.heap.size:=(Array.getElem?_eq_some_iff.1 hg).1
  have hcell:∀i,i<cur.size→w.cell? ⟨g,i,none⟩=cur[i]? :=fun i _=>by
   simp only[World.cell?,hg,Option.isSome_none,Bool.false_eq_true,if_false]
  refine step_append_at w hgd s x T ho E i0 z 1 bytes hT hi hz0 hz1 hz2 hzs (by decide) g off xs.length cap xs hs (by omega) ?_ ⟨H,0,none⟩ 1 1 [u] hx rfl ?_ ?_ ?_ (by unfold maxLen;omega) (by have:=Nat.mul_le_mul (show xs.length+1≤1000001 by omega) hbt;omega) ?_ ?_
  ·intro j u' hj
   have hj2:j<xs.length:=by
    rcases Nat.lt_or_ge j xs.length with h|h
    ·exact h
    ·rw[List.getElem?_eq_none h] at hj;cases hj
   rw[hcell _ (by omega),hc j hj2]
   simp[gt,hj]
  ·intro j u' hj
   match j,hj with
   | 0,hj=>
    simp at hj;subst hj
    simpa [Addr.add] using hu
  ·intro u' hu'
   simp at hu';subst hu';exact h1
  ·intro hroom j hj
   have:j=0:=by simpa using hj
   subst this
   refine⟨?_,?_⟩
   ·rw[hcell _ (by omega),Array.getElem?_eq_getElem (by omega)];rfl
   ·simp[World.frozen?,hg]
  ·intro hroom
   have e:w.setCells g (off+xs.length*1) [u]=w.setCell ⟨g,off+xs.length,none⟩ u:=by
    simp[World.setCells]
   rw[e]
   refine h _ _ (.inr ⟨g,off,cap,cur.setIfInBounds (off+xs.length) u,by simp,hb,?_,by simpa using hroom,hcm,by simpa using hsz,fun i hi => ?_⟩) ?_ (.inl rfl)
   ·simp only[World.setCell,Array.getElem?_modify,if_true,hg,Option.map_some]
    simp
   ·simp only[List.length_append,List.length_singleton] at hi
    by_cases ei:i=xs.length
    ·subst ei
     rw[gt_concat,Array.getElem?_setIfInBounds_self]
     simp;omega
    ·rw [gt_append_left _ _ _ (by omega),Array.getElem?_setIfInBounds_ne (by omega)]
     exact hc i (by omega)
   ·exact⟨rfl,rfl,rfl,by simp[World.setCell],fun k hk hne=>Below.heap_setCell _ _ _ _ (by intro e2;exact hne (by rw[e2];rfl))⟩
  ·intro hgrow v' w' k1 k2
   have k3:OwnV base E w' v' (xs++[u]):=by
    unfold OwnV
    rw[List.length_append]
    obtain⟨h1',h2'⟩:=k1
    refine⟨h1',?_⟩
    rcases h2' with h|⟨g',cap',cur',hv,hg',r⟩
    ·exact .inl h
    ·exact .inr ⟨g',cap',cur',hv,by omega,r⟩
   refine h v' w' (QOwn.of k3) (grown_of_ext _ k2) (.inr (fun k hk => ?_))
   obtain⟨_,h2'⟩:=k1
   rcases h2' with h|⟨g',cap',cur',rfl,hg',r⟩
   ·rw[h.1] at hk;simp[Value.ownBlock] at hk
   ·simp [Value.ownBlock] at hk
    omega
theorem step_shq_app {ops:Array Oper}{o:Oper}{a:Act}{K:Act→World→Prop}{Q:Exit→Act→World→Prop}{Ex:Prop}{w:World} (hgd:o.guard=none) (s x:Operand)
  (ho:o.op=Op.call { callee:=Callee.builtin Builtin.append,args := #[s,x],argTypes := #[25,25] }) (bad:Nat→Prop) (B:Nat) (v u:Value) (xs:List (List Int)) (y:List Int) (hs:a.eval s=v) (w0:World) (hown:ShQ bad B w0 v xs)
  (hw:w=w0.alloc (.cells #[u] 24)) (hu:Ints (fun k=>¬bad k∧v.ownBlock≠some k) w0 u y) (hx:a.eval x=.slice (some ⟨w0.heap.size,0,none⟩) 1 1) (hlen:xs.length≤1000000) (hbase:B≤w0.heap.size)
  (h:∀v' w',ShQ bad B w' v' (xs++[y])→w0.grownBy w' v.ownBlock→(v'.ownBlock=v.ownBlock∨∀k,v'.ownBlock=some k→w0.heap.size≤k)→K (a.put o.dst v') w') :
  if Region.wanted o (yielded ops a.tmps)=true then Oper.wp Tryz.prog o a w K Q else Ex:=by
 subst hw
 obtain⟨vs,hl,hq,hr⟩:=hown
 have hga:Ext w0 (w0.alloc (.cells #[u] 24)):=World.grownBy_alloc _ _ _
 have hlt:=hq.lt
 have hq2:QOwn B 24 (w0.alloc (.cells #[u] 24)) v vs:=hq.kept (fun k hk=>hga.block k (hlt k hk).2 (by simp))
 have hone:u.oneCell'=true:=rdInts.one hu
 refine step_q_app 25 24 (.slice none 0 0) 24 und_rows Tryz.infoRow rfl (by decide) hgd s x ho B v vs hs hq2 w0.heap.size u hx (by rw[World.cell?_alloc_at _ _ _ _ rfl];rfl) hone (by omega) (by have:=hga.size;omega) ?_
 intro v' w' h1 h2 h3
 have hg2:w0.grownBy w' v.ownBlock:=grown_trans (grown_of_ext _ hga) h2
 have hnew:∀k,k<w0.heap.size→v'.ownBlock=some k→v.ownBlock=some k:=fun k hk e=>by
  rcases h3 with h|h
  ·rw[←h];exact e
  ·have:=h k e;simp at this;omega
 refine h v' w' ⟨vs++[u],by simp[hl],h1,fun i hi => ?_⟩ hg2 (h3.imp id (fun h k hk=>by have:=h k hk;simp at this;omega))
 simp only[List.length_append,List.length_singleton] at hi
 have hfr:∀k,(¬bad k∧v.ownBlock≠some k)→k<w0.heap.size→(¬bad k∧v'.ownBlock≠some k)∧k<w'.heap.size∧w'.heap[k]? = w0.heap[k]? :=fun k hk hlt=>
  ⟨⟨hk.1,fun e=>hk.2 (hnew k hlt e)⟩,Nat.lt_of_lt_of_le hlt hg2.size,hg2.block k hlt (fun e=>hk.2 e.symm)⟩
 by_cases hlt:i<xs.length
 ·rw [gt_append_left _ _ _ (by omega),gt_append_left _ _ _ hlt]
  exact Ints.mono (hr i hlt) hfr
 ·have hi2:i=xs.length:=by omega
  subst hi2
  rw[gt_concat,←hl,gt_concat]
  exact Ints.mono hu hfr
theorem run_tail_rows (w:World) (a:Option Addr) (n cap:Nat) (k:Int) (h0:0≤k) (h1:k≤n) :
  (Instr.slice 25 (.slice a n cap) (some (.int .i64 k)) none none).run Tryz.prog w=.ok (subSl (.slice a n cap) k.toNat n) w:=by
 rw[run_slice_l w 25 a n cap (by kernel_rfl) .i64 k h0 h1]
 have:(sizeOf (Tryz.prog.elem 25)).run Tryz.prog w=.ok 1 w:=by kernel_rfl
 rw[this]
 simp[Result.andThen,sliced,subSl]
theorem Sl.vals {α:Type} [Inhabited α] {El:World→Value→α→Prop}{S:Nat→Prop}{w:World}{a:Option Addr}{n cap:Nat}{xs:List α} (h:Sl El S w (.slice a n cap) xs) :
  ∃vs:List Value,vs.length=xs.length∧∀i,i<xs.length→(∃b off,a=some ⟨b,off,none⟩∧w.cell? ⟨b,off+i,none⟩=some (gt vs i))∧El w (gt vs i) (gt xs i):=by
 have h1:∀i,∃u,i<xs.length→(∃b off,a=some ⟨b,off,none⟩∧w.cell? ⟨b,off+i,none⟩=some u)∧El w u (gt xs i):=fun i=>by
  by_cases hi:i<xs.length
  ·obtain ⟨b,off,u,h1,_,_,h4,h5⟩:=h.at i hi
   exact⟨u,fun _=>⟨⟨b,off,h1,h4⟩,h5⟩⟩
  ·exact⟨undef,fun h=>absurd h hi⟩
 obtain⟨f,hf⟩:=Classical.axiomOfChoice h1
 refine⟨(List.range xs.length).map f,by simp,fun i hi => ?_⟩
 have e:gt ((List.range xs.length).map f) i=f i:=by simp[gt,hi]
 rw[e]
 exact hf i hi
set_option maxHeartbeats 400000 in
theorem cloneRows_ok (w:World) (v:Value) (xs:List (List Int)) (S bad:Nat→Prop) (hv:Rows2 S w v xs) (hS:∀k,S k→k<w.heap.size→¬bad k) (hl:xs.length≤1000000) :
  Calls Tryz.prog 203 #[v] w (Ret w fun w' r=>ShQ bad w.heap.size w' r xs):=by
 obtain⟨a,cap,rfl,_,_⟩:=Sl.shape hv
 have he:=fun n=>Lib.run_eql_slice_nil (P:=Tryz.prog) w 25 24 a n cap 0 0 (by kernel_rfl)
 cases a with
 | none=>
  obtain⟨rfl,rfl⟩:=Sl.nil_of_none hv
  clear hv hl
  go_enter Tryz.func203,Tryz.ntmps203
  go_wp2_with fail
  go_ret
  exact⟨_,rfl,Ext.refl _,ShQ.nil _ _ _⟩
 | some a=>
  obtain⟨vs,hvl,hvs⟩:=Sl.vals hv
  have hnews:∀w',Ext w w'→∀j,j<xs.length→∃b off,some a=some ⟨b,off,none⟩∧w'.cell? ⟨b,off+j,none⟩=some (gt vs j):=fun w' hg j hj=>by
   obtain⟨⟨b,off,h1,h2⟩,_⟩:=hvs j hj
   exact⟨b,off,h1,hg.cell h2 (by simp)⟩
  have h1:∀u,u∈vs→u.oneCell'=true:=fun u hu=>by
   obtain⟨j,hj,rfl⟩:=List.getElem_of_mem hu
   rw[←gt_eq vs j hj]
   exact rdInts.one (hvs j (by omega)).2
  have hcl:∀(w1:World) (v':Value),OwnV w.heap.size 24 w1 v' vs→Ext w w1→ShQ bad w.heap.size w1 v' xs:=fun w1 v' ho hg=>by
   refine⟨vs,hvl,QOwn.of ho,fun i hi=>Ints.mono (hvs i hi).2 (fun k hk hlt=>⟨⟨hS k hk hlt,fun e => ?_⟩,Nat.lt_of_lt_of_le hlt hg.size,hg.block k hlt (by simp)⟩)⟩
   have:=(ho.lt k e).1;omega
  have HC:=Lib.hid (And.intro hnews (And.intro h1 hcl));clear hnews h1 hcl hvs
  go_enter Tryz.func203,Tryz.ntmps203
  go_wp2_with (at_builtin;refine wp_app 25 24 (.slice none 0 0) 24 und_rows Tryz.infoRow rfl (by decide) rfl _ _ rfl w.heap.size _ [] rfl (World.ownsRow_lit w #[] 0 (Nat.le_refl _) (by decide) rfl) (some a) xs.length cap vs rfl hvl (by simp) (HC.out.1 _ (World.grownBy_alloc _ _ _)) HC.out.2.1 (by simp;omega) (by simp) ?_;intro v' w1 ho1 hg1 hn1 hb1)
  go_ret
  have hg:Ext w w1:=grown_own (World.grownBy_alloc _ _ _) hg1 (fun j hj hlt=>by have:=own_blk hj;omega)
  exact⟨_,rfl,hg,HC.out.2.2 w1 v' (by simpa using ho1) hg⟩
end Go.Proofs.YtdcobapnlpeaaaaGreat
namespace Go.Proofs.YtdcobapnlpeaaaaGreat
open Go.RowKit
theorem OwnV.weak {B B' E:Nat}{w:World}{v:Value}{vs:List Value} (h:OwnV B E w v vs) (hb:B'≤B):OwnV B' E w v vs:=by
 obtain⟨h1,h2⟩:=h
 refine⟨h1,?_⟩
 rcases h2 with h|⟨g,cap,cur,hv,hg,r⟩
 ·exact .inl h
 ·exact .inr ⟨g,cap,cur,hv,Nat.le_trans hb hg,r⟩
theorem wp_prep_row {ops:Array Oper}{rest:List Oper}{o:Oper}{a:Act}{Q:Exit→Act→World→Prop}{w:World} (hgd:o.guard=none) (s x:Operand)
  (ho:o.op=Op.call { callee:=Callee.builtin Builtin.append,args := #[s,x],argTypes := #[25,25] }) (B:Nat) (w1 w2:World) (v u:Value) (xs:List (List Int)) (y:List Int) (hown:RowsO B w1 v xs) (hB:B≤w1.heap.size)
  (hg:Ext w1 w2) (hu:OwnIn (From w1.heap.size) w2 u y) (hw:w=w2.alloc (.cells #[u] 24)) (hs:a.eval s=.slice (some ⟨w2.heap.size,0,none⟩) 1 1) (hx:a.eval x=v) (hlen:xs.length≤1000000)
  (h:∀v' w',RowsO B w' v' (y :: xs)→Ext w1 w'→wpList Tryz.prog ops Q rest (a.put o.dst v') w') :
  wpList Tryz.prog ops Q (o :: rest) a w:=by
 subst hw
 obtain⟨vs,F,hvl,hO,hG,hd,hEx⟩:=hown
 have hga:Ext w2 (w2.alloc (.cells #[u] 24)):=World.grownBy_alloc _ _ _
 have hg1a:=grown_trans hg hga
 have hO2:OwnV B 24 (w2.alloc (.cells #[u] 24)) v vs:=hO.kept hg1a (by cases hv:v.ownBlock<;>simp)
 have hlit:OwnV w2.heap.size 24 (w2.alloc (.cells #[u] 24)) (.slice (some ⟨w2.heap.size,0,none⟩) 1 1) [u]:=World.ownsRow_lit w2 #[u] 1 (Nat.le_refl _) (by decide) rfl
 have hsz:=hg.size
 have hshape:∃sa c,v=.slice sa vs.length c∧(sa=none→c=0)∧∀j,j<vs.length→∃b off,sa=some ⟨b,off,none⟩∧(w2.alloc (.cells #[u] 24)).cell? ⟨b,off+j,none⟩=some (gt vs j):=by
  rcases hO2.form with⟨rfl,h2⟩|⟨g,cp,rfl,_⟩
  ·exact⟨none,0,by rw[h2];rfl,fun _=>rfl,fun j hj=>by rw[h2] at hj;simp at hj⟩
  ·exact⟨_,_,rfl,fun h=>by simp at h,fun j hj=>⟨g,0,rfl,by rw[Nat.zero_add];exact hO2.cell j hj⟩⟩
 obtain⟨sa,c,hv,hc0,hcells⟩:=hshape
 refine wp_app 25 24 (.slice none 0 0) 24 und_rows Tryz.infoRow rfl (by decide) hgd s x ho w2.heap.size _ [u] hs hlit sa vs.length c vs (hx.trans hv) rfl hc0 hcells ?_ (by simp;omega) hga.size ?_
 ·intro u' hu'
  obtain⟨j,hj,rfl⟩:=List.getElem_of_mem hu'
  rw[←gt_eq vs j hj]
  exact rdOwn.one (hEx j (by omega))
 ·intro v' w' k1 k2 _ _
  have hg2:Ext w2 w':=grown_own hga k2 (fun j hj hlt=>by have:=own_blk hj;omega)
  have hg1:=grown_trans hg hg2
  have hv'b:∀k,v'.ownBlock=some k→w2.heap.size≤k:=fun k hk=>(k1.lt k hk).1
  refine h v' w' ⟨[u]++vs,fun i k=>if i=0 then w1.heap.size≤k∧k<w2.heap.size else F (i-1) k∧k<w1.heap.size,by simp[hvl],?_,?_,?_,?_⟩ hg1
  ·exact OwnV.weak k1 (by omega)
  ·intro i k hi hk
   split at hk
   ·exact⟨by omega,fun e=>by have:=hv'b k e;omega,Nat.lt_of_lt_of_le hk.2 hg2.size⟩
   ·rename_i h0
    simp only[List.length_cons] at hi
    obtain⟨a1,a2,a3⟩:=hG (i-1) k (by omega) hk.1
    exact⟨a1,fun e=>by have:=hv'b k e;omega,Nat.lt_of_lt_of_le a3 hg1.size⟩
  ·intro i j k hi hj hk hk'
   simp only[List.length_cons] at hi hj
   split at hk<;>split at hk'
   ·omega
   ·omega
   ·omega
   ·have:=hd (i-1) (j-1) k (by omega) (by omega) hk.1 hk'.1;omega
  ·intro i hi
   simp only[List.length_cons] at hi
   by_cases h0:i=0
   ·subst h0
    simp only[if_true]
    exact rdOwn.mono hu (fun k hk hkl=>⟨⟨hk,hkl⟩,Nat.lt_of_lt_of_le hkl hg2.size,hg2.block k hkl (by simp)⟩)
   ·simp only[if_neg h0]
    have e1:gt ([u]++vs) i=gt vs (i-1):=by
     obtain⟨j,rfl⟩:∃j,i=j+1:=⟨i-1,by omega⟩
     simp[gt]
    have e2:gt (y :: xs) i=gt xs (i-1):=by
     obtain⟨j,rfl⟩:∃j,i=j+1:=⟨i-1,by omega⟩
     simp[gt]
    rw[e1,e2]
    exact rdOwn.mono (hEx (i-1) (by omega)) (fun k hk hkl=>⟨⟨hk,hkl⟩,Nat.lt_of_lt_of_le hkl hg1.size,hg1.block k hkl (by simp)⟩)
set_option maxRecDepth 100000 in
set_option maxHeartbeats 1000000 in
theorem canonical_ok (P:Pr) (G:Grp P) (w:World) (sb gb B:Nat) (p:Value) (b:List (List Int)) (H:List Int→Prop) (Sp bad:Nat→Prop) (hp:PresP Sp w p P) (hs:SeqAt B bad w sb gb p P.orders.length b) (hI:Ind P H (gt b)) :
  Calls Tryz.prog 103 #[.pointer (some ⟨sb,0,none⟩)] w (Ret w fun w' v=>RowsO w.heap.size w' v (cseq P H)):=by
 have hP:=G.v
 have hn6:=hP.n6
 obtain⟨pb,po,rfl⟩:=hp.shape
 have hc0:=hs.c0
 have hc1:=hs.c1
 have HI:=Lib.hid hI;clear hI
 have hwn:IntKind.i64.wrap ((P.orders.length:Int)-1)=(P.orders.length:Int)-1:=IntWalk.i64_in _ (by omega)
 go_enter Tryz.func103,Tryz.ntmps103
 go_wp2
 clear hwn
 go_loopw [3,4] (fun ov dv wr=>∃(m:Nat) (r:Nat→List Int) (v4:Value),v4=ov∧dv=.int .i64 ((m:Int)-1)∧m≤P.orders.length∧Ext w wr∧RowsO w.heap.size wr v4 (sq r (P.orders.length-m) m)∧Hid (CanInv P H (gt b) r m)) (fun _ dv _=>(intOf dv+1).toNat)
 case atStart=>exact⟨P.orders.length,fun _=>[],_,rfl,rfl,Nat.le_refl _,Ext.refl _,by rw[Nat.sub_self];exact SlO.nil _ _ _ _,Lib.hid ⟨fun e h1 h2=>by omega,fun e h1 h2=>by omega,fun e e' h1 h2 h3=>by omega⟩⟩
 case round=>
  obtain⟨m,r,v4,rfl,rfl,hm,hg,hO,hC⟩:=hrel
  clear hc0 hc1
  by_cases hm0:m=0
  ·subst hm0
   have hsl:=sq_len r P.orders.length 0
   rw[G.can_end HI.out hC.out] at hsl
   rw[Nat.sub_zero,G.can_end HI.out hC.out] at hO
   have hneg:((0:Nat):Int)-1 = -1:=rfl
   rw[hneg]
   obtain⟨az,capz,rfl,_⟩:=SlD.shape (hO.toD (by omega))
   go_wp2
   go_ret
   exact⟨_,rfl,hg,hO⟩
  ·obtain ⟨d,rfl⟩:∃d,m=d+1:=⟨m-1,by omega⟩
   obtain⟨k,hk⟩:∃k,k=P.orders.length-(d+1):=⟨_,rfl⟩
   rw[←hk] at hO
   have hkn:d+1+k=P.orders.length:=by omega
   have hkd:P.orders.length-d=k+1:=by omega
   rw[show(((d+1:Nat)):Int)-1=d by omega]
   have hdn:(d:Int)<P.orders.length:=by omega
   have hd0:(0:Int)≤d:=by omega
   have hwd:IntKind.i64.wrap ((d:Int)-1)=(d:Int)-1:=IntWalk.i64_in _ (by omega)
   have hsr:=hs.ext hg
   have hc0:=hsr.c0
   have hc1:=hsr.c1
   have hsl:=sq_len r k (d+1)
   have hk6:k≤6:=by omega
   have HK:=Lib.hid (And.intro hkn hkd);clear hkn hkd hk hm0
   obtain⟨_,hcc⟩:=hsr.tab.at d (by omega)
   rcases hcc with⟨h0,hcell⟩|⟨hne,ab,capb,hcell,hbI⟩
   ·obtain ⟨hC2,hq2⟩:=can_skip (k:=k) hC.out h0
    have HC2:=Lib.hid (And.intro hC2 hq2);clear hC2 hq2 h0
    go_wp2
    go_roundw
    case rel=>exact⟨d,_,v4,rfl,rfl,by omega,hg,by rw[HK.out.2,HC2.out.2];exact hO,Lib.hid HC2.out.1⟩
    case measure=>simp[intOf]
   ·have hO4:=hO.toD (by omega)
    obtain⟨az,capz,hvz,_,_⟩:=SlD.shape hO4
    subst hvz
    have hU:=RowsD.rows hO4
    have hSq:=hC.out.seqOk HK.out.1
    have hbm:=(HI.out.mem d (by omega) hne).2.1.1
    have hpr:=hp.ext hg
    have HX:=Lib.hid (And.intro hSq (And.intro hbm hne));clear hSq hbm hne
    have e1:∀w',Ext wr w'→w'.cell? ⟨sb,0,none⟩=some (.pointer (some ⟨pb,po,none⟩)):=fun w' h=>h.cell hc0 (by simp)
    have e2:∀w',Ext wr w'→w'.cell? ⟨sb,1,none⟩=some (.slice (some ⟨gb,0,none⟩) P.orders.length P.orders.length):=fun w' h=>h.cell hc1 (by simp)
    have e3:∀w',Ext wr w'→w'.cell? ⟨gb,d,none⟩=some (.slice (some ab) (gt b d).length capb):=fun w' h=>h.cell hcell (by simp)
    go_wp2
    go_region_held3 (fun w'=>Ext wr w') (first|exact grown_drew _ _|assumption)
     (first
      | (go_at_call 117;refine Calls.mono (Calls.rel (w0:=wr) (by assumption) (representative_ok P G _ _ _ _ (sq r k (d+1)) (gt b d) Any Any Any (PresP.sub (PresP.ext hpr (by assumption)) (fun _ _ _=>trivial)) (Rows2.sub (Rows2.ext hU (by assumption)) (fun _ _ _=>trivial)) HX.out.1 (by omega) (Ints.sub (Ints.ext hbI (by assumption)) (fun _ _ _=>trivial)) HX.out.2.1)) ?_;rintro eY wY ⟨yv,rfl,hgY,hsY,Y,hOY,hRY⟩))
    have hYl:Y.length≤6:=by rw[hRY.vec.1];omega
    obtain⟨hC2,hq2⟩:=G.can_step HI.out hC.out HK.out.1 HX.out.2.2 hRY
    have HC2:=Lib.hid (And.intro hC2 hq2);clear hC2 hq2
    have hYO:OwnIn (From wr.heap.size) wY yv Y:=OwnIn.of hOY (by omega) (fun j h1 _=>Nat.le_trans hsY h1)
    obtain⟨ay,capy,hvy,_,_⟩:=hYO.ints.shape
    subst hvy
    clear e1 e2 e3 hcell hc0 hc1 hRY
    go_wp2_with (first|(at_builtin;refine wp_prep_row rfl _ _ rfl w.heap.size wr wY _ _ (sq r k (d+1)) Y hO hg.size hgY hYO rfl rfl rfl (by omega) ?_;intro v5 w5 hO5 hg5)|fail)
    go_roundw
    case rel=>exact⟨d,_,v5,rfl,rfl,by omega,grown_trans hg hg5,by rw[HK.out.2,HC2.out.2];exact hO5,Lib.hid HC2.out.1⟩
    case measure=>simp[intOf]
end Go.Proofs.YtdcobapnlpeaaaaGreat
namespace Go.Proofs.YtdcobapnlpeaaaaGreat
open Go.RowKit
theorem inverseMod_ret (a m:Int) (w:World) (hm:m=2∨m=3∨m=5∨m=7) (h1:1≤a) (h2:a<m) :
  Calls Tryz.prog 206 #[.int .i64 a,.int .i64 m] w (Ret w fun _ v=>∃k:Int,v=.tuple #[.int .i64 k,.bool true]∧0≤k∧k<m∧(k*a)%m=1):=
 (inverseMod_ok a m w hm h1 h2).mono (by rintro e w' ⟨⟨k,rfl,h⟩,rfl⟩;exact⟨_,rfl,Ext.refl _,k,rfl,h⟩)
theorem q_kept {bad:Nat→Prop}{wI w2:World}{v1 v2:Value} (hg2:wI.grownBy w2 v1.ownBlock) (hb2:v2.ownBlock=v1.ownBlock∨∀k,v2.ownBlock=some k→wI.heap.size≤k) :
  ∀k,(¬bad k∧v1.ownBlock≠some k)→k<wI.heap.size→(¬bad k∧v2.ownBlock≠some k)∧k<w2.heap.size∧w2.heap[k]? = wI.heap[k]? :=fun k hk hlt=>
 ⟨⟨hk.1,fun e=>by
  rcases hb2 with h|h
  ·exact hk.2 (by rw[←h];exact e)
  ·have:=h k e;omega⟩,Nat.lt_of_lt_of_le hlt hg2.size,hg2.block k hlt (fun e=>hk.2 e.symm)⟩
theorem seq_kept {B sb gb n W:Nat}{pv:Value}{wI w2:World}{v1 v2:Value}{b:List (List Int)} (h:SeqAt B (fun k=>v1.ownBlock=some k) wI sb gb pv n b) (hv:∀k,v1.ownBlock=some k→W≤k) (hgb:gb<W) (hsb:sb<W)
  (hg2:wI.grownBy w2 v1.ownBlock) (hb2:v2.ownBlock=v1.ownBlock∨∀k,v2.ownBlock=some k→wI.heap.size≤k):SeqAt B (fun k=>v2.ownBlock=some k) w2 sb gb pv n b:=by
 refine h.kept hg2.size (fun k hk hc=>hg2.block k hk (fun e => ?_)) (fun k hk e => ?_)
 ·rcases hc with rfl|rfl|hc
  ·have:=hv _ e.symm;omega
  ·have:=hv _ e.symm;omega
  ·exact hc e.symm
 ·rcases hb2 with h|h
  ·rw[←h];exact e
  ·have:=h k e;omega
def AddPost (P:Pr) (H:List Int→Prop) (L b b':List (List Int)) (g:Bool):Prop:=
 Ind P (genP P (fun x=>H x∨x∈L)) (gt b')∧(g=false→b'=b)∧(g=true→miss b' P.orders.length<miss b P.orders.length)
def AddSt (P:Pr) (H:List Int→Prop) (L b b' q:List (List Int)) (g:Bool):Prop:=
 (∃R,AddInv P (fun x=>H x∨x∈L) (gt b') q R)∧(g=false→b'=b)∧(g=true→miss b' P.orders.length<miss b P.orders.length)∧miss b' P.orders.length≤miss b P.orders.length
set_option maxRecDepth 100000 in
set_option maxHeartbeats 2000000 in
theorem add_ok (P:Pr) (G:Grp P) (w:World) (sb gb B:Nat) (p lv:Value) (L b:List (List Int)) (H:List Int→Prop) (hp:PresP (fun k=>k≠gb) w p P) (hs:SeqAt B (fun _=>False) w sb gb p P.orders.length b) (hI:Ind P H (gt b))
  (hL:∀x∈L,Vec P.orders x) (hl:Rows2 (fun k=>¬(k=gb∨k=sb)) w lv L) (hlen:L.length≤10000) :
  Calls Tryz.prog 100 #[.pointer (some ⟨sb,0,none⟩),lv] w fun e w'=>∃b' g,e=.returned (.bool g)∧w.grownBy w' (some gb)∧SeqAt B (fun _=>False) w' sb gb p P.orders.length b'∧AddPost P H L b b' g:=by
 have hP:=G.v
 have hn6:=hP.n6
 obtain⟨pb,po,rfl⟩:=hp.shape
 obtain⟨ao,capo,hco0,hoi⟩:=hp.ordAt
 obtain⟨_,_,_,hpb,hpbl,_⟩:=hp.at
 have hgbs:=hs.tab.lt
 have hpw:∀w',w.grownBy w' (some gb)→PresP (fun k=>k≠gb) w' (.pointer (some ⟨pb,po,none⟩)) P:=fun w' h=>hp.mono (frame_of h (fun k hk _=>⟨hk,fun e=>hk (Option.some.inj e).symm⟩))
 have hc0w:∀w',w.grownBy w' (some gb)→w'.cell? ⟨sb,0,none⟩=some (.pointer (some ⟨pb,po,none⟩)):=fun w' h=>(World.cell?_of_block (h.block sb hs.slt (by simpa using hs.ne))).trans hs.c0
 have hc1w:∀w',w.grownBy w' (some gb)→w'.cell? ⟨sb,1,none⟩=some (.slice (some ⟨gb,0,none⟩) P.orders.length P.orders.length):=fun w' h=>(World.cell?_of_block (h.block sb hs.slt (by simpa using hs.ne))).trans hs.c1
 have hc2w:∀w',w.grownBy w' (some gb)→w'.cell? ⟨pb,po,none⟩=some (.slice ao P.orders.length capo):=fun w' h=>(World.cell?_of_block (h.block pb hpbl (by simpa using hpb))).trans hco0
 have HW:=Lib.hid (And.intro hpw (And.intro hc0w (And.intro hc1w hc2w)));clear hpw hc0w hc1w hc2w hco0
 have HI:=Lib.hid (And.intro hI hL);clear hI hL
 go_enter Tryz.func100,Tryz.ntmps100
 go_wp2_with fail
 refine Calls.mono (cloneRows_ok w lv L _ (fun k=>k=gb∨k=sb) hl (fun k hk _=>hk) (by omega)) ?_
 rintro e0 w0 ⟨qv0,rfl,hg0,hq0⟩
 go_wp2
 go_loopg [5,6] (miss b P.orders.length*(P.orders.length+3)+L.length) (fun gk gv qv wr=>∃(b' q:List (List Int)) (g:Bool),gk≤20000∧gk=miss b' P.orders.length*(P.orders.length+3)+q.length∧gv=.bool g∧w.grownBy wr (some gb) ∧
  SeqAt B (fun k=>qv.ownBlock=some k) wr sb gb (.pointer (some ⟨pb,po,none⟩)) P.orders.length b'∧ShQ (fun k=>k=gb∨k=sb) w.heap.size wr qv q∧Hid (AddSt P H L b b' q g))
 case atStart=>
  have hk0:miss b P.orders.length*(P.orders.length+3)+L.length≤20000:=by
   have h3:miss b P.orders.length*(P.orders.length+3)≤6*9:=Nat.mul_le_mul (by have:=miss_le b P.orders.length;omega) (by omega)
   omega
  exact⟨b,L,false,hk0,rfl,rfl,grown_of_ext _ hg0,hs.kept hg0.size (fun k hk _=>hg0.block k hk (by simp)) (fun k hk h=>by have:=(hq0.lt k h).1;omega),hq0,Lib.hid ⟨⟨_,G.addInv_start HI.out.1 HI.out.2⟩,fun _=>rfl,by simp,Nat.le_refl _⟩⟩
 case round=>
  obtain⟨b',q,g,hgkb,hgk,rfl,hg,hsq,hq,hSt⟩:=hrel
  cases q with
  | nil=>
   obtain⟨aq,capq,rfl,_⟩:=hq.shape
   go_wp2
   go_ret
   exact⟨b',g,rfl,hg,hsq.kept (Nat.le_refl _) (fun _ _ _=>rfl) (fun _ _ h=>h.elim),by obtain⟨⟨R,hA⟩,h2,h3,_⟩:=hSt.out;exact⟨G.addInv_end hA,h2,h3⟩⟩
  | cons y q=>
   obtain⟨aq,capq,rfl,_⟩:=hq.shape
   obtain⟨gq,off,u,rfl,hgB,hglt,hcell,hyI⟩:=ShQ.head hq 0 (by simp)
   obtain⟨m,hm⟩:∃m,m=(y :: q).length:=⟨_,rfl⟩
   rw[←hm] at hq hgk ⊢
   have hm1:m=q.length+1:=by rw[hm];rfl
   have hyI:Ints (fun k=>¬(k=gb∨k=sb)∧k≠gq) wr u y:=hyI
   obtain⟨ay,capy,rfl,_,_⟩:=hyI.shape
   have hmb:m≤20000:=by omega
   have hc0:=HW.out.2.1 wr hg
   have hc1:=HW.out.2.2.1 wr hg
   rw[Nat.add_zero] at hcell
   have hmi:(0:Int)<m:=by omega
   have HM:=Lib.hid (And.intro hgk (And.intro hm hm1));clear hgk hm hm1
   have hyV:Vec P.orders y:=by obtain⟨⟨R,hA⟩,_⟩:=hSt.out;exact hA.vec _ (hA.que _ List.mem_cons_self)
   have htab:∀d,d<P.orders.length→gt b' d≠[]→T P d (gt b' d)∧gt (gt b' d) d=1:=by obtain⟨⟨R,hA⟩,_⟩:=hSt.out;exact fun d hd h=>(hA.tab d hd h).2
   have HT:=Lib.hid (And.intro hyV htab);clear hyV htab
   go_wp2_with fail
   refine Calls.mono (sift_ok P G wr sb gb B _ _ y b' _ _ _ (HW.out.1 wr hg) hsq HT.out.2 hyI HT.out.1) ?_
   rintro e1 w1 ⟨xv,rfl,hg1,Y,hYI,hYV,hYd,hΦ⟩
   have hgw1:=grown_trans hg (grown_of_ext (some gb) hg1)
   have hSt1:Hid (AddSt P H L b b' (Y :: q) g):=by
    obtain⟨⟨R,hA⟩,h2⟩:=hSt.out
    exact Lib.hid ⟨G.sift_add hA hΦ,h2⟩
   clear hΦ hSt hc0 hc1 hcell
   have hq1t:ShQ (fun k=>k=gb∨k=sb) w.heap.size w1 (subSl (.slice (some ⟨gq,off,none⟩) m capq) 1 m) q:=(hq.ext hg1).tail
   have hrt:=run_tail_rows w1 (some ⟨gq,off,none⟩) m capq 1 (by omega) (by omega)
   have hown1:∀k,(subSl (.slice (some ⟨gq,off,none⟩) m capq) 1 m).ownBlock=some k→k=gq:=fun k hk=>by
    have h3:=QOwn.own_tail k hk
    simp[Value.ownBlock] at h3;exact h3.symm
   rw[show(1:Int).toNat=1 from rfl] at hrt
   generalize subSl (.slice (some ⟨gq,off,none⟩) m capq) 1 m=qv1 at hq1t hrt hown1
   have hsq1:SeqAt B (fun k=>qv1.ownBlock=some k) w1 sb gb (.pointer (some ⟨pb,po,none⟩)) P.orders.length b':=(hsq.ext hg1).kept (Nat.le_refl _) (fun _ _ _=>rfl) (fun k _ h=>by rw[hown1 k h];rfl)
   have hYI2:Ints (fun k=>¬(k=gb∨k=sb)∧qv1.ownBlock≠some k) w1 xv Y:=Ints.sub hYI (fun k hk _=>by
    have h1:=hs.slt
    have h2:=hg.size
    rcases hk with hk|hk
    ·exact⟨hk.1,fun e=>hk.2 (hown1 k e)⟩
    ·exact⟨by omega,fun e=>by have:=hown1 k e;omega⟩)
   obtain⟨a1,cap1,rfl,_⟩:=hq1t.shape
   obtain⟨ax,capx,hv,_,_⟩:=hYI2.shape
   rw[hYV.1] at hv
   subst hv
   clear hsq hq hyI hYI hown1
   have HY:=Lib.hid (And.intro hYV hYd);clear hYV hYd
   by_cases hdn:dep Y=P.orders.length
   ·have hSt2:Hid (AddSt P H L b b' q g):=by
     obtain⟨⟨R,hA⟩,h2⟩:=hSt1.out
     exact Lib.hid ⟨⟨R,addInv_drop hA ((dep_top hP HY.out.1).1 hdn)⟩,h2⟩
    clear hSt1
    go_wp2_with (go_at_call 205;refine Calls.mono (depthOf_ok _ Y w1 _ hYI2) ?_;rintro eD wD ⟨rfl,rfl⟩)
    go_roundg (gk-1)
    case measure=>have:=HM.out;omega
    case rel=>exact⟨b',q,g,by omega,by have:=HM.out;omega,rfl,hgw1,hsq1,hq1t,hSt2⟩
   ·have hd:dep Y<P.orders.length:=by have:=dep_le Y;have:=HY.out.1.1;omega
    have hTY:=dep_T HY.out.1
    have hy0:=dep_ne (x:=Y) (by rw[HY.out.1.1];exact hd)
    have hb0:=HY.out.2 hd
    obtain⟨d,hde⟩:∃d,d=dep Y:=⟨_,rfl⟩
    rw[←hde] at hd hTY hy0 hb0 hdn
    have ho:=hP.ord7 d hd
    have hpr:=hP.ord d hd
    have hyd:=hTY.1.2 d hd
    have hyd1:1≤gt Y d:=by omega
    obtain⟨bx,ox,rfl,_,_,hcx⟩:=Ints.at hYI2 d (by rw[HY.out.1.1];exact hd)
    obtain⟨b2,off2,rfl,hb2,hlt2,hcord⟩:=Ints.at hoi d hd
    have c1:∀w',w.grownBy w' (some gb)→w'.cell? ⟨b2,off2+d,none⟩=some (.int .i64 (gt P.orders d)):=fun w' h=>(World.cell?_of_block (h.block b2 hlt2 (by simpa using hb2))).trans hcord
    have HD:=Lib.hid (And.intro hde (And.intro hTY (And.intro hb0 (And.intro c1 (And.intro hpr hdn)))));clear hTY hy0 hb0 c1 hpr hcord hdn
    have e1:∀w',Ext w1 w'→w'.cell? ⟨sb,0,none⟩=some (.pointer (some ⟨pb,po,none⟩)):=fun w' h=>HW.out.2.1 w' (grown_trans hgw1 (grown_of_ext _ h))
    have e2:∀w',Ext w1 w'→w'.cell? ⟨pb,po,none⟩=some (.slice (some ⟨b2,off2,none⟩) P.orders.length capo):=fun w' h=>HW.out.2.2.2 w' (grown_trans hgw1 (grown_of_ext _ h))
    have e3:∀w',Ext w1 w'→w'.cell? ⟨b2,off2+d,none⟩=some (.int .i64 (gt P.orders d)):=fun w' h=>HD.out.2.2.2.1 w' (grown_trans hgw1 (grown_of_ext _ h))
    have e4:∀w',Ext w1 w'→w'.cell? ⟨bx,ox+d,none⟩=some (.int .i64 (gt Y d)):=fun w' h=>h.cell hcx (by simp)
    have q1:(d:Int)<P.orders.length:=by omega
    have q2:(0:Int)≤d:=by omega
    have q3:((d:Int) == (P.orders.length:Int))=false:=by simp;omega
    have hdc:Calls Tryz.prog 205 #[.slice (some ⟨bx,ox,none⟩) P.orders.length capx] w1 (fun e w'=>e=.returned (.int .i64 d)∧w1=w'):=by rw[hde];exact depthOf_ok _ Y w1 _ hYI2
    clear hde
    go_wp2_with (go_at_call 205;refine Calls.mono hdc ?_;rintro eD wD ⟨rfl,rfl⟩)
    go_region_held3 (fun w'=>Ext w1 w') (first|exact grown_drew _ _|assumption)
     (first
      | (go_at_call 206;refine Calls.mono (Calls.rel (w0:=w1) (by assumption) (inverseMod_ret (gt Y d) (gt P.orders d) _ HD.out.2.2.2.2.1 hyd1 hyd.2)) ?_;rintro eI wI ⟨vI,rfl,hgI,hsI,kk,rfl,hk0,hk1,hkm⟩;have HK:=Lib.hid hkm;clear hkm))
    clear e1 e2 e3 e4 hdc hrt
    have hgwI:=grown_trans hgw1 (grown_of_ext (some gb) hgI)
    have hqI:=hq1t.ext hgI
    have hsqI:=hsq1.ext hgI
    have hYI3:=hYI2.ext hgI
    have hqlt:∀k,(Value.slice a1 q.length cap1).ownBlock=some k→w.heap.size≤k:=fun k hk=>(hqI.lt k hk).1
    have hql:q.length≤20000:=by have:=HM.out.2.2;omega
    clear hq1t hsq1 hYI2 hcx
    go_wp2_with (first|(at_builtin;refine wp_shq_app rfl _ _ rfl (fun k=>k=gb∨k=sb) w.heap.size _ _ q Y rfl wI hqI rfl hYI3 rfl (by omega) hgwI.size ?_;intro v2 w2 hq2 hg2 hb2;have hgw2:=grown_own hgwI hg2 (fun j hj hlt=>by have:=hqlt j hj;omega);have hc02:=HW.out.2.1 w2 hgw2)|fail)
    have hsq2:=seq_kept hsqI hqlt hgbs.2 hs.slt hg2 hb2
    have hYI4:=Ints.mono hYI3 (q_kept hg2 hb2)
    clear hqI hsqI hYI3
    refine Calls.mono (power_ok P hP w2 _ _ Y kk _ _ (HW.out.1 w2 hgw2) hYI4 HY.out.1 (by omega)) ?_
    rintro eZ wZ ⟨zv,rfl,hgZ,hOZ⟩
    have eZ:iPow P Y kk=pw P Y kk.toNat:=G.iPow_eq HY.out.1 kk
    rw[eZ] at hOZ
    clear eZ
    obtain⟨Z,hZ⟩:∃Z,Z=pw P Y kk.toNat:=⟨_,rfl⟩
    rw[←hZ] at hOZ
    have hZV:Vec P.orders Z:=by rw[hZ];exact G.pw_vec HY.out.1 _
    have HZ:=Lib.hid hZ;clear hZ
    have hgwZ:=grown_trans hgw2 (grown_of_ext (some gb) hgZ)
    have hqZ:=hq2.ext hgZ
    have hsqZ:=hsq2.ext hgZ
    have hZI:Ints (fun k=>¬(k=gb∨k=sb)∧v2.ownBlock≠some k) wZ zv Z:=ints_of_own hOZ (by rw[hZV.1];omega) (fun k hk=>by
     have h1:=(hOZ.lt k hk).1
     have h2:=hs.slt
     have h3:=hgw2.size
     exact⟨by omega,fun e=>by have:=(hq2.lt k e).2;omega⟩)
    have hqlt2:∀k,v2.ownBlock=some k→w.heap.size≤k:=fun k hk=>(hqZ.lt k hk).1
    clear hq2 hsq2 hYI4 hg2 hb2
    obtain⟨az,capz,hv,_,_⟩:=hZI.shape
    rw[hZV.1] at hv
    subst hv
    have HZV:=Lib.hid hZV;clear hZV
    have hTV:Vec P.orders (pw P Z (gt P.orders d).toNat):=G.pw_vec HZV.out _
    have hTl:(pw P Z (gt P.orders d).toNat).length≤6:=by rw[hTV.1];omega
    have hTe:iPow P Z (gt P.orders d)=pw P Z (gt P.orders d).toNat:=G.iPow_eq HZV.out _
    have HTV:=Lib.hid (And.intro hTl hTe);clear hTl hTe hTV
    have e1:∀w',w.grownBy w' (some gb)→w'.cell? ⟨sb,0,none⟩=some (.pointer (some ⟨pb,po,none⟩)):=HW.out.2.1
    have e2:∀w',w.grownBy w' (some gb)→w'.cell? ⟨pb,po,none⟩=some (.slice (some ⟨b2,off2,none⟩) P.orders.length capo):=HW.out.2.2.2
    have e3:∀w',w.grownBy w' (some gb)→w'.cell? ⟨b2,off2+d,none⟩=some (.int .i64 (gt P.orders d)):=HD.out.2.2.2.1
    go_wp2
    go_region_held3 (fun w'=>w.grownBy w' (some gb)) (first|exact grown_trans hgwZ (grown_drew _ _)|assumption|exact grown_trans hgwT (World.grownBy_alloc _ _ _))
     (first
      | (go_at_call 101;refine Calls.mono (Calls.rel2 (w0:=wZ) (grown_drew _ _) (power_ok P hP _ _ _ Z (gt P.orders d) _ _ ((HW.out.1 wZ hgwZ).ext (grown_drew _ _)) (hZI.ext (grown_drew _ _)) HZV.out (by omega))) ?_;rintro eT wT ⟨vT,rfl,hgT,hgT2,hsT,hOT⟩;have hgwT:=grown_trans hgwZ (grown_of_ext (some gb) hgT);rw[HTV.out.2] at hOT;have hTI:Ints (fun k=>¬(k=gb∨k=sb)∧v2.ownBlock≠some k) wT vT (pw P Z (gt P.orders d).toNat):=ints_of_own hOT (by have:=HTV.out.1;omega) (fun k hk=>by
        have h1:=(hOT.lt k hk).1
        have h2:=hs.slt
        have h3:=hgwZ.size
        exact⟨by omega,fun e=>by have:=(hqZ.lt k e).2;omega⟩);obtain⟨aT,capT,hvT,_,_⟩:=hTI.shape;subst hvT)
      | (refine step_shq_app rfl _ _ rfl (fun k=>k=gb∨k=sb) w.heap.size v2 _ (q++[Y]) _ rfl wT (hqZ.ext hgT) rfl hTI rfl (by simp;omega) hgwT.size ?_;intro v3 w3 hq3 hg3 hb3;have hgw3:=grown_own hgwT hg3 (fun j hj hlt=>by have:=hqlt2 j hj;omega)))
    clear e1 e2 e3
    have hsq3:=seq_kept (hsqZ.ext hgT) hqlt2 hgbs.2 hs.slt hg3 hb3
    have hZI3:=Ints.mono (hZI.ext hgT) (q_kept hg3 hb3)
    have hc13:=HW.out.2.2.1 w3 hgw3
    have hc03:=HW.out.2.1 w3 hgw3
    obtain⟨T1,hT1⟩:∃T1,T1=pw P Z (gt P.orders d).toNat:=⟨_,rfl⟩
    rw[←hT1] at hq3
    have HT1:=Lib.hid hT1;clear hT1
    clear hqZ hsqZ hZI hTI hOT hOZ hg3 hb3
    go_wp2
    clear hc13 hc03
    go_loopw [6,84] (fun qv iv wr2=>∃(k:Nat) (v4:Value),v4=qv∧iv=.int .i64 k∧k≤P.orders.length∧w.grownBy wr2 (some gb)∧SeqAt B (fun j=>v4.ownBlock=some j) wr2 sb gb (.pointer (some ⟨pb,po,none⟩)) P.orders.length b' ∧
     ShQ (fun k=>k=gb∨k=sb) w.heap.size wr2 v4 (q++[Y]++[T1]++coms P b' Z k)∧Ints (fun j=>¬(j=gb∨j=sb)∧v4.ownBlock≠some j) wr2 (.slice az P.orders.length capz) Z) (fun _ iv _=>P.orders.length-(intOf iv).toNat)
    case atStart=>exact⟨0,_,rfl,rfl,by omega,hgw3,hsq3,by simpa [coms] using hq3,hZI3⟩
    case round=>
     obtain⟨k,v4,rfl,rfl,hk,hg4,hsq4,hq4,hZI4⟩:=hrel
     clear hsq3 hq3 hZI3
     have hqlt4:∀j,v4.ownBlock=some j→w.heap.size≤j:=fun j hj=>(hq4.lt j hj).1
     by_cases hk2:k<P.orders.length
     ·obtain ⟨_,hcc⟩:=hsq4.tab.at k hk2
      rcases hcc with⟨h0,hcell⟩|⟨hne,ab,capb,hcell,hbI⟩
      ·have hcs:coms P b' Z (k+1)=coms P b' Z k:=by simp only[coms];rw[if_pos h0,List.append_nil]
       have HC:=Lib.hid hcs;clear hcs h0
       go_wp2
       go_roundw
       case rel=>exact⟨k+1,v4,rfl,by go_num,by omega,hg4,hsq4,by rw[HC.out];exact hq4,hZI4⟩
       case measure=>simp[intOf];omega
      ·have hcs:coms P b' Z (k+1)=coms P b' Z k++[comR P (gt b' k) Z]:=by simp only[coms];rw[if_neg hne]
       have hbV:=(HT.out.2 k hk2 hne).1.1
       have hcV:Vec P.orders (comR P (gt b' k) Z):=G.mulV (G.invV (G.mulV HZV.out hbV)) (G.mulV hbV HZV.out)
       have HC:=Lib.hid (And.intro hcs (And.intro hbV hcV));clear hcs hbV hcV hne
       have hp0:=HW.out.2.1 wr hg4
       go_wp2_with fail
       refine Calls.mono (commutator_ok P G wr _ _ _ (gt b' k) Z _ _ _ (HW.out.1 wr hg4) hbI hZI4 HC.out.2.1 HZV.out) ?_
       rintro eC wC ⟨vC,rfl,hgC,hOC⟩
       have hOC:Own wr.heap.size wC vC (comR P (gt b' k) Z):=hOC
       have hCI:Ints (fun j=>¬(j=gb∨j=sb)∧v4.ownBlock≠some j) wC vC (comR P (gt b' k) Z):=ints_of_own hOC (by rw[HC.out.2.2.1];omega) (fun j hj=>by
        have h1:=(hOC.lt j hj).1
        have h2:=hs.slt
        have h3:=hg4.size
        exact⟨by omega,fun e=>by have:=(hq4.lt j e).2;omega⟩)
       have hgwC:=grown_trans hg4 (grown_of_ext (some gb) hgC)
       obtain⟨aC,capC,hvC,_,_⟩:=hCI.shape
       subst hvC
       have hcl:=coms_len P b' Z k
       clear hOC hcell hp0
       go_wp2_with (first|(at_builtin;refine wp_shq_app rfl _ _ rfl (fun k=>k=gb∨k=sb) w.heap.size v4 _ (q++[Y]++[T1]++coms P b' Z k) (comR P (gt b' k) Z) rfl wC (hq4.ext hgC) rfl hCI rfl (by simp;omega) hgwC.size ?_;intro v5 w5 hq5 hg5 hb5;have hgw5:=grown_own hgwC hg5 (fun j hj hlt=>by have:=hqlt4 j hj;omega))|fail)
       go_roundw
       case rel=>exact⟨k+1,v5,rfl,by go_num,by omega,hgw5,seq_kept (hsq4.ext hgC) hqlt4 hgbs.2 hs.slt hg5 hb5,by rw[HC.out.1,←List.append_assoc];exact hq5,Ints.mono (hZI4.ext hgC) (q_kept hg5 hb5)⟩
       case measure=>simp[intOf];omega
     ·have hke:k=P.orders.length:=by omega
      subst hke
      have hZne:Z≠[]:=fun h=>by have:=HZV.out.1;rw[h] at this;simp at this;omega
      obtain⟨hs5,hg5⟩:=hsq4.put d (u := .slice az P.orders.length capz) (y:=Z) (Ints.sub hZI4 (fun j hj _=>⟨fun e=>hj.1 (.inl e),fun h=>h.elim (fun e=>hj.1 (.inr e)) hj.2⟩)) hZne
      obtain⟨hfr,hcc⟩:=hsq4.tab.at d hd
      have hcd:wr.cell? ⟨gb,d,none⟩=some (.slice none 0 0):=hcc.elim (fun h=>h.2) (fun h=>absurd HD.out.2.2.1 h.1)
      have hq5:ShQ (fun k=>k=gb∨k=sb) w.heap.size (wr.setCell ⟨gb,d,none⟩ (.slice az P.orders.length capz)) v4 (q++[Y]++[T1]++coms P b' Z P.orders.length):=hq4.kept hg5.size (fun j hj hc=>hg5.block j hj (fun e=>by
       have e:=Option.some.inj e
       subst e
       rcases hc with hc|hc
       ·have:=hqlt4 _ hc;have:=hgbs.2;omega
       ·exact hc (.inl rfl))) (fun _ _ h=>h)
      have hc1:=HW.out.2.2.1 wr hg4
      have hms:=miss_set (b:=b') (z:=Z) HD.out.2.2.1 hZne P.orders.length (by rw[hsq4.tab.len];exact Nat.le_refl _)
      rw[if_pos hd] at hms
      have hll:(q++[Y]++[T1]++coms P b' Z P.orders.length).length≤q.length+2+P.orders.length:=by have:=coms_len P b' Z P.orders.length;simp;omega
      have hmul:miss b' P.orders.length*(P.orders.length+3)=miss (b'.set d Z) P.orders.length*(P.orders.length+3)+(P.orders.length+3):=by rw[←hms,Nat.add_mul,Nat.one_mul]
      have hSt5:Hid (AddSt P H L b (b'.set d Z) (q++[Y]++[T1]++coms P b' Z P.orders.length) true):=by
       obtain⟨⟨R,hA⟩,h2,h3,h4⟩:=hSt1.out
       have hst:=G.add_step hA hd HD.out.2.1 HD.out.2.2.1 hsq4.tab.len kk hk0 HK.out
       rw[←HZ.out,←HT1.out] at hst
       exact Lib.hid ⟨hst,by simp,fun _=>by omega,by omega⟩
      have hlt5:miss (b'.set d Z) P.orders.length*(P.orders.length+3)+(q++[Y]++[T1]++coms P b' Z P.orders.length).length<gk:=by have:=HM.out;omega
      have HX:=Lib.hid (And.intro hll (And.intro hlt5 (And.intro hmul hms)));clear hll hmul hms hlt5 hSt1 hcc hq4 hsq4 hZI4
      have q1':(d:Int)<P.orders.length:=by omega
      go_wp2
      go_roundg (miss (b'.set d Z) P.orders.length*(P.orders.length+3)+(q++[Y]++[T1]++coms P b' Z P.orders.length).length)
      case measure=>exact HX.out.2.1
      case rel=>exact⟨b'.set d Z,_,true,by have:=HX.out.2.1;omega,rfl,rfl,grown_trans hg4 hg5,hs5,hq5,hSt5⟩
end Go.Proofs.YtdcobapnlpeaaaaGreat
namespace Go.Proofs.YtdcobapnlpeaaaaGreat
open Go.RowKit
section
variable {P:Pr} (G:Grp P)
include G
theorem Grp.inv_one:rInv P (zeros P.orders.length)=zeros P.orders.length:=by
 have h:=G.inv_mul G.oneV
 rwa [G.grp.er _ (G.invV G.oneV)] at h
theorem Grp.sub_one:Sub P (fun x=>x=zeros P.orders.length):=
 ⟨fun x h=>by rw[h];exact G.oneV,rfl,fun x y hx hy=>by rw[hx,hy];exact G.grp.el _ G.oneV,fun x h=>by rw[h];exact G.inv_one⟩
theorem Grp.ind_one:Ind P (fun x=>x=zeros P.orders.length) (gt (List.replicate P.orders.length ([]:List Int))):=
 ⟨G.sub_one,fun d hd h=>absurd (by simp[gt,hd]) h,fun x hx d hd _ h0=>absurd (by rw[hx];exact gt_replicate _ _) h0⟩
omit G in
theorem genP_one (Q:List Int→Prop):genP P (fun x=>x=zeros P.orders.length∨Q x)=genP P Q:=
 funext fun x=>propext ⟨fun h K S hQ=>h K S (fun y hy=>hy.elim (fun e=>by rw[e];exact S.one) (hQ y)),fun h K S hQ=>h K S (fun y hy=>hQ y (.inr hy))⟩
end
set_option maxHeartbeats 400000 in
theorem generated_ok (P:Pr) (G:Grp P) (w:World) (p lv:Value) (L:List (List Int)) (Sp Sr:Nat→Prop) (hp:PresP Sp w p P) (hl:Rows2 Sr w lv L) (hL:∀x∈L,Vec P.orders x) (hlen:L.length≤10000) :
  Calls Tryz.prog 159 #[p,lv] w (Ret w fun w' v=>RowsO w.heap.size w' v (cseq P (genP P (fun x=>x∈L)))):=by
 have hP:=G.v
 have hn6:=hP.n6
 obtain⟨pb,po,rfl⟩:=hp.shape
 obtain⟨al,capl,rfl,_,_⟩:=Sl.shape hl
 have HL:=Lib.hid hL;clear hL
 go_enter Tryz.func159,Tryz.ntmps159
 go_wp2_with fail
 refine Calls.mono (newSequence_ok P w _ Sp (fun _=>False) hp hn6) ?_
 rintro e1 w1 ⟨v1,rfl,hg1,sb,gb,rfl,hs⟩
 have hgb:=hs.tab.lt
 have hsb:=hs.sB
 go_wp2_with fail
 refine Calls.mono (add_ok P G w1 sb gb w.heap.size _ _ L _ (fun x=>x=zeros P.orders.length) (hp.mono (fun k _ hlt=>⟨by omega,Nat.lt_of_lt_of_le hlt hg1.size,hg1.block k hlt (by simp)⟩)) hs G.ind_one HL.out (Rows2.mono hl (fun k _ hlt=>⟨by omega,Nat.lt_of_lt_of_le hlt hg1.size,hg1.block k hlt (by simp)⟩)) hlen) ?_
 rintro e2 w2 ⟨b2,g,rfl,hg2,hs2,hA,_,_⟩
 rw[genP_one] at hA
 have hgw2:Ext w w2:=grown_own hg1 hg2 (fun j hj hlt=>by cases hj;omega)
 have HA:=Lib.hid hA;clear hA
 go_wp2_with fail
 refine Calls.mono (canonical_ok P G w2 sb gb w.heap.size _ b2 _ _ _ (hp.ext hgw2) hs2 HA.out) ?_
 rintro e3 w3 ⟨v3,rfl,hg3,hO⟩
 go_wp2
 go_ret
 exact⟨_,rfl,grown_trans hgw2 hg3,hO.weak hgw2.size⟩
end Go.Proofs.YtdcobapnlpeaaaaGreat
namespace Go.Proofs.YtdcobapnlpeaaaaGreat
open Go.RowKit
set_option maxHeartbeats 1000000 in
theorem eqRows_ok (v1 v2:Value) (A B:List (List Int)) (w:World) (S1 S2:Nat→Prop) (h1:Rows2 S1 w v1 A) (h2:Rows2 S2 w v2 B) :
  Calls Tryz.prog 287 #[v1,v2,.func (.func 151) #[] #[]] w (Ret w fun _ v=>v=.bool (eqB A B)):=by
 obtain⟨a1,cap1,rfl,_,_⟩:=Sl.shape h1
 obtain⟨a2,cap2,rfl,_,_⟩:=Sl.shape h2
 by_cases hl:A.length=B.length
 ·have HL:=Lib.hid hl
  have hb0:((A.length:Int) != (B.length:Int))=false:=by simp[hl]
  clear hl
  go_enter Tryz.func287,Tryz.ntmps287
  go_wp2
  go_loopw [17] (fun iv wr=>∃k:Nat,iv=.int .i64 k∧k≤A.length∧Ext w wr∧Hid (∀j,j<k→gt A j=gt B j)) (fun iv _=>A.length-(intOf iv).toNat)
  case atStart=>exact⟨0,rfl,by omega,Ext.refl _,Lib.hid (fun j h=>by omega)⟩
  case round=>
   obtain⟨k,rfl,hk,hg,hE⟩:=hrel
   clear hb0
   by_cases hlt:k<A.length
   ·have hlt':(k:Int)<A.length:=by omega
    have hlt2:(k:Int)<B.length:=by have:=HL.out;omega
    obtain⟨b1,o1,c1,d1,rfl,_,_,hc1,hi1⟩:=Rows2.at (Rows2.ext h1 hg) k hlt
    obtain⟨b2,o2,c2,d2,rfl,_,_,hc2,hi2⟩:=Rows2.at (Rows2.ext h2 hg) k (by omega)
    have hk0:(0:Int)≤k:=by omega
    go_wp2_with fail
    refine Calls.mono (sEqual_ok _ _ (gt A k) (gt B k) wr _ _ hi1 hi2) ?_
    rintro eE wE ⟨vE,rfl,hgE,rfl⟩
    clear hc1 hc2
    cases hq:eqB (gt A k) (gt B k) with
    | true=>
     have HQ:=Lib.hid hq;clear hq
     go_wp2
     go_roundw
     case rel=>exact⟨k+1,by go_num,by omega,grown_trans hg hgE,Lib.hid (fun j hj=>by
      rcases Nat.lt_succ_iff_lt_or_eq.1 hj with h|h
      ·exact hE.out j h
      ·rw[h];exact eqB_true.1 HQ.out)⟩
     case measure=>simp[intOf];omega
    | false=>
     have hf:=eqB_false_at (eqB_false.1 hq)
     have HQ:=Lib.hid hf;clear hq hf
     go_wp2
     go_ret
     exact⟨_,rfl,grown_trans hg hgE,by rw[HQ.out];rfl⟩
   ·have he:eqB A B=true:=eqB_true.2 (ext_gt HL.out (fun i hi=>hE.out i (by omega)))
    have HE:=Lib.hid he;clear he
    go_wp2
    go_ret
    exact⟨_,rfl,hg,by rw[HE.out];rfl⟩
 ·have he:eqB A B=false:=eqB_false.2 (fun e=>hl (by rw[e]))
  have HE:=Lib.hid he;clear he
  have hb0:((A.length:Int) != (B.length:Int))=true:=by simp;omega
  clear hl
  go_enter Tryz.func287,Tryz.ntmps287
  go_wp2
  go_ret
  exact⟨_,rfl,Ext.refl _,by rw[HE.out];rfl⟩
theorem sameRows_ok (v1 v2:Value) (A B:List (List Int)) (w:World) (S1 S2:Nat→Prop) (h1:Rows2 S1 w v1 A) (h2:Rows2 S2 w v2 B) :
  Calls Tryz.prog 221 #[v1,v2] w (Ret w fun _ v=>v=.bool (eqB A B)):=by
 have hcon:=eqRows_ok v1 v2 A B w S1 S2 h1 h2
 obtain⟨a1,cap1,rfl,_,_⟩:=Sl.shape h1
 obtain⟨a2,cap2,rfl,_,_⟩:=Sl.shape h2
 go_enter Tryz.func221,Tryz.ntmps221
 go_wp2_with fail
 refine Calls.mono hcon ?_
 rintro e1 w1 ⟨v,rfl,hg,rfl⟩
 clear hcon
 go_wp2
 go_ret
 exact⟨_,rfl,hg,rfl⟩
def SubB (P:Pr) (u:List (List Int)):Prop:=(∀x∈u,Vec P.orders x)∧u=cseq P (genP P (fun x=>x∈u))
theorem Grp.cseq_len {P:Pr} (G:Grp P) {H:List Int→Prop} (S:Sub P H):(cseq P H).length≤P.orders.length:=by
 obtain⟨r,_,h⟩:=G.cseq_spec S
 rw[h,sq_all];exact sq_len _ _ _
theorem Grp.sub_len {P:Pr} (G:Grp P) {u:List (List Int)} (h:SubB P u):u.length≤P.orders.length:=by
 rw[h.2];exact G.cseq_len (G.genP_sub h.1)
set_option maxRecDepth 100000 in
set_option maxHeartbeats 2000000 in
theorem areSubgroups_ok (P:Pr) (w:World) (p lv:Value) (us:List (List (List Int))) (Sp Sr:Nat→Prop) (hp:PresP Sp w p P) (hl:Rows3 Sr w lv us) :
  Calls Tryz.prog 112 #[p,lv] w (Ret w fun _ v=>∃r:Bool,v=.bool r∧(r=true↔rconsB P=true∧∀u∈us,SubB P u)):=by
 obtain⟨pb,po,rfl⟩:=hp.shape
 obtain⟨al,capl,rfl,_,_⟩:=Sl.shape hl
 obtain⟨vo,vp,vc,_,_,hc0,hc1,hc2,h3⟩:=hp.at
 obtain⟨ao,capo,rfl,_,_⟩:=h3.o.shape
 obtain⟨ap,capp,rfl,_,_⟩:=Sl.shape h3.p
 obtain⟨ac,capc,rfl,_,_⟩:=Sl.shape h3.c
 have hcon:=isConsistent_ok P w (.agg #[.slice ao P.orders.length capo,.slice ap P.powers.length capp,.slice ac P.conj.length capc]) Sp ⟨_,_,_,rfl,h3⟩
 rw[icons_eq] at hcon
 go_enter Tryz.func112,Tryz.ntmps112
 go_wp2_with fail
 refine Calls.mono hcon ?_
 rintro e1 w1 ⟨v,rfl,hg1,rfl⟩
 clear hcon
 cases hq:rconsB P with
 | false=>
  have HQ:=Lib.hid hq;clear hq
  go_wp2
  go_ret
  exact⟨_,rfl,hg1,false,rfl,by simp only[Bool.false_eq_true,false_iff];rintro⟨h,_⟩;rw[HQ.out] at h;cases h⟩
 | true =>
  have G:=grp_of_r hq
  have hn6:=G.v.n6
  have HQ:=Lib.hid hq;clear hq hc1 hc2
  go_wp2
  go_loopw [16] (fun iv wr=>∃i:Nat,iv=.int .i64 i∧i≤us.length∧Ext w wr∧Hid (∀j,j<i→SubB P (gt us j))) (fun iv _=>us.length-(intOf iv).toNat)
  case atStart=>exact⟨0,rfl,by omega,hg1,Lib.hid (fun j h=>by omega)⟩
  case round=>
   obtain⟨i,rfl,hi,hg,hS⟩:=hrel
   by_cases hlt:i<us.length
   ·have hlt':(i:Int)<us.length:=by omega
    obtain⟨b,off,a2,cap2,rfl,_,_,hcu,hu⟩:=Rows3.at hl i hlt
    obtain⟨U,hU⟩:∃U,U=gt us i:=⟨_,rfl⟩
    rw[←hU] at hcu hu
    have HUe:=Lib.hid hU;clear hU
    have hc0r:=hg.cell hc0 (by simp)
    have hcur:=hg.cell hcu (by simp)
    by_cases hlen:U.length≤P.orders.length
    ·have hgt:¬(P.orders.length:Int)<U.length:=by omega
     go_wp2
     clear hcur hc0r hgt
     go_loopw [30] (fun jv wr=>∃j:Nat,jv=.int .i64 j∧j≤U.length∧Ext w wr∧Hid (∀l,l<j→Vec P.orders (gt U l))) (fun jv _=>U.length-(intOf jv).toNat)
     case atStart=>exact⟨0,rfl,by omega,hg,Lib.hid (fun j h=>by omega)⟩
     case round=>
      clear hg
      obtain⟨j,rfl,hj,hg,hV⟩:=hrel
      by_cases hjl:j<U.length
      ·have hjl':(j:Int)<U.length:=by omega
       obtain⟨b3,off3,a3,cap3,rfl,_,_,hc3,hr3⟩:=Rows2.at (Rows2.ext hu hg) j hjl
       have hex:=isExponents_ok wr _ _ P (gt U j) Sp Sr (hp.ext hg) hr3 (fun i hi=>by have:=G.v.ord7 i hi;omega)
       cases hb:expB P.orders (gt U j) with
       | true=>
        rw[hb] at hex
        have HB:=Lib.hid (expB_vec.1 hb);clear hb
        go_wp2_with fail
        refine Calls.mono hex ?_
        rintro eE wE ⟨rfl,rfl⟩
        clear hex
        go_wp2
        go_roundw
        case rel=>exact⟨j+1,by go_num,by omega,hg,Lib.hid (fun l hl=>by
         rcases Nat.lt_succ_iff_lt_or_eq.1 hl with h|h
         ·exact hV.out l h
         ·rw[h];exact HB.out)⟩
        case measure=>simp[intOf];omega
       | false=>
        rw[hb] at hex
        have hno:¬SubB P U:=fun h=>by
         have:=expB_vec.2 (h.1 _ (gtMem hjl))
         rw[hb] at this;cases this
        have HB:=Lib.hid hno;clear hb hno
        go_wp2_with fail
        refine Calls.mono hex ?_
        rintro eE wE ⟨rfl,rfl⟩
        clear hex
        go_wp2
        go_ret
        exact ⟨_,rfl,hg,false,rfl,by
         simp only[Bool.false_eq_true,false_iff]
         rintro⟨_,h⟩
         exact HB.out (by rw[HUe.out];exact h _ (gtMem hlt))⟩
      ·have hje:j=U.length:=by omega
       subst hje
       have hUV:∀x∈U,Vec P.orders x:=fun x hx=>by
        obtain⟨l,hl,rfl⟩:=List.getElem_of_mem hx
        rw[←gt_eq U l hl];exact hV.out l hl
       have hcl:(cseq P (genP P (fun x=>x∈U))).length≤P.orders.length:=G.cseq_len (G.genP_sub hUV)
       have HUV:=Lib.hid hUV;clear hUV
       go_wp2_with fail
       refine Calls.mono (generated_ok P G wr _ _ U Sp Sr (hp.ext hg) (Rows2.ext hu hg) HUV.out (by omega)) ?_
       rintro eG wG ⟨vG,rfl,hgG,hOG⟩
       have hgw:=grown_trans hg hgG
       have hRG:=RowsD.rows (hOG.toD (by omega))
       obtain⟨aG,capG,hvG,_,_⟩:=Sl.shape hRG
       subst hvG
       go_wp2_with fail
       refine Calls.mono (sameRows_ok _ _ _ U wG _ _ hRG (Rows2.ext hu hgw)) ?_
       rintro eS wS ⟨vS,rfl,hgS,rfl⟩
       cases hb:eqB (cseq P (genP P (fun x=>x∈U))) U with
       | true=>
        have HB:=Lib.hid (eqB_true.1 hb);clear hb
        go_wp2
        go_roundw
        case rel=>exact⟨i+1,by go_num,by omega,grown_trans hgw hgS,Lib.hid (fun l hl=>by
         rcases Nat.lt_succ_iff_lt_or_eq.1 hl with h|h
         ·exact hS.out l h
         ·rw[h,←HUe.out];exact⟨HUV.out,HB.out.symm⟩)⟩
        case measure=>simp[intOf];omega
       | false=>
        have HB:=Lib.hid (eqB_false.1 hb);clear hb
        go_wp2
        go_ret
        exact ⟨_,rfl,grown_trans hgw hgS,false,rfl,by
         simp only[Bool.false_eq_true,false_iff]
         rintro⟨_,h⟩
         have:=h _ (gtMem hlt)
         rw[←HUe.out] at this
         exact HB.out this.2.symm⟩
    ·have hgt:(P.orders.length:Int)<U.length:=by omega
     have hno:¬SubB P U:=fun h=>hlen (G.sub_len h)
     have HB:=Lib.hid hno;clear hno hlen
     go_wp2
     go_ret
     exact ⟨_,rfl,hg,false,rfl,by
      simp only[Bool.false_eq_true,false_iff]
      rintro⟨_,h⟩
      exact HB.out (by rw[HUe.out];exact h _ (gtMem hlt))⟩
   ·have hie:i=us.length:=by omega
    subst hie
    go_wp2
    go_ret
    exact ⟨_,rfl,hg,true,rfl,by
     simp only[true_iff]
     exact ⟨HQ.out,fun u hu=>by
      obtain⟨l,hl,rfl⟩:=List.getElem_of_mem hu
      rw[←gt_eq us l hl];exact hS.out l hl⟩⟩
end Go.Proofs.YtdcobapnlpeaaaaGreat
namespace Go.Proofs.YtdcobapnlpeaaaaGreat
theorem pwZ_nat (P:Pr) (x:List Int) (k:Int) (hk:0≤k):pwZ P x k=pw P x k.toNat:=by
 unfold pwZ;rw[if_neg (by omega)]
def tabTo (U:List (List Int)) (n:Nat):Nat→List (List Int)
 | 0=>List.replicate n []
 | k+1=>(tabTo U n k).set (dep (gt U k)) (gt U k)
structure StripTo (P:Pr) (b:List (List Int)) (X:List Int) (d:Nat) (Y:List Int):Prop where
 vec:T P d Y
 inv:∀Q q R,AddInv P Q (gt b) (X :: q) R→∃R',AddInv P Q (gt b) (Y :: q) R'
structure FullTo (P:Pr) (r:Nat→List Int) (m:Nat) (X:List Int) (e:Nat) (Y:List Int):Prop where
 vec:Vec P.orders Y
 zer:∀i,m≤i→i<e→r i≠[]→gt Y i=0
 cos:∀K,Sub P K→(∀i,m≤i→i<P.orders.length→r i≠[]→K (r i))→K (rMul P (rInv P X) Y)
 old:∀k,(∀i,m≤i→i<P.orders.length→r i≠[]→k<i)→gt Y k=gt X k
def comsR (P:Pr) (b:List (List Int)) (z:List Int):Nat→List (List Int)
 | 0=>[]
 | k+1=>comsR P b z k++(if gt b k=[] then [] else [comR P z (gt b k)])
theorem comsR_len (P:Pr) (b:List (List Int)) (z:List Int) (k:Nat):(comsR P b z k).length≤k:=by
 induction k with
 | zero=>exact Nat.le_refl _
 | succ k ih=>simp only[comsR];split<;>simp<;>omega
theorem mem_comsR {P:Pr}{b:List (List Int)}{z x:List Int}{k:Nat} : x∈comsR P b z k↔∃e,e<k∧gt b e≠[]∧x=comR P z (gt b e):=by
 induction k with
 | zero=>simp[comsR]
 | succ k ih=>
  simp only[comsR,List.mem_append,ih]
  constructor
  ·rintro (⟨e,h1,h2,h3⟩|h)
   ·exact⟨e,by omega,h2,h3⟩
   ·split at h
    ·simp at h
    ·rename_i hk
     simp at h
     exact⟨k,by omega,hk,h⟩
  ·rintro ⟨e,h1,h2,h3⟩
   rcases Nat.lt_succ_iff_lt_or_eq.1 h1 with h|h
   ·exact .inl ⟨e,h,h2,h3⟩
   ·subst h;right;rw[if_neg h2];simp[h3]
section
variable {P:Pr} (G:Grp P)
include G
omit G in
theorem stripTo_zero {b:List (List Int)}{X:List Int} (hX:Vec P.orders X):StripTo P b X 0 X:=⟨T_zero.2 hX,fun _ _ R A=>⟨R,A⟩⟩
omit G in
theorem StripTo.skip {b:List (List Int)}{X Y:List Int}{d:Nat} (h:StripTo P b X d Y) (h0:gt Y d=0):StripTo P b X (d+1) Y:=⟨h.vec.up h0,h.inv⟩
theorem Grp.stripTo_step {b:List (List Int)}{X Y:List Int}{d:Nat} (hd:d<P.orders.length) (hb:gt b d≠[]) (ht:T P d (gt b d)∧gt (gt b d) d=1) (h0:gt Y d≠0) (h:StripTo P b X d Y) :
  StripTo P b X (d+1) (rMul P Y (pwZ P (gt b d) (-(gt Y d)))):=by
 have hc:=G.right_clear hd h.vec.1 ht.1 ht.2
 have hT:T P (d+1) (rMul P Y (pwZ P (gt b d) (-(gt Y d)))):=T.up ⟨hc.2.2,fun k hk=>by rw[hc.2.1 k hk];exact h.vec.2 k hk⟩ hc.1
 have hp:=G.pwZ_vec ht.1.1 (-(gt Y d))
 refine⟨hT,fun Q q R A => ?_⟩
 obtain⟨R1,A1⟩:=h.inv Q q R A
 refine⟨_,addInv_sift A1 hd h.vec h0 hb hT (fun K S h1 h2 => ?_) (fun K S h1 h2=>S.mul _ _ h2 (S.pwZ h1 _))⟩
 have h3:=S.mul _ _ h2 (S.inv _ (S.pwZ h1 (-(gt Y d))))
 rwa [G.ass h.vec.1 hp (G.invV hp),G.mul_inv hp,G.grp.er _ h.vec.1] at h3
theorem Grp.close_step {Q:List Int→Prop}{b q q':List (List Int)}{R:List Int→Prop}{y:List Int} (A:AddInv P Q (gt b) (y :: q) R) {d:Nat} (hd:d<P.orders.length) (hT:T P d y) (hb:gt b d=[]) (hlen:b.length=P.orders.length)
  (k:Int) (hk0:0≤k) (hk:(k*gt y d)%gt P.orders d=1) (hq':∀x,x∈q'↔x∈q∨x=y∨x=pw P (pw P y k.toNat) (gt P.orders d).toNat∨x∈comsR P b (pw P y k.toNat) P.orders.length) :
  ∃R',AddInv P Q (gt (b.set d (pw P y k.toNat))) q' R':=by
 obtain⟨hz,hz1⟩:=G.lead_one hd hT k hk0 hk
 refine⟨_,G.addInv_insert A hd hT hb hz hz1 (fun K S h=>S.pw h _) (fun e he => ?_) (fun x hx => ?_) (fun x hx => ?_) (fun e he hbe => .inr ?_)⟩
 ·by_cases h:e=d
  ·subst h;rw[if_pos rfl,gt_set_eq _ _ _ (by omega)]
  ·rw[if_neg h,gt_set_ne _ _ _ _ (fun h2=>h h2.symm)]
 ·rcases (hq' x).1 hx with h|h|h|h
  ·exact .inl h
  ·exact .inr (.inl h)
  ·exact .inr (.inr (.inr (.inl h)))
  ·obtain ⟨e,h1,h2,h3⟩:=mem_comsR.1 h
   exact .inr (.inr (.inr (.inr ⟨e,h1,h2,.inr h3⟩)))
 ·rw [hq']
  rcases hx with h|h|h
  ·exact .inl h
  ·exact .inr (.inl h)
  ·exact .inr (.inr (.inl h))
 ·rw [hq']
  exact .inr (.inr (.inr (mem_comsR.2 ⟨e,he,hbe,rfl⟩)))
theorem Grp.fullTo_zero {r:Nat→List Int}{m:Nat}{X:List Int} (hX:Vec P.orders X):FullTo P r m X m X:=
 ⟨hX,fun i h1 h2=>by omega,fun K S _=>by rw[G.inv_mul hX];exact S.one,fun _ _=>rfl⟩
omit G in
theorem FullTo.skip {r:Nat→List Int}{m e:Nat}{X Y:List Int} (h:FullTo P r m X e Y) (h0:r e=[]∨gt Y e=0):FullTo P r m X (e+1) Y:=
 ⟨h.vec,fun i h1 h2 hr=>by
  rcases Nat.lt_succ_iff_lt_or_eq.1 h2 with h3|h3
  ·exact h.zer i h1 h3 hr
  ·subst h3;exact h0.elim (fun h=>absurd h hr) id,h.cos,h.old⟩
theorem Grp.fullTo_step {r:Nat→List Int}{m e:Nat}{X Y:List Int} (hX:Vec P.orders X) (hme:m≤e) (he:e<P.orders.length) (hr:r e≠[]) (ht:T P e (r e)∧gt (r e) e=1) (h:FullTo P r m X e Y) :
  FullTo P r m X (e+1) (rMul P Y (pwZ P (r e) (-(gt Y e)))):=by
 have hc:=G.right_clear he h.vec ht.1 ht.2
 refine⟨hc.2.2,fun i h1 h2 hri => ?_,fun K S hK => ?_,fun k hk=>by rw[hc.2.1 k (hk e hme he hr)];exact h.old k hk⟩
 ·rcases Nat.lt_succ_iff_lt_or_eq.1 h2 with h3|h3
  ·rw[hc.2.1 i h3];exact h.zer i h1 h3 hri
  ·subst h3;exact hc.1
 ·rw [←G.ass (G.invV hX) h.vec (G.pwZ_vec ht.1.1 _)]
  exact S.mul _ _ (h.cos K S hK) (S.pwZ (hK e hme he hr) _)
omit G in
theorem FullTo.repTo {H:List Int→Prop}{b r:Nat→List Int}{d k:Nat}{X Y:List Int} (h:FullTo P r (d+1) X P.orders.length Y) (C:CanInv P H b r (d+1)) (hk:d+1+k=P.orders.length) :
  RepTo P (sq r k (d+1)) X (sq r k (d+1)).length Y:=by
 refine ⟨h.vec,fun j hj => ?_,fun K S hK=>h.cos K S (fun i h1 h2 h3=>hK _ (mem_sq.2 ⟨i,h1,by omega,h3,rfl⟩)),fun j hj=>h.old j (fun i h1 h2 h3=>by
  have:=hj _ (mem_sq.2 ⟨i,h1,by omega,h3,rfl⟩)
  rwa [C.dep h1 h2 h3] at this)⟩
 obtain⟨e,h1,h2,h3,h4⟩:=mem_sq.1 (gtMem hj)
 rw[h4,C.dep h1 (by omega) h3]
 exact h.zer e h1 (by omega) h3
end
end Go.Proofs.YtdcobapnlpeaaaaGreat
namespace Go.Proofs.YtdcobapnlpeaaaaGreat
open Go.RowKit
theorem Grp.rRep_pw {P:Pr} (G:Grp P) {X:List Int} (hX:Vec P.orders X) (k:Nat):rRep (rAt P P.orders.length 0) (zeros P.orders.length) X k=pw P X k:=
 G.lvl.rRep_eq (T_zero.2 hX) k
set_option maxHeartbeats 2000000 in
theorem l10Pow_ok (P:Pr) (G:Grp P) (w:World) (pv x:Value) (X:List Int) (k:Int) (Sp Sx:Nat→Prop) (hp:PresV Sp w pv P) (hx:Ints Sx w x X) (hX:Vec P.orders X) (hk : -1000000000≤k∧k≤1000000000) :
  Calls Tryz.prog 106 #[pv,x,.int .i64 k] w (Ret w fun w' v=>Own w.heap.size w' v (pwZ P X k)):=by
 have hP:=G.v
 have hn6:=hP.n6
 obtain⟨vo,vp,vc,rfl,h3⟩:=hp
 have hBx:=PresP.box h3 28
 have hg0:Ext w (w.alloc (.cells #[vo,vp,vc] 28)):=World.grownBy_alloc _ _ _
 have hx0:=hx.ext hg0
 have hs0:(w.alloc (.cells #[vo,vp,vc] 28)).heap.size=w.heap.size+1:=by simp
 have HS:=Lib.hid hs0;clear hs0 hx
 have hXl:X.length=P.orders.length:=hX.1
 have HX:=Lib.hid (And.intro hX hXl);clear hX hXl
 by_cases hneg:k<0
 ·have e0:pwZ P X k=pw P (rInv P X) (-k).toNat:=by unfold pwZ;rw[if_pos hneg]
  have hiV:=G.invV HX.out.1
  have hil:(rInv P X).length≤6:=by rw[hiV.1];omega
  have HE:=Lib.hid (And.intro e0 hiV);clear e0 hiV
  have hwr:IntKind.i64.wrap (-k) = -k:=IntWalk.i64_in _ (by omega)
  go_enter Tryz.func106,Tryz.ntmps106
  go_wp2
  generalize hw0:w.alloc (.cells #[vo,vp,vc] 28)=w0 at *
  clear hw0
  obtain⟨vo6,vp6,vc6,_,_,hc0,hc1,hc2,h36⟩:=hBx.at
  have e1:∀w',Ext w0 w'→w'.cell? ⟨w.heap.size,0,none⟩=some vo6:=fun w' h=>h.cell hc0 (by simp)
  have e2:∀w',Ext w0 w'→w'.cell? ⟨w.heap.size,1,none⟩=some vp6:=fun w' h=>h.cell (by simpa using hc1) (by simp)
  have e3:∀w',Ext w0 w'→w'.cell? ⟨w.heap.size,2,none⟩=some vc6:=fun w' h=>h.cell (by simpa using hc2) (by simp)
  clear hc0 hc1 hc2
  go_region_held3 (fun w'=>Ext w0 w') (first|exact grown_drew _ _|assumption)
   (first
    | (go_at_call 211;refine Calls.mono (Calls.rel (w0:=w0) (by assumption) (l10Inv_ok P hP _ _ _ _ Any Any ⟨_,_,_,rfl,Pres3.ext h36 (by assumption)⟩ (Ints.sub (Ints.ext hx0 (by assumption)) (fun _ _ _=>trivial)) HX.out.1)) ?_;rintro eA wA ⟨vA,rfl,hgA,hsA,hOA⟩;have hOA2:=hOA.ints (by omega))
    | (go_at_call 210;refine Calls.mono (Calls.rel (w0:=w0) (by assumption) (l08Repeat_ok P hP _ _ _ 0 P.orders.length (by omega) _ (-k) Any Any ⟨_,_,_,rfl,Pres3.ext h36 (by assumption)⟩ hOA2 HE.out.2 (by omega) (by omega))) ?_;rintro eB wB ⟨vB,rfl,hgB,hsB,hOB⟩))
  clear e1 e2 e3
  rw[G.rRep_pw HE.out.2,←HE.out.1] at hOB
  go_wp2
  go_ret
  exact⟨_,rfl,grown_trans hg0 hgB,hOB.weak (by have:=HS.out;omega)⟩
 ·have e0:pwZ P X k=pw P X k.toNat:=by unfold pwZ;rw[if_neg hneg]
  have HE:=Lib.hid e0;clear e0
  obtain⟨vo6,vp6,vc6,_,_,hc0,hc1,hc2,h36⟩:=hBx.at
  go_enter Tryz.func106,Tryz.ntmps106
  go_wp2_with fail
  refine Calls.mono (l08Repeat_ok P hP _ _ _ 0 P.orders.length (by omega) X k Any Sx ⟨_,_,_,rfl,h36⟩ hx0 HX.out.1 (by omega) (by omega)) ?_
  rintro eB wB ⟨vB,rfl,hgB,hOB⟩
  rw[G.rRep_pw HX.out.1,←HE.out] at hOB
  go_wp2
  go_ret
  exact⟨_,rfl,grown_trans hg0 hgB,hOB.weak (by have:=HS.out;omega)⟩
end Go.Proofs.YtdcobapnlpeaaaaGreat
namespace Go.Proofs.YtdcobapnlpeaaaaGreat
open Go.RowKit
set_option maxHeartbeats 400000 in
theorem l02Lead_ok (v:Value) (X:List Int) (w:World) (S:Nat→Prop) (h:Ints S w v X) :
  Calls Tryz.prog 317 #[v] w fun e w'=>e=.returned (.int .i64 (dep X))∧w=w':=by
 obtain⟨a,cap,rfl,_,_⟩:=h.shape
 go_enter Tryz.func317,Tryz.ntmps317
 go_wp2
 go_loop [3] (fun i=>∃k:Nat,i=.int .i64 k∧k≤X.length∧∀j,j<k→gt X j=0) (fun i=>X.length-(intOf i).toNat)
 case atStart=>exact⟨0,rfl,by omega,fun j hj=>by omega⟩
 case round=>
  obtain⟨k,rfl,hk,hz⟩:=hrel
  have HZ:=Lib.hid hz;clear hz
  by_cases hlt:k<X.length
  ·obtain ⟨b,off,rfl,_,_,hc⟩:=Ints.at h k hlt
   by_cases hx:gt X k=0
   ·have hb:(gt X k != 0)=false:=by simp[hx]
    have HX:=Lib.hid hx;clear hx
    go_wp2
    go_round
    case rel=>exact⟨k+1,by go_num,by omega,fun j hj=>by
     rcases Nat.lt_succ_iff_lt_or_eq.1 hj with h1|h1
     ·exact HZ.out j h1
     ·rw[h1];exact HX.out⟩
    case measure=>simp[intOf];omega
   ·have hb:(gt X k != 0)=true:=by simp[hx]
    have he:dep X=k:=dep_eq hlt HZ.out hx
    have HE:=Lib.hid he;clear he hx
    go_wp2
    go_ret
    exact⟨by rw[HE.out];rfl,rfl⟩
  ·have hke:k=X.length:=by omega
   have he:dep X=X.length:=dep_all (fun j hj=>HZ.out j (by omega))
   have HE:=Lib.hid he;clear he
   go_wp2
   go_ret
   exact⟨by rw[HE.out];rfl,rfl⟩
theorem l12Depth_ok (v:Value) (X:List Int) (w:World) (S:Nat→Prop) (h:Ints S w v X) :
  Calls Tryz.prog 289 #[v] w (Ret w fun _ r=>r=.int .i64 (dep X)):=by
 have hcon:=l02Lead_ok v X w S h
 obtain⟨a,cap,rfl,_,_⟩:=h.shape
 go_enter Tryz.func289,Tryz.ntmps289
 go_wp2_with fail
 refine Calls.mono hcon ?_
 rintro e1 w1 ⟨rfl,rfl⟩
 clear hcon
 go_wp2
 go_ret
 exact⟨_,rfl,Ext.refl _,rfl⟩
theorem TabAt.rows {B gb n:Nat}{bad:Nat→Prop}{w:World}{b:List (List Int)} (h:TabAt B bad w gb n b) (hn:n≤1000000):Rows2 (fun k=>k=gb∨(k≠gb∧¬bad k)) w (.slice (some ⟨gb,0,none⟩) n n) b:=by
 have hl:=h.len
 have hlt:=h.lt
 refine⟨_,_,by rw[hl],⟨by omega,by omega,fun h=>by cases h⟩,fun i hi => ?_⟩
 obtain⟨_,hc⟩:=h.at i (by omega)
 rcases hc with⟨h0,hc⟩|⟨_,a,cap,hc,hI⟩
 ·refine ⟨gb,0,_,rfl,.inl rfl,hlt.2,by rw[Nat.zero_add];exact hc,?_⟩
  rw[h0]
  exact⟨none,0,rfl,⟨by simp,by simp,fun _=>rfl⟩,fun j hj=>by simp at hj⟩
 ·exact⟨gb,0,_,rfl,.inl rfl,hlt.2,by rw[Nat.zero_add];exact hc,Ints.sub hI (fun k hk _ => .inr hk)⟩
end Go.Proofs.YtdcobapnlpeaaaaGreat
namespace Go.Proofs.YtdcobapnlpeaaaaGreat
open Go.RowKit
theorem seqOf_succ (n:Nat) (r:Nat→List Int):seqOf (n+1) r=seqOf n r++(if r n=[] then [] else [r n]):=by
 unfold seqOf
 rw[List.range_succ,List.filterMap_append]
 congr 1
 by_cases h:r n=[]<;>simp[h]
theorem seqOf_len (n:Nat) (r:Nat→List Int):(seqOf n r).length≤n:=by rw[sq_all];exact sq_len _ _ _
theorem ShQ.rows {bad:Nat→Prop}{B:Nat}{w:World}{v:Value}{xs:List (List Int)} (h:ShQ bad B w v xs):Rows2 Any w v xs:=by
 obtain⟨vs,hl,hq,hr⟩:=h
 rcases hq with⟨rfl,rfl⟩|⟨g,off,cap,cur,rfl,hb,hg,hnc,hcm,hsz,hc⟩
 ·have:xs=[]:=List.eq_nil_of_length_eq_zero (by simpa using hl.symm)
  subst this
  exact⟨none,0,rfl,⟨by simp,by simp,fun _=>rfl⟩,fun i hi=>by simp at hi⟩
 ·refine ⟨_,cap,by rw[hl],⟨by omega,by unfold maxLen at hcm;omega,fun h=>by cases h⟩,fun i hi=>⟨g,off,gt vs i,rfl,trivial,(Array.getElem?_eq_some_iff.1 hg).1,?_,Ints.sub (hr i hi) (fun _ _ _=>trivial)⟩⟩
  simp only[World.cell?,hg,Option.isSome_none,Bool.false_eq_true,if_false]
  exact hc i (by omega)
theorem ShQ.lit (bad:Nat→Prop) (B:Nat) (w:World) (hB:B≤w.heap.size):ShQ bad B (w.alloc (.cells #[] 24)) (.slice (some ⟨w.heap.size,0,none⟩) 0 0) []:=
 ⟨[],rfl,QOwn.of (World.ownsRow_lit w #[] 0 hB (by decide) rfl),fun i hi=>by simp at hi⟩
theorem CanInv.congr {P:Pr}{H:List Int→Prop}{b r r':Nat→List Int}{m:Nat} (h:CanInv P H b r m) (he:∀e,m≤e→e<P.orders.length→r' e=r e):CanInv P H b r' m:=
 ⟨fun e h1 h2=>by rw[he e h1 h2];exact h.nil e h1 h2,fun e h1 h2 h3=>by rw[he e h1 h2] at h3 ⊢;exact h.mem e h1 h2 h3,
  fun e e' h1 h2 h3 h4 h5=>by rw[he e h1 (by omega)] at h4 ⊢;rw[he e' (by omega) h3] at h5;exact h.red e e' h1 h2 h3 h4 h5⟩
theorem ShQ.weak {bad:Nat→Prop}{B B':Nat}{w:World}{v:Value}{xs:List (List Int)} (h:ShQ bad B w v xs) (hb:B'≤B):ShQ bad B' w v xs:=by
 obtain⟨vs,hl,hq,hr⟩:=h
 exact⟨vs,hl,hq.weak hb,hr⟩
set_option maxRecDepth 100000 in
set_option maxHeartbeats 4000000 in
theorem l12FullF_ok (P:Pr) (G:Grp P) (w:World) (pv tv:Value) (b:List (List Int)) (H:List Int→Prop) (Sp Sb:Nat→Prop) (hpv:PresV Sp w pv P) (ht:Rows2 Sb w tv b) (hlb:b.length=P.orders.length) (hI:Ind P H (gt b)) (Av:Nat→Prop) (hAv:∀k,Av k→k<w.heap.size∧¬Sb k) :
  Calls Tryz.prog 217 #[pv,tv] w (Ret w fun w' v=>ShQ Av w.heap.size w' v (cseq P H)):=by
 have hP:=G.v
 have hn6:=hP.n6
 obtain⟨vo,vp,vc,rfl,h3⟩:=hpv
 have hp0:=PresP.box h3 28
 have hg0:Ext w (w.alloc (.cells #[vo,vp,vc] 28)):=World.grownBy_alloc _ _ _
 have hs0:(w.alloc (.cells #[vo,vp,vc] 28)).heap.size=w.heap.size+1:=by simp
 obtain⟨at_,capt,hvt,_,_⟩:=Sl.shape ht
 rw[hlb] at hvt
 subst hvt
 have HI:=Lib.hid (And.intro hI hlb);clear hI hlb
 obtain⟨vo6,vp6,vc6,_,_,hc0,hc1,hc2,h36⟩:=hp0.at
 simp only[Nat.zero_add] at hc1 hc2
 clear hp0
 have hwn:IntKind.i64.wrap ((P.orders.length:Int)-1)=(P.orders.length:Int)-1:=IntWalk.i64_in _ (by omega)
 go_enter Tryz.func217,Tryz.ntmps217
 go_wp2_with (first|(at_make;refine wp_make_tab rfl _ _ rfl w.heap.size P.orders.length (w.heap.size+1) (by simp) _ rfl rfl rfl (by omega) (by omega) ?_;intro w1 hT1 hg1 hlt1)|fail)
 clear hwn
 have HS:=Lib.hid hs0;clear hs0
 generalize hw0:w.alloc (.cells #[vo,vp,vc] 28)=w0 at *
 clear hw0
 have hT:=hT1 Av
 clear hT1
 go_loopw [6] (fun dv wr=>∃(m:Nat) (dl:List (List Int)),dv=.int .i64 ((m:Int)-1)∧m≤P.orders.length∧Ext w0 wr∧TabAt w.heap.size Av wr (w.heap.size+1) P.orders.length dl∧Hid (CanInv P H (gt b) (gt dl) m∧∀e,e<m→gt dl e=[])) (fun dv _=>(intOf dv+1).toNat)
 case atStart=>exact⟨P.orders.length,_,rfl,Nat.le_refl _,hg1,hT,Lib.hid ⟨⟨fun e h1 h2=>by omega,fun e h1 h2=>by omega,fun e e' h1 h2 h3=>by omega⟩,fun e he=>by simp[gt,he]⟩⟩
 case round =>
  clear hT
  obtain⟨m,dl,rfl,hm,hg,hT,hC⟩:=hrel
  by_cases hm0:m=0
  ·subst hm0
   have hneg:((0:Nat):Int)-1 = -1:=rfl
   rw[hneg]
   have hend:=G.can_end HI.out.1 hC.out.1
   rw[←sq_all] at hend
   have HE:=Lib.hid hend;clear hend
   have hdl:=hT.len
   have hrows:=hT.rows (by omega)
   obtain⟨wo,rfl⟩:∃wo:World,wo=wr:=⟨_,rfl⟩
   go_wp2
   go_loopw [9,10] (fun ov iv wr=>∃(i:Nat) (v4:Value),v4=ov∧iv=.int .i64 i∧i≤P.orders.length∧Ext wo wr∧ShQ Av wo.heap.size wr v4 (seqOf i (gt dl))) (fun _ iv _=>P.orders.length-(intOf iv).toNat)
   case atStart=>exact⟨0,_,rfl,rfl,by omega,World.grownBy_alloc _ _ _,ShQ.lit _ _ _ (Nat.le_refl _)⟩
   case round=>
    obtain⟨i,v4,rfl,rfl,hi,hgi,hQ⟩:=hrel
    by_cases hlt:i<P.orders.length
    ·have hlt':(i:Int)<P.orders.length:=by omega
     have hst:=seqOf_succ i (gt dl)
     obtain⟨_,hcc⟩:=hT.at i hlt
     rcases hcc with⟨h0,hcell⟩|⟨hne,ab,capb,hcell,hbI⟩
     ·rw [if_pos h0,List.append_nil] at hst
      have HST:=Lib.hid hst;clear hst h0
      have hcr:=hgi.cell hcell (by simp)
      go_wp2
      go_roundw
      case rel=>exact⟨i+1,v4,rfl,by go_num,by omega,hgi,by rw[HST.out];exact hQ⟩
      case measure=>simp[intOf];omega
     ·rw [if_neg hne] at hst
      have hln:(0:Int)<(gt dl i).length:=by
       have:0<(gt dl i).length:=List.length_pos_iff.2 hne
       omega
      have hsl:=seqOf_len i (gt dl)
      have HST:=Lib.hid hst;clear hst hne
      have hcr:=hgi.cell hcell (by simp)
      have hrI:Ints (fun k=>¬Av k∧v4.ownBlock≠some k) wr (.slice (some ab) (gt dl i).length capb) (gt dl i):=Ints.mono hbI (fun k hkb hk=>⟨⟨hkb.2,fun e=>by have:=(hQ.lt k e).1;omega⟩,Nat.lt_of_lt_of_le hk hgi.size,hgi.block k hk (by simp)⟩)
      go_wp2_with (first|(at_builtin;refine wp_shq_app rfl _ _ rfl Av wo.heap.size v4 _ (seqOf i (gt dl)) (gt dl i) rfl wr hQ rfl hrI rfl (by omega) hgi.size ?_;intro v5 w5 hQ5 hg5 hb5;have hgw5:=grown_own hgi hg5 (fun j hj hlt=>by have:=(hQ.lt j hj).1;omega))|fail)
      go_roundw
      case rel=>exact⟨i+1,v5,rfl,by go_num,by omega,hgw5,by rw[HST.out];exact hQ5⟩
      case measure=>simp[intOf];omega
    ·have hie:i=P.orders.length:=by omega
     subst hie
     rw[HE.out] at hQ
     obtain⟨az,capz,hvz,_⟩:=hQ.shape
     subst hvz
     go_wp2
     go_ret
     exact⟨_,rfl,grown_trans hg0 (grown_trans hg hgi),hQ.weak (grown_trans hg0 hg).size⟩
  ·obtain ⟨d,rfl⟩:∃d,m=d+1:=⟨m-1,by omega⟩
   rw[show(((d+1:Nat)):Int)-1=d by omega]
   have hdn:d<P.orders.length:=by omega
   have hdn':(d:Int)<P.orders.length:=by omega
   have hd0:(0:Int)≤d:=by omega
   have hwd:IntKind.i64.wrap ((d:Int)-1)=(d:Int)-1:=IntWalk.i64_in _ (by omega)
   obtain⟨bb,off,a2,cap2,hat,_,_,hc,hr⟩:=Rows2.at ht d (by rw[HI.out.2];exact hdn)
   subst hat
   have hgw:=grown_trans hg0 hg
   have hcr:=hgw.cell hc (by simp)
   clear hc hm0
   by_cases hb:gt b d=[]
   ·have hbl:((((gt b d).length:Nat):Int) == 0)=true:=by rw[hb];rfl
    have hC2:CanInv P H (gt b) (gt dl) d:=(can_skip (k:=P.orders.length-(d+1)) hC.out.1 hb).1.congr (fun e h1 h2=>by
     by_cases he:e=d
     ·subst he;rw[if_pos rfl];exact hC.out.2 e (by omega)
     ·rw[if_neg he])
    have HC2:Hid (CanInv P H (gt b) (gt dl) d∧∀e,e<d→gt dl e=[]):=Lib.hid ⟨hC2,fun e he=>hC.out.2 e (by omega)⟩
    clear hC2 hb
    go_wp2
    go_roundw
    case rel=>exact⟨d,dl,rfl,by omega,hg,hT,HC2⟩
    case measure=>simp[intOf]
   ·have hbl:((((gt b d).length:Nat):Int) == 0)=false:=by
     have:0<(gt b d).length:=List.length_pos_iff.2 hb
     simp;omega
    have hXV:Vec P.orders (gt b d):=(HI.out.1.mem d hdn hb).2.1.1
    have hxI0:Ints (fun k=>k≠w.heap.size+1∧¬Av k) wr (.slice a2 (gt b d).length cap2) (gt b d):=Ints.mono hr (fun k hkS hk=>⟨⟨by omega,fun h=>(hAv k h).2 hkS⟩,Nat.lt_of_lt_of_le hk hgw.size,hgw.block k hk (by simp)⟩)
    have HB:=Lib.hid (And.intro hb hXV);clear hb hXV
    obtain⟨wo,rfl⟩:∃wo:World,wo=wr:=⟨_,rfl⟩
    go_wp2
    clear hbl hcr
    go_loopw [7,8] (fun xv ev wr=>∃(e:Nat) (Y:List Int),ev=.int .i64 e∧d+1≤e∧e≤P.orders.length∧Ext wo wr∧Ints (fun k=>k≠w.heap.size+1∧¬Av k) wr xv Y∧Hid (FullTo P (gt dl) (d+1) (gt b d) e Y)) (fun _ ev _=>P.orders.length-(intOf ev).toNat)
    case atStart=>exact⟨d+1,_,by go_num,Nat.le_refl _,by omega,Ext.refl _,hxI0,Lib.hid (G.fullTo_zero HB.out.2)⟩
    case round=>
     clear hxI0
     obtain⟨e,Y,rfl,hde,he,hge,hY,hF⟩:=hrel
     have hYV:=hF.out.vec
     have hYl:Y.length=P.orders.length:=hYV.1
     obtain⟨ay,capy,hvy,_,_⟩:=hY.shape
     rw[hYl] at hvy
     subst hvy
     by_cases hlt:e<P.orders.length
     ·have hlt':(e:Int)<P.orders.length:=by omega
      have he0:(0:Int)≤e:=by omega
      obtain⟨by_,oy,rfl,_,_,hcy⟩:=Ints.at hY e (by omega)
      obtain⟨_,hcc⟩:=hT.at e hlt
      rcases hcc with⟨h0,hcell⟩|⟨hne,ab,capb,hcell,hbI⟩
      ·have hF2:=Lib.hid (hF.out.skip (.inl h0));clear h0 hYV
       have hcr:=hge.cell hcell (by simp)
       go_wp2
       go_roundw
       case rel=>exact⟨e+1,Y,by go_num,by omega,by omega,hge,hY,hF2⟩
       case measure=>simp[intOf];omega
      ·have hln:(0:Int)<(gt dl e).length:=by
        have:0<(gt dl e).length:=List.length_pos_iff.2 hne
        omega
       have hcr:=hge.cell hcell (by simp)
       by_cases hy:gt Y e=0
       ·have hyb:(gt Y e != 0)=false:=by simp[hy]
        have hF2:=Lib.hid (hF.out.skip (.inr hy));clear hYV hy hne
        go_wp2
        go_roundw
        case rel=>exact⟨e+1,Y,by go_num,by omega,by omega,hge,hY,hF2⟩
        case measure=>simp[intOf];omega
       ·have hyb:(gt Y e != 0)=true:=by simp[hy]
        have hyd:=hYV.2 e hlt
        have ho:=hP.ord7 e hlt
        have hwn:IntKind.i64.wrap (-(gt Y e)) = -(gt Y e):=IntWalk.i64_in _ (by omega)
        obtain⟨_,m2,m3⟩:=hC.out.1.mem e (by omega) hlt hne
        have hF2:=Lib.hid (G.fullTo_step HB.out.2 (by omega) hlt hne ⟨m2,m3⟩ hF.out)
        have hpV:=G.pwZ_vec m2.1 (-(gt Y e))
        have hpl:(pwZ P (gt dl e) (-(gt Y e))).length≤6:=by rw[hpV.1];omega
        have HD:=Lib.hid (And.intro m2.1 (And.intro hpV (And.intro hpl (And.intro hYV (And.intro hyd ho)))));clear m2 m3 hpV hpl hYV hyd ho hne hy
        have hg0e:=grown_trans hg hge
        have e1:∀w',Ext wr w'→w'.cell? ⟨w.heap.size,0,none⟩=some vo6:=fun w' h=>(grown_trans hg0e h).cell hc0 (by simp)
        have e2:∀w',Ext wr w'→w'.cell? ⟨w.heap.size,1,none⟩=some vp6:=fun w' h=>(grown_trans hg0e h).cell hc1 (by simp)
        have e3:∀w',Ext wr w'→w'.cell? ⟨w.heap.size,2,none⟩=some vc6:=fun w' h=>(grown_trans hg0e h).cell hc2 (by simp)
        have e4:∀w',Ext wr w'→w'.cell? ⟨w.heap.size+1,e,none⟩=some (.slice (some ab) (gt dl e).length capb):=fun w' h=>h.cell hcr (by simp)
        have e5:∀w',Ext wr w'→w'.cell? ⟨by_,oy+e,none⟩=some (.int .i64 (gt Y e)):=fun w' h=>h.cell hcy (by simp)
        go_wp2
        clear hcr hcy hcell
        go_region_held3 (fun w'=>Ext wr w') (first|exact grown_drew _ _|assumption)
         (first
          | (go_at_call 106;refine Calls.mono (Calls.rel (w0:=wr) (by assumption) (l10Pow_ok P G _ _ _ (gt dl e) _ Any Any ⟨_,_,_,rfl,Pres3.ext (Pres3.ext h36 hg0e) (by assumption)⟩ (Ints.sub (Ints.ext (Ints.ext hbI hge) (by assumption)) (fun _ _ _=>trivial)) HD.out.1 (by have:=HD.out.2.2.2.2.1;have:=HD.out.2.2.2.2.2;omega))) ?_;rintro eA wA ⟨vA,rfl,hgA,hsA,hOA⟩;have hOA2:=hOA.ints (by have:=HD.out.2.2.1;omega))
          | (go_at_call 240;refine Calls.mono (Calls.rel (w0:=wr) (by assumption) (l08Mul_ok P hP _ _ _ _ Y _ Any Any Any ⟨_,_,_,rfl,Pres3.ext (Pres3.ext h36 hg0e) (by assumption)⟩ (Ints.sub (Ints.ext hY (by assumption)) (fun _ _ _=>trivial)) hOA2 HD.out.2.2.2.1 HD.out.2.1)) ?_;rintro eB wB ⟨vB,rfl,hgB,hsB,hOB⟩))
        clear e1 e2 e3 e4 e5
        have hYB:Ints (fun k=>k≠w.heap.size+1∧¬Av k) wB vB (rMul P Y (pwZ P (gt dl e) (-(gt Y e)))):=ints_of_own hOB (by rw[hF2.out.vec.1];omega) (fun k hk=>by have h1:=(hOB.lt k hk).1;have:=hT.lt;have:=hge.size;exact⟨by omega,fun h=>by have:=(hAv k h).1;have:=hg0.size;have:=hg.size;omega⟩)
        go_wp2
        go_roundw
        case rel=>exact⟨e+1,_,by go_num,by omega,by omega,grown_trans hge hgB,hYB,hF2⟩
        case measure=>simp[intOf];omega
     ·have hee:e=P.orders.length:=by omega
      subst hee
      have hYne:Y≠[]:=fun h=>by rw[h] at hYl;simp at hYl;omega
      have hTr:=hT.ext hge
      obtain⟨hs5,hg5⟩:=hTr.put d (u := .slice ay P.orders.length capy) (y:=Y) (Ints.sub hY (fun k hk _=>hk)) hYne
      obtain⟨hfr,hcc⟩:=hTr.at d hdn
      have hcd:wr.cell? ⟨w.heap.size+1,d,none⟩=some (.slice none 0 0):=hcc.elim (fun h=>h.2) (fun h=>absurd (hC.out.2 d (by omega)) h.1)
      have hst:=(G.can_step (k:=P.orders.length-(d+1)) HI.out.1 hC.out.1 (by omega) HB.out.1 (hF.out.repTo hC.out.1 (by omega))).1
      have hC2:CanInv P H (gt b) (gt (dl.set d Y)) d:=hst.congr (fun i h1 h2=>by
       by_cases hi:i=d
       ·subst hi;rw[if_pos rfl,gt_set_eq _ _ _ (by rw[hT.len];omega)]
       ·rw[if_neg hi,gt_set_ne _ _ _ _ (fun h=>hi h.symm)])
      have HC2:Hid (CanInv P H (gt b) (gt (dl.set d Y)) d∧∀i,i<d→gt (dl.set d Y) i=[]):=Lib.hid ⟨hC2,fun i hi=>by rw[gt_set_ne _ _ _ _ (by omega)];exact hC.out.2 i (by omega)⟩
      have hg0n:Ext w0 (wr.setCell ⟨w.heap.size+1,d,none⟩ (.slice ay P.orders.length capy)):=grown_own (grown_trans hg hge) hg5 (fun j hj hlt=>by cases hj;have:=HS.out;omega)
      clear hcc hst hC2 hYV hTr hg5
      go_wp2
      go_roundw
      case rel=>exact⟨d,dl.set d Y,rfl,by omega,hg0n,hs5,HC2⟩
      case measure=>simp[intOf]
end Go.Proofs.YtdcobapnlpeaaaaGreat
namespace Go.Proofs.YtdcobapnlpeaaaaGreat
open Go.RowKit
set_option maxRecDepth 100000 in
set_option maxHeartbeats 2000000 in
theorem l12Strip_ok (P:Pr) (G:Grp P) (w:World) (pv tv xv:Value) (b:List (List Int)) (X:List Int) (Sp Sb Sx:Nat→Prop) (hpv:PresV Sp w pv P) (ht:Rows2 Sb w tv b) (hx:Ints Sx w xv X) (hX:Vec P.orders X)
  (hlb:b.length=P.orders.length) (htab:∀d,d<P.orders.length→gt b d≠[]→T P d (gt b d)∧gt (gt b d) d=1) :
  Calls Tryz.prog 214 #[pv,tv,xv] w (Ret w fun w' v=>∃(d:Nat) (r:Value) (Y:List Int),v=.tuple #[.int .i64 d,r]∧Own w.heap.size w' r Y∧StripTo P b X d Y∧d≤P.orders.length∧(d<P.orders.length→gt Y d≠0∧gt b d=[])):=by
 have hP:=G.v
 have hn6:=hP.n6
 obtain⟨vo,vp,vc,rfl,h3⟩:=hpv
 have hp0:=PresP.box h3 28
 have hg0:Ext w (w.alloc (.cells #[vo,vp,vc] 28)):=World.grownBy_alloc _ _ _
 have hx0:=hx.ext hg0
 have ht0:=Rows2.ext ht hg0
 have hXl:X.length≤6:=by rw[hX.1];omega
 have hs0:(w.alloc (.cells #[vo,vp,vc] 28)).heap.size=w.heap.size+1:=by simp
 obtain⟨at_,capt,hvt,_,_⟩:=Sl.shape ht
 rw[hlb] at hvt
 subst hvt
 have HI:=Lib.hid (And.intro htab (And.intro hX hlb));clear htab hX hlb
 obtain⟨vo6,vp6,vc6,_,_,hc0,hc1,hc2,h36⟩:=hp0.at
 simp only[Nat.zero_add] at hc1 hc2
 clear hp0
 go_enter Tryz.func214,Tryz.ntmps214
 go_wp2_with fail
 have HS:=Lib.hid hs0;clear hs0
 generalize hw0:w.alloc (.cells #[vo,vp,vc] 28)=w0 at *
 clear hw0
 refine Calls.mono (l01Own_ok w0 xv X Sx hx0 (by omega)) ?_
 rintro e1 w1 ⟨ov,rfl,hg1,hO1⟩
 go_wp2
 go_loopw [8,9] (fun ov iv wr=>∃(d:Nat) (Y:List Int),iv=.int .i64 d∧d≤P.orders.length∧Ext w0 wr∧Own w.heap.size wr ov Y∧Hid (StripTo P b X d Y)) (fun _ iv _=>P.orders.length-(intOf iv).toNat)
 case atStart=>exact⟨0,X,rfl,by omega,hg1,hO1.weak (by have:=HS.out;omega),Lib.hid (stripTo_zero HI.out.2.1)⟩
 case round=>
  clear hO1
  obtain⟨d,Y,rfl,hd,hg,hO,hR⟩:=hrel
  have hYV:=hR.out.vec.1
  have hYl:Y.length=P.orders.length:=hYV.1
  have hYi:=hO.ints (by omega)
  obtain⟨ay,capy,hvy,_,_⟩:=hYi.shape
  rw[hYl] at hvy
  subst hvy
  by_cases hlt:d<P.orders.length
  ·have hlt':(d:Int)<P.orders.length:=by omega
   obtain⟨bb,off,a2,cap2,rfl,_,_,hc,hr⟩:=Rows2.at (Rows2.ext ht0 hg) d (by rw[HI.out.2.2];exact hlt)
   obtain⟨by_,oy,rfl,_,_,hcy⟩:=Ints.at hYi d (by omega)
   by_cases hy:gt Y d=0
   ·have hyb:(gt Y d == 0)=true:=by simp[hy]
    have hR2:=Lib.hid (hR.out.skip hy);clear hYV hy
    go_wp2
    go_roundw
    case rel=>exact⟨d+1,Y,by go_num,by omega,hg,hO,hR2⟩
    case measure=>simp[intOf];omega
   ·have hyb:(gt Y d == 0)=false:=by simp[hy]
    by_cases hb:gt b d=[]
    ·have hbl:((((gt b d).length:Nat):Int) == 0)=true:=by rw[hb];rfl
     have HB:=Lib.hid (And.intro hb hy);clear hb hYV hy
     go_wp2
     go_ret2
     exact⟨_,rfl,grown_trans hg0 hg,d,_,Y,rfl,hO,hR.out,by omega,fun _=>⟨HB.out.2,HB.out.1⟩⟩
    ·have hbl:((((gt b d).length:Nat):Int) == 0)=false:=by
      have:0<(gt b d).length:=List.length_pos_iff.2 hb
      simp;omega
     have hyd:=hYV.2 d hlt
     have ho:=hP.ord7 d hlt
     have hwn:IntKind.i64.wrap (-(gt Y d)) = -(gt Y d):=IntWalk.i64_in _ (by omega)
     obtain⟨m2,m3⟩:=HI.out.1 d hlt hb
     have hR2:=Lib.hid (G.stripTo_step hlt hb ⟨m2,m3⟩ hy hR.out)
     have hpV:=G.pwZ_vec m2.1 (-(gt Y d))
     have hpl:(pwZ P (gt b d) (-(gt Y d))).length≤6:=by rw[hpV.1];omega
     have HB:=Lib.hid (And.intro m2.1 (And.intro hpV (And.intro hpl (And.intro hYV (And.intro hyd ho)))));clear m2 m3 hpV hpl hYV hyd ho hb hy
     have e1:∀w',Ext wr w'→w'.cell? ⟨w.heap.size,0,none⟩=some vo6:=fun w' h=>(grown_trans hg h).cell hc0 (by simp)
     have e2:∀w',Ext wr w'→w'.cell? ⟨w.heap.size,1,none⟩=some vp6:=fun w' h=>(grown_trans hg h).cell hc1 (by simp)
     have e3:∀w',Ext wr w'→w'.cell? ⟨w.heap.size,2,none⟩=some vc6:=fun w' h=>(grown_trans hg h).cell hc2 (by simp)
     have e4:∀w',Ext wr w'→w'.cell? ⟨bb,off+d,none⟩=some (.slice a2 (gt b d).length cap2):=fun w' h=>h.cell hc (by simp)
     have e5:∀w',Ext wr w'→w'.cell? ⟨by_,oy+d,none⟩=some (.int .i64 (gt Y d)):=fun w' h=>h.cell hcy (by simp)
     go_wp2
     clear hc hcy
     go_region_held3 (fun w'=>Ext wr w') (first|exact grown_drew _ _|assumption)
      (first
       | (go_at_call 106;refine Calls.mono (Calls.rel (w0:=wr) (by assumption) (l10Pow_ok P G _ _ _ (gt b d) _ Any Any ⟨_,_,_,rfl,Pres3.ext (Pres3.ext h36 hg) (by assumption)⟩ (Ints.sub (Ints.ext hr (by assumption)) (fun _ _ _=>trivial)) HB.out.1 (by have:=HB.out.2.2.2.2.1;have:=HB.out.2.2.2.2.2;omega))) ?_;rintro eA wA ⟨vA,rfl,hgA,hsA,hOA⟩;have hOA2:=hOA.ints (by have:=HB.out.2.2.1;omega))
       | (go_at_call 240;refine Calls.mono (Calls.rel (w0:=wr) (by assumption) (l08Mul_ok P hP _ _ _ _ Y _ Any Any Any ⟨_,_,_,rfl,Pres3.ext (Pres3.ext h36 hg) (by assumption)⟩ (Ints.sub (Ints.ext hYi (by assumption)) (fun _ _ _=>trivial)) hOA2 HB.out.2.2.2.1 HB.out.2.1)) ?_;rintro eB wB ⟨vB,rfl,hgB,hsB,hOB⟩))
     clear e1 e2 e3 e4 e5
     go_wp2
     go_roundw
     case rel=>exact⟨d+1,_,by go_num,by omega,grown_trans hg hgB,hOB.weak (by have:=hg.size;have:=HS.out;omega),hR2⟩
     case measure=>simp[intOf];omega
  ·have hde:d=P.orders.length:=by omega
   subst hde
   go_wp2
   go_ret2
   exact⟨_,rfl,grown_trans hg0 hg,_,_,Y,rfl,hO,hR.out,by omega,fun h=>absurd h (by omega)⟩
end Go.Proofs.YtdcobapnlpeaaaaGreat
namespace Go.Proofs.YtdcobapnlpeaaaaGreat
theorem genP_self {P:Pr}{H:List Int→Prop} (S:Sub P H):genP P H=H:=
 funext fun _=>propext ⟨fun h=>h H S (fun _ hy=>hy),fun h=>genP_mem h⟩
theorem genP_or (P:Pr) (Q L:List Int→Prop):genP P (fun x=>genP P Q x∨L x)=genP P (fun x=>Q x∨L x):=
 funext fun _=>propext ⟨fun h K S hQ=>h K S (fun y hy=>hy.elim (fun h=>h K S (fun z hz=>hQ z (.inl hz))) (fun h=>hQ y (.inr h))),
  fun h K S hQ=>h K S (fun y hy=>hy.elim (fun h=>hQ y (.inl (genP_mem h))) (fun h=>hQ y (.inr h)))⟩
theorem Sub.and {P:Pr}{H K:List Int→Prop} (S:Sub P H) (R:Sub P K):Sub P (fun x=>H x∧K x):=
 ⟨fun _ h=>S.vec _ h.1,⟨S.one,R.one⟩,fun _ _ h k=>⟨S.mul _ _ h.1 k.1,R.mul _ _ h.2 k.2⟩,fun _ h=>⟨S.inv _ h.1,R.inv _ h.2⟩⟩
theorem Grp.genP_none {P:Pr} (G:Grp P):genP P (fun _=>False)=fun x=>x=zeros P.orders.length:=
 funext fun _=>propext ⟨fun h=>h _ G.sub_one (fun _ h=>h.elim),fun h K S _=>by rw[h];exact S.one⟩
theorem Grp.genP_cseq {P:Pr} (G:Grp P) {H:List Int→Prop} (S:Sub P H):genP P (fun x=>x∈cseq P H)=H:=by
 have hm:=G.seq_facts S
 have hV:∀y,y∈cseq P H→Vec P.orders y:=fun y hy=>S.vec y (hm.2.1 y hy)
 refine funext fun x=>propext ⟨fun h=>h H S hm.2.1,fun h => ?_⟩
 exact elsP_sub (G.genP_sub hV) (fun z hz=>genP_mem hz) _ (Nat.le_refl _) x ((G.elsP_mem S hm.1 hm.2.1 hm.2.2 x).2 h)
theorem Grp.subB {P:Pr} (G:Grp P) {u:List (List Int)} (h:SubB P u):Sub P (genP P (fun x=>x∈u)):=G.genP_sub h.1
theorem Grp.subB_cseq {P:Pr} (G:Grp P) {H:List Int→Prop} (S:Sub P H):SubB P (cseq P H):=
 ⟨fun x hx=>S.vec x ((G.seq_facts S).2.1 x hx),by rw[G.genP_cseq S]⟩
end Go.Proofs.YtdcobapnlpeaaaaGreat
