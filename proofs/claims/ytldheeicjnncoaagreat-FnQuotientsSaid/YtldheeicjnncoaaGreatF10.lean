/- Merged from templates. -/
import Derived.Test.YtldheeicjnncoaaGreatF9
import Derived.Lib.AppendZeros
import Derived.Deep.DrawnRows
import Derived.Deep.MidRow
set_option maxRecDepth 100000
set_option maxHeartbeats 8000000
namespace Go.Proofs.YtldheeicjnncoaaGreat
open Go.RowKit
noncomputable def qIm (P:Pr) (U:List (List Int)):List (List Int):=(gensOf P.orders.length).map (prjV P U)
theorem qIm_len (P:Pr) (U:List (List Int)):(qIm P U).length=P.orders.length:=by unfold qIm;rw[List.length_map,gensOf_len]
section
variable {P Q:Pr}(G:Grp P) (GQ:Grp Q) {F:List Int->List Int}(HF:HomF P Q F)
include G GQ HF
theorem HomF.back {H:List Int->Prop}(S:Sub Q H):Sub P (λx=>Vec P.orders x/\H (F x)):=
 ⟨λx hx=>hx.1,⟨G.oneV,by rw[HomF.one G GQ HF];exact S.one⟩,λx y hx hy=>⟨G.mulV hx.1 hy.1,by rw[HF.mul x y hx.1 hy.1];exact S.mul _ _ hx.2 hy.2⟩,
  λx hx=>⟨G.invV hx.1,by rw[HomF.inv G GQ HF hx.1];exact S.inv _ hx.2⟩⟩
theorem HomF.img {L:List (List Int)}(a:∀x∈L,Vec P.orders x) {x:List Int}(hx:gU P L x):gU Q (L.map F) (F x):=by
 have b:Sub Q (gU Q (L.map F)):=GQ.genP_sub (λz e=>by obtain⟨y,hy,rfl⟩:=List.mem_map.1 e;exact HF.vec _ (a y hy));exact(hx _ (HomF.back G GQ HF b) (λy hy=>⟨a y hy,genP_mem (List.mem_map_of_mem hy)⟩)).2
end
section
variable {P:Pr}{U:List (List Int)}(hr:rconsB P=true) (hU:SubB P U) (hn:NormP P (gU P U))
include hr hU hn
theorem q_hom:HomF P (quoP P U) (prjV P U):=⟨λ_ hx=>prj_vec hr hU hx,λ_ _ hx hy=>prj_mul (grp_of_r hr) hr hU hn hx hy⟩
theorem q_homB:HomB P (quoP P U) (qIm P U):=HomF.homB (grp_of_r hr) (grp_of_r (quo_cons (grp_of_r hr) hr hU hn)) (q_hom hr hU hn) hr (quo_cons (grp_of_r hr) hr hU hn)
theorem q_val {X:List Int}(a:Vec P.orders X):prodR (quoP P U) (qIm P U) X (qIm P U).length=prjV P U X:=HomF.val (grp_of_r hr) (grp_of_r (quo_cons (grp_of_r hr) hr hU hn)) (q_hom hr hU hn) a
theorem prj_one {X:List Int}(a:Vec P.orders X):prjV P U X=zeros (quoP P U).orders.length↔gU P U X:=by
 have G:=grp_of_r hr;have h1:prjV P U (zeros P.orders.length)=zeros (quoP P U).orders.length:=HomF.one G (grp_of_r (quo_cons G hr hU hn)) (q_hom hr hU hn);rw[<-h1];have h:=prj_eq G hr hU G.oneV a;rw[eq_comm,h]
 have e:rMul P (rInv P (zeros P.orders.length)) X=X:=by
  have b:rInv P (zeros P.orders.length)=zeros P.orders.length:=G.inv_one;rw[b];exact G.grp.el _ a
 rw[e]
theorem q_ker:kerC P (quoP P U) (qIm P U)=0/\kerL P (quoP P U) (qIm P U)=U:=by
 have G:=grp_of_r hr;have h:=ker_yes (q_homB hr hU hn);refine⟨h.1,?_⟩;rw[h.2]
 have e:backP P (quoP P U) (qIm P U) (λx=>x=zeros (quoP P U).orders.length)=gU P U:=by
  funext x
  refine propext ⟨λhx => ?_,λhx => ?_⟩
  ·have b:=hx.2
   rw[q_val hr hU hn hx.1] at b;exact(prj_one hr hU hn hx.1).1 b
  ·have a:Vec P.orders x:=(G.subB hU).vec x hx
   exact⟨a,by show prodR _ _ _ _=_;rw[q_val hr hU hn a];exact(prj_one hr hU hn a).2 hx⟩
 rw[e,genP_self (G.subB hU)];exact hU.2.symm
theorem q_img:(cseq (quoP P U) (gU (quoP P U) (qIm P U))).length=(quoP P U).orders.length:=by
 have G:=grp_of_r hr;have GQ:=grp_of_r (quo_cons G hr hU hn);have h:gU (quoP P U) (qIm P U)=Vec (quoP P U).orders:=HomF.onto G GQ (q_hom hr hU hn) (λy hy=>⟨liftV P U y,(lift_zr G.v hy).1,prj_lift G hr hU hy⟩);have a:Vec (quoP P U).orders=T (quoP P U) 0:=funext λx=>propext T_zero.symm
 have h1:cseq (quoP P U) (Vec (quoP P U).orders)=tlG (quoP P U) 0:=by
  have h:=(tl_sub GQ (Nat.zero_le _)).2;rw[a,<-tl_gen GQ (Nat.zero_le _)];exact h.symm
 rw[h,h1,tl_len,Nat.sub_zero]
omit hn in
theorem q_size:ordP (quoP P U)*prodU P U U.length=ordP P:=by
 have G:=grp_of_r hr;rw[ord_quo G];exact G.ix_mul hU
section
variable {W:List (List Int)}(hW:SubB (quoP P U) W)
include hW
noncomputable def liL (P:Pr) (U W:List (List Int)):List (List Int):=U++W.map (liftV P U)
omit hr hU hn hW in
theorem li_vec (hr:rconsB P=true) (hU:SubB P U) (hW:SubB (quoP P U) W):∀x∈liL P U W,Vec P.orders x:=λx hx=>by
 rcases List.mem_append.1 hx with h|h
 ·exact hU.1 x h
 ·obtain ⟨y,hy,rfl⟩:=List.mem_map.1 h
  exact(lift_zr (grp_of_r hr).v (hW.1 y hy)).1
omit hn in
theorem li_sub:SubB P (cseq P (gU P (liL P U W))):=(grp_of_r hr).subB_cseq ((grp_of_r hr).genP_sub (li_vec hr hU hW))
omit hn in
theorem li_gen:gU P (cseq P (gU P (liL P U W)))=gU P (liL P U W):=(grp_of_r hr).genP_cseq ((grp_of_r hr).genP_sub (li_vec hr hU hW))
omit hn in
theorem li_in:∀x∈U,gU P (cseq P (gU P (liL P U W))) x:=λx hx=>by
 rw[li_gen hr hU hW];exact genP_mem (List.mem_append.2 (.inl hx))
theorem li_back:cseq (quoP P U) (gU (quoP P U) ((cseq P (gU P (liL P U W))).map (prjV P U)))=W:=by
 have G:=grp_of_r hr;have GQ:=grp_of_r (quo_cons G hr hU hn);have HF:=q_hom hr hU hn;have hV:=li_sub hr hU hW;have SW:=GQ.subB hW
 have e:gU (quoP P U) ((cseq P (gU P (liL P U W))).map (prjV P U))=gU (quoP P U) W:=by
  funext y
  refine propext ⟨λhy=>hy _ SW (λz a => ?_),λhy=>hy _ (GQ.genP_sub (λz a => ?_)) (λz a => ?_)⟩
  ·obtain ⟨x,hx,rfl⟩:=List.mem_map.1 a
   have h1:gU P (liL P U W) x:=by
    rw[<-li_gen hr hU hW];exact genP_mem hx
   refine(h1 _ (HomF.back G GQ HF SW) (λz a=>⟨li_vec hr hU hW z a,?_⟩)).2;rcases List.mem_append.1 a with h|h
   ·rw[(prj_one hr hU hn (hU.1 z h)).2 (genP_mem h)];exact SW.one
   ·obtain ⟨i,hy2,rfl⟩:=List.mem_map.1 h
    rw[prj_lift G hr hU (hW.1 i hy2)];exact genP_mem hy2
  ·obtain ⟨x,hx,rfl⟩:=List.mem_map.1 a
   exact HF.vec _ (hV.1 x hx)
  ·have h1:gU P (cseq P (gU P (liL P U W))) (liftV P U z):=by
    rw[li_gen hr hU hW];exact genP_mem (List.mem_append.2 (.inr (List.mem_map_of_mem a)))
   have b:=HomF.img G GQ HF hV.1 h1;rw[prj_lift G hr hU (hW.1 z a)] at b;exact b
 rw[e];exact hW.2.symm
end
end
def ByteEl (_:World) (u:Value) (x:Int):Prop:=u=.int .u8 x/\0<=x/\x<=255
abbrev Bytes (S:Nat->Prop) (w:World) (v:Value) (l:List Int):Prop:=Sl ByteEl S w v l
theorem Bytes.at {S:Nat->Prop}{w:World}{a:Option Addr}{n cap:Nat}{xs:List Int}(h:Sl ByteEl S w (.slice a n cap) xs) (i:Nat) (hi:i<xs.length) :
  ∃b off,a=some ⟨b,off,none⟩/\S b/\b<w.heap.size/\w.cell? ⟨b,off+i,none⟩=some (.int .u8 (gt xs i))/\0<=gt xs i/\gt xs i<=255:=by
 obtain⟨b,off,u,h1,h2,h3,j,e⟩:=h.at i hi;obtain⟨e,h6⟩:u=.int .u8 (gt xs i)/\0<=gt xs i/\gt xs i<=255:=e;exact⟨b,off,h1,h2,h3,by rw[j,e],h6⟩
theorem Bytes.mono {S S':Nat->Prop}{w w':World}{v:Value}{xs:List Int}(h:Bytes S w v xs) (a:∀k,S k->k<w.heap.size->S' k/\k<w'.heap.size/\w'.heap[k]? = w.heap[k]?):Bytes S' w' v xs:=Sl.mono h a (λ_ _ h=>h)
theorem Bytes.ext {S:Nat->Prop}{w w':World}{v:Value}{xs:List Int}(h:Bytes S w v xs) (a:Ext w w'):Bytes S w' v xs:=h.mono (frame_ext a)
theorem grown_set (w:World) (b j:Nat) (v:Value):w.grownBy (w.setCell ⟨b,j,none⟩ v) (some b):=⟨rfl,rfl,rfl,by simp[World.setCell],λk _ hk=>Below.heap_setCell _ _ _ _ (by intro e;exact hk (by rw[e]))⟩
def Src (b:Nat) (w:World) (sb:Nat):Prop:=∃(cv:Value) (pos a:Nat) (bs:List Int),Box3 w sb cv (.int .i64 pos) (.int .i64 a)/\Bytes (λk=>k≠sb/\k<b) w cv bs/\pos<=bs.length/\a<2147483647/\sb<b
theorem Src.keep {b:Nat}{w w':World}{sb:Nat}(h:Src b w sb) (e:w.heap.size<=w'.heap.size) (i:∀k,k<b->k<w.heap.size->w'.heap[k]? = w.heap[k]?):Src b w' sb:=by
 obtain⟨cv,pos,seed,bs,h1,h2,h3,h4,j⟩:=h;exact⟨cv,pos,seed,bs,h1.keep e (i sb j h1.1),Sl.mono h2 (λk hk a=>⟨hk,Nat.lt_of_lt_of_le a e,i k hk.2 a⟩) (λ_ _ h=>h),h3,h4,j⟩
theorem Src.ext {b:Nat}{w w':World}{sb:Nat}(h:Src b w sb) (e:Ext w w'):Src b w' sb:=h.keep e.size (λk _ a=>e.block k a (by simp))
theorem Src.own {a:Nat}{w w':World}{sb:Nat}{r:Option Nat}(h:Src a w sb) (i:w.grownBy w' r) (hr:∀k,r=some k->a<=k):Src a w' sb:=
 h.keep i.size (λk hk b=>i.block k b (λe=>by have:=hr k e.symm;omega))
theorem Src.lt {a:Nat}{w:World}{sb:Nat}(h:Src a w sb):sb<a/\sb<w.heap.size:=by
 obtain⟨cv,pos,seed,bs,h1,h2,h3,h4,h5⟩:=h;exact⟨h5,h1.1⟩
def NextR (a sb:Nat) (n:Int) (w':World) (v:Value):Prop:=∃x:Int,v=.int .i64 x/\(n<=1->x=0)/\(1<n->0<=x/\x<n)/\Src a w' sb
theorem l01Next_ok (Q:Nat) (w:World) (sb:Nat) (n:Int) (h:Src Q w sb) :
  Calls Tryz.prog 111 #[.pointer (some ⟨sb,0,none⟩),.int .i64 n] w (Mut w (some sb) (NextR Q sb n)):=by
 have Y:=h;obtain⟨cv,pos,E,bs,hB,hby,hpos,hseed,hlt⟩:=h;by_cases hn:n<=1
 ·go_enter Tryz.func111,Tryz.ntmps111
  go_wp2;go_ret;exact⟨_,rfl,grown_refl _ _,0,rfl,λ_=>rfl,λh=>by omega,Y⟩
 ·have ab:1<n:=by omega
  obtain⟨a,cap,rfl,_,hlen⟩:=hby.shape;obtain⟨l,hs2⟩:∃l:Nat,l=(E*48271+71)%2147483647:=⟨_,rfl⟩;have r:l<2147483647:=by omega
  have J:((E:Int)*48271+71)%2147483647=(l:Int):=by omega
  have u:=(hB.put (.int .i64 (l:Nat))).2.2;obtain⟨G,h1,h2,h3,h4⟩:=id hB;go_enter Tryz.func111,Tryz.ntmps111;have y:w.grownBy (w.setCell ⟨sb,2,none⟩ (.int .i64 (l:Nat))) (some sb):=grown_set _ _ _ _;have m:Bytes (λk=>k≠sb/\k<Q) (w.setCell ⟨sb,2,none⟩ (.int .i64 (l:Nat))) (.slice a bs.length cap) bs:=Bytes.mono hby (frame_of y (λk hk _=>⟨hk,λe=>hk.1 (by cases e;rfl)⟩));have K:=Lib.hid (And.intro u (And.intro y m));clear u hB hs2 hby Y y m;go_wp2;clear G h1 h2 h3 h4 J;obtain⟨u,y,m⟩:=K.out;clear K;generalize w.setCell ⟨sb,2,none⟩ (.int .i64 (l:Nat))=H at *;obtain⟨G,h1,h2,h3,h4⟩:=id u;have i:=Lib.hid (And.intro u (And.intro y m));clear u y m;by_cases hp:pos<bs.length
  ·obtain ⟨b,off,rfl,⟨j6,hbB⟩,hbl,z,U,V⟩:=Bytes.at i.out.2.2 pos hp
   obtain⟨x,hx⟩:∃x,x=gt bs pos:=⟨_,rfl⟩;rw[<-hx] at z U V;have HX:=Lib.hid hx;clear hx;have ad:(pos:Int)<bs.length:=by omega
   have ae:(0:Int)<=pos:=by omega
   have af:0<=(l:Int)/47/\(l:Int)/47<=45691142:=by omega
   have W:IntKind.i64.wrap ((l:Int)/47+x)=(l:Int)/47+x:=IntWalk.i64_in _ (by omega);go_quiet (fail)
   go_wp2;have j:Ext H (H.drewN nq):=grown_drewN _ _ _;have F:=j.cell z (by simp);have L:sb<(H.drewN nq).heap.size:=Nat.lt_of_lt_of_le G j.size;have C:=And.intro (i.out.1.ext j) (And.intro (grown_trans i.out.2.1 (grown_of_ext (some sb) j)) (Bytes.ext i.out.2.2 j));have i:=Lib.hid C;clear C j z G h1 h2 h3 h4;obtain⟨h1,h2,h3,h4⟩:=i.out.1.2;generalize H.drewN nq=R at *;go_quiet (fail)
   have j:Ext R (R.drewN nq):=grown_drewN _ _ _;have z:=j.cell F (by simp);have G:sb<(R.drewN nq).heap.size:=Nat.lt_of_lt_of_le L j.size;have C:=And.intro (i.out.1.ext j) (And.intro (grown_trans i.out.2.1 (grown_of_ext (some sb) j)) (Bytes.ext i.out.2.2 j));have i:=Lib.hid C;clear C j F L h1 h2 h3 h4;obtain⟨h1,h2,h3,h4⟩:=i.out.1.2;generalize R.drewN nq=M at *;have A:=(i.out.1.put (.int .i64 ((pos:Int)+1))).2.1;have B:M.grownBy (M.setCell ⟨sb,1,none⟩ (.int .i64 ((pos:Int)+1))) (some sb):=grown_set _ _ _ _;have p:Bytes (λk=>k≠sb/\k<Q) (M.setCell ⟨sb,1,none⟩ (.int .i64 ((pos:Int)+1))) (.slice (some ⟨b,off,none⟩) bs.length cap) bs:=Bytes.mono i.out.2.2 (frame_of B (λk hk _=>⟨hk,λe=>hk.1 (by cases e;rfl)⟩));have D:(M.setCell ⟨sb,1,none⟩ (.int .i64 ((pos:Int)+1))).cell? ⟨b,off+pos,none⟩=some (.int .u8 x):=(World.cell?_setCell_other _ _ _ _ (by first|exact λe=>j6 (congrArg Addr.block e)|exact λe=>j6 (congrArg Addr.block e).symm)).trans z;have q:=Lib.hid (And.intro A (And.intro (grown_trans i.out.2.1 B) (And.intro p D)));clear A B p D i W;have X:IntKind.i64.wrap ((pos:Int)+1)=(pos:Int)+1:=IntWalk.i64_in _ (by omega);by_cases S:n<=256/\((pos:Int)+1)%2=0
   ·obtain ⟨N,O⟩:=S
    go_wp2;clear G h1 h2 h3 h4 X z;obtain⟨A,B,p,D⟩:=q.out;have Z:IntKind.i64.wrap ((pos:Int)+1-1)=(pos:Int):=by rw[show(pos:Int)+1-1=(pos:Int) by omega];exact IntWalk.i64_in _ (by omega)
    clear q;generalize M.setCell ⟨sb,1,none⟩ (.int .i64 ((pos:Int)+1))=w4 at *;obtain⟨G,h1,h2,h3,h4⟩:=id A;have i:=Lib.hid (And.intro A (And.intro B p));clear A B p;go_quiet (fail)
    have j:Ext w4 (w4.drewN nq):=grown_drewN _ _ _;have I:0<=x%n/\x%n<n:=⟨Int.emod_nonneg _ (by omega),Int.emod_lt_of_pos _ (by omega)⟩;go_wp2;go_ret;exact⟨_,rfl,grown_trans i.out.2.1 (grown_of_ext _ j),_,rfl,λh=>by omega,λ_=>I,_,pos+1,l,bs,i.out.1.ext j,i.out.2.2.ext j,by omega,r,hlt⟩
   ·have I:0<=((l:Int)/47+x)%n/\((l:Int)/47+x)%n<n:=⟨Int.emod_nonneg _ (by omega),Int.emod_lt_of_pos _ (by omega)⟩
    by_cases N:n<=256
    ·have O:(((pos:Int)+1)%2 == 0)=false:=by simp;exact λh=>S ⟨N,h⟩
     clear S;go_wp2;go_ret;exact⟨_,rfl,q.out.2.1,_,rfl,λh=>by omega,λ_=>I,_,pos+1,l,bs,q.out.1,q.out.2.2.1,by omega,r,hlt⟩
    ·clear S
     go_wp2;go_ret;exact⟨_,rfl,q.out.2.1,_,rfl,λh=>by omega,λ_=>I,_,pos+1,l,bs,q.out.1,q.out.2.2.1,by omega,r,hlt⟩
  ·go_quiet (fail)
   go_wp2;have j:Ext H (H.drewN nq):=grown_drewN _ _ _;have I:0<=(l:Int)/47%n/\(l:Int)/47%n<n:=⟨Int.emod_nonneg _ (by omega),Int.emod_lt_of_pos _ (by omega)⟩;go_ret;exact⟨_,rfl,grown_trans i.out.2.1 (grown_of_ext _ j),_,rfl,λh=>by omega,λ_=>I,_,pos,l,bs,i.out.1.ext j,i.out.2.2.ext j,hpos,r,hlt⟩
theorem und_int:Tryz.prog.underlying 3=some (.int .i64):=by kernel_rfl
theorem zeroCells_toList (m:Nat):(Builtin.zeroCells #[Value.int .i64 0] m).toList=(List.replicate m (0:Int)).map (Value.int .i64):=by
 apply List.ext_getElem
 ·simp[Builtin.zeroCells]
 ·intro i h1 a
  simp[Builtin.zeroCells,Nat.mod_one]
theorem run_app_zeros (w:World) (base:Nat) (v:Value) (l:List Int) (i:Own base w v l) (U:TypeId) (m:Nat) (V:l.length+m<=2147483648) (j:base<=w.heap.size) :
  ∃v' w',(Builtin.append_ #[24,3] U #[v,.int .i64 m]).run Tryz.prog w=.ok v' w'/\Own base w' v' (l++List.replicate m 0)/\w.grownBy w' v.ownBlock:=by
 obtain⟨O,hi,D,hz1,E⟩:=info_parts Tryz.infoInt;have I:=und_ints;have p:=und_int;have W:IntKind.i64.wrap (m:Int)=m:=IntWalk.i64_in _ (by omega);have J:IntKind.i64.wrap 0=0:=IntWalk.i64_in _ (by omega);have B:¬((m:Int)<0):=by omega
 have C:¬(281474976710656<(m:Int)*(O.bytes:Int)):=by rw[E];omega
 have z:(Value.int IntKind.i64 0).cells = #[Value.int IntKind.i64 0]:=rfl;have q:=zeroCells_toList m;have A:(Builtin.zeroCells #[Value.int .i64 0] m).toList.length=m:=by rw[q];simp
 have r:=i;obtain⟨Q,i⟩:=i;rcases i with⟨rfl,hn⟩|⟨g,cap,a,rfl,hbg,X,hnc,F,hcs,y⟩
 ·have R:l=[]:=List.eq_nil_of_length_eq_zero hn
  subst R;by_cases H:m=0
  ·subst H
   refine⟨.slice none 0 0,w,?_,World.ownsRow_nil _ _ _ _,grown_refl _ _⟩;simp[Builtin.append_,run_underlying I,run_underlying p,sizeOf,typeInfo,hi,asInt,asIntOf,J]
  ·have hr:=Lib.run_append_nil_zeros (P:=Tryz.prog) w 24 3 U 2 O (.int .i64 0) .i64 .i64 I p hi D m (by omega) (by omega) (by omega) (by rw[E];omega)
   refine⟨_,_,hr,?_,⟨rfl,rfl,rfl,by simp,λk hk _=>heap_alloc_old w.drew _ hk⟩⟩;have G:=grownCap_ge w m 0 2;have F:grownCap w m 0 2<=maxLen:=grownCap_le_maxLen w m 0 2 (by unfold maxLen;omega);have Y:(([]:List Int)++List.replicate m 0).length=m:=by simp
   refine⟨by simp,.inr ⟨w.heap.size,_,_,by rw[Y],j,heap_alloc_new w.drew _,by rw[Y];exact G,F,?_,?_⟩⟩
   ·rw [Array.size_append,z,<-Array.length_toList,A,<-Array.length_toList,zeroCells_toList]
    simp;omega
   ·rw [Array.toList_append,z,q,List.nil_append]
    simp
 ·by_cases b:l.length+m<=cap
  ·by_cases H:m=0
   ·subst H
    refine⟨_,w,?_,by simpa using r,grown_refl _ _⟩;simp[Builtin.append_,run_underlying I,run_underlying p,sizeOf,typeInfo,hi,asInt,asIntOf,J,hnc,storeCells]
   ·have K:=run_storeCells_at (P:=Tryz.prog) g (l.length*1) 2 (Builtin.zeroCells #[Value.int .i64 0] m).toList 0 a w X (by rw[A];omega) (by rw[q];intro u hu;obtain⟨x,_,rfl⟩:=List.mem_map.1 hu;rfl)
    simp only[Nat.add_zero,Nat.mul_one] at K;rw[Nat.mul_one] at y;refine⟨.slice (some ⟨g,0,none⟩) (l.length+m) cap,w.setRow g (a.toList.take l.length++(Builtin.zeroCells #[Value.int .i64 0] m).toList++a.toList.drop (l.length+(Builtin.zeroCells #[Value.int .i64 0] m).toList.length)).toArray,?_,⟨by simp,.inr ⟨g,cap,_,by simp,hbg,setRow_heap w g a _ _ _ X,by simp;exact b,F,?_,?_⟩⟩,⟨rfl,rfl,rfl,by simp,λk _ hk=>setRow_other w g k _ (λe=>hk (by simp[Value.ownBlock,e]))⟩⟩
    ·generalize a.toList.take l.length++(Builtin.zeroCells #[Value.int .i64 0] m).toList++a.toList.drop (l.length+(Builtin.zeroCells #[Value.int .i64 0] m).toList.length)=Z at *
     simp[Builtin.append_,run_underlying I,run_underlying p,sizeOf,typeInfo,zeroValue,hi,D,hz1,asInt,asIntOf,W,B,C,b,H,z,Addr.add_lit,K]
    ·have S:a.toList.length=cap:=by rw[Array.length_toList];omega
     simp only[List.size_toArray,List.length_append,List.length_take,List.length_drop,A,S];omega
    ·rw [y,q]
     simp only[List.length_append,List.length_replicate,Nat.mul_one,List.map_append];exact List.take_left' (by simp)
  ·have H:m≠0:=by omega
   have holds:=r.cells (g:=g) rfl;have hf:=run_firstCells_some (P:=Tryz.prog) w.drew 1 l.length ⟨g,0,none⟩ l.length cap (l.map (Value.int .i64)) Q (by simpa using holds);have L:¬(9223372036854775807<((l.length:Int)+(m:Int))):=by omega
   have M:¬(281474976710656<Builtin.nextslicecap (l.length+m) cap*O.bytes):=by
    rw[E];have:=nextslicecap_le (show cap<l.length+m by omega);omega
   refine⟨.slice (some ⟨w.heap.size,0,none⟩) (l.length+m) (grownCap w (l.length+m) cap 2),w.drew.alloc (.cells ((l.map (Value.int .i64)).toArray++Builtin.zeroCells #[Value.int .i64 0] m++Builtin.zeroCells #[Value.int .i64 0] (grownCap w (l.length+m) cap 2-(l.length+m))) 2),?_,?_,⟨rfl,rfl,rfl,by simp,λk hk _=>heap_alloc_old w.drew _ hk⟩⟩
   ·simp [Builtin.append_,run_underlying I,run_underlying p,sizeOf,typeInfo,zeroValue,hi,D,hz1,asInt,asIntOf,W,B,C,b,H,z,L,M,Question.forced,hf,newRow,grownCap]
    done
   ·have G:=grownCap_ge w (l.length+m) cap 2
    have N:grownCap w (l.length+m) cap 2<=maxLen:=grownCap_le_maxLen w (l.length+m) cap 2 (by unfold maxLen;omega);refine⟨by simp,.inr ⟨w.heap.size,_,_,by simp,j,heap_alloc_new w.drew _,by simp;exact G,N,?_,?_⟩⟩
    ·simp only[Array.size_append]
     rw[<-Array.length_toList (xs:=Builtin.zeroCells #[Value.int .i64 0] m),A,<-Array.length_toList (xs:=Builtin.zeroCells #[Value.int .i64 0] _),zeroCells_toList];simp;omega
    ·rw [Array.toList_append,Array.toList_append,q]
     simp only[List.length_append,List.length_replicate,Nat.mul_one,List.map_append];exact List.take_left' (by simp)
theorem wp_app_zeros {ops:Array Oper}{rest:List Oper}{o:Oper}{a:Act}{Q:Exit->Act->World->Prop}{w:World}(j:o.guard=none) (s x:Operand)
  (k:o.op=Op.call { callee:=Callee.builtin Builtin.append,args := #[s,x],argTypes := #[24,3] }) (base:Nat) (v:Value) (l:List Int) (p:a.eval s=v) (e:Own base w v l) (m:Nat) (hx:a.eval x=.int .i64 m)
  (i:l.length+m<=2147483648) (b:base<=w.heap.size)
  (h:∀v' w',Own base w' v' (l++List.replicate m 0)->w.grownBy w' v.ownBlock->wpList Tryz.prog ops Q rest (a.put o.dst v') w') :
  wpList Tryz.prog ops Q (o :: rest) a w:=by
 obtain⟨v',w',hr,h1,q⟩:=run_app_zeros w base v l e o.type m i b;exact Lib.wpList_append_run w j s x _ _ k _ _ p hx v' w' hr (h v' w' h1 q)
theorem l01Pick_ok (r:Nat) (w:World) (sb:Nat) (y:Value) (L:List Int) (S:Nat->Prop) (h:Src r w sb) (u:Ints S w y L) (z:∀k,S k->k≠sb) (C:0<L.length) (E:L.length<=1000) :
  Calls Tryz.prog 182 #[.pointer (some ⟨sb,0,none⟩),y] w (Mut w (some sb) λw' v=>∃i,i<L.length/\v=.int .i64 (gt L i)/\Src r w' sb):=by
 obtain⟨a,cap,rfl,_,_⟩:=u.shape;have j:=l01Next_ok r w sb L.length h;have A:=Lib.hid (And.intro u z);clear u z h;go_enter Tryz.func182,Tryz.ntmps182;go_wp2_with fail
 refine Calls.mono j ?_;rintro F G ⟨v1,rfl,l,x,rfl,m,p,q⟩;clear j;obtain⟨i,hi,hil⟩:∃i:Nat,x=i/\i<L.length:=⟨x.toNat,by omega,by omega⟩;subst hi;have B:(i:Int)<L.length:=by omega
 obtain⟨b,off,rfl,j7,_,hc⟩:=Ints.at (Ints.mono A.out.1 (frame_of l (λk hk _=>⟨hk,λe=>A.out.2 k hk (by cases e;rfl)⟩))) i hil;have D:=Lib.hid (And.intro m (And.intro p q));clear m p q;go_wp2;go_ret;exact⟨_,rfl,l,i,hil,rfl,D.out.2.2⟩
def shiftL (b:Nat) (v:List Int) (a:Nat):List Int:=(List.replicate b 0++v)++List.replicate a 0
theorem shiftL_len (b:Nat) (v:List Int) (a:Nat):(shiftL b v a).length=b+v.length+a:=by unfold shiftL;simp;omega
theorem l07Shift_ok (w:World) (b:Nat) (z:Value) (v:List Int) (a:Nat) (S:Nat->Prop) (A:Ints S w z v) (E:b+v.length+a<=1000) :
  Calls Tryz.prog 330 #[.int .i64 b,z,.int .i64 a] w (Ret w λw' r=>Own w.heap.size w' r (shiftL b v a)):=by
 obtain⟨F,capv,rfl,_,_⟩:=A.shape;go_enter Tryz.func330,Tryz.ntmps330
 go_wp2_with (first
  | (at_make;refine wp_make_ints rfl _ _ rfl w.heap.size b w.heap.size rfl _ rfl rfl rfl (by omega) (Nat.le_refl _) ?_;intro G m e B)
  | (at_builtin;refine wp_app_ints rfl _ _ rfl w.heap.size _ (List.replicate b 0) rfl m _ v rfl S (A.ext e) (by simp;omega) e.size ?_;intro v2 C i k _;have D:(List.replicate b (0:Int)++v).length<=1000:=by simp;omega)
  | (at_builtin;refine wp_app_zeros rfl _ _ rfl w.heap.size v2 (List.replicate b 0++v) rfl i a rfl (by simp;omega) (by have:=e.size;have:=k.size;omega) ?_;intro v3 H l p))
 have q:(shiftL b v a).length<=9223372036854775807:=by rw[shiftL_len];omega
 obtain⟨I,c3,hv3,_⟩:=(l.ints q).shape;subst hv3;go_wp2;go_ret;refine⟨_,rfl,?_,l⟩;have h1:Ext w C:=grown_own e k (λj u y=>by have:=own_blk u;omega);exact grown_own h1 p (λj u y=>by have:=(i.lt j u).1;omega)
theorem l07Digits_ok (w:World) (F:Value) (o:List Int) (k:Nat) (x:Int) (S:Nat->Prop) (G:Ints S w F o) (V:o.length<=1000) (H:∀i,i<o.length->1<=gt o i/\gt o i<=7) (hx:0<=x/\x<=1000000000) :
  Calls Tryz.prog 318 #[F,.int .i64 k,.int .i64 x] w (Ret w λw' r=>∃l,l.length=o.length/\Own w.heap.size w' r l):=by
 obtain⟨W,capo,rfl,_,_⟩:=G.shape;have I:=Lib.hid (And.intro H G);clear H;go_enter Tryz.func318,Tryz.ntmps318;go_wp2_with (at_make;refine wp_make_ints rfl _ _ rfl w.heap.size o.length w.heap.size rfl _ rfl rfl rfl (by omega) (Nat.le_refl _) ?_;intro X u z A)
 go_loopw [2,8] (λK C wr=>∃(i:Nat) (y:Int) (l:List Int),C=.int .i64 i/\K=.int .i64 y/\0<=y/\y<=1000000000/\l.length=o.length/\Ext w wr/\Own w.heap.size wr (.slice (some ⟨w.heap.size,0,none⟩) o.length o.length) l) (λ_ C _=>o.length-(intOf C).toNat)
 case atStart=>exact⟨k,x,_,rfl,rfl,hx.1,hx.2,by simp,z,u⟩
 case round=>
  obtain⟨i,y,l,rfl,rfl,hy0,hy1,a,hg,hO⟩:=hrel;clear u z A;by_cases e:i<o.length
  ·have J:(i:Int)<o.length:=by omega
   obtain⟨b,off,rfl,_,hbl,hc0⟩:=Ints.at I.out.2 i e;have L:=hg.cell hc0 (by simp);have M:=I.out.1 i e;obtain⟨q,m⟩:∃q,q=gt o i:=⟨_,rfl⟩;rw[<-m] at L M;have N:=hO.cell i (by omega);have O:=hO.frozen i;obtain⟨B,hs2⟩:=hO.store i (y%q);have p:Ext w (wr.setCell ⟨w.heap.size,i,none⟩ (.int .i64 (y%q))):=grown_own hg hs2 (λj Q e=>by cases Q;omega);have D:0<=y/q:=Int.ediv_nonneg hy0 (by omega);have R:y/q<=y:=Int.ediv_le_self _ hy0;have U:(wr.setCell ⟨w.heap.size,i,none⟩ (.int .i64 (y%q))).cell? ⟨b,off+i,none⟩=some (.int .i64 q):=p.cell (by rw[m];exact hc0) (by simp);have E:=Lib.hid (And.intro B (And.intro p a));clear B hs2 p a m hc0;go_wp2;go_roundw
   case rel=>exact⟨i+1,y/q,l.set i (y%q),by go_num,rfl,D,by omega,by rw[List.length_set];exact E.out.2.2,E.out.2.1,E.out.1⟩
   case measure=>simp[intOf];omega
  ·go_wp2
   go_ret;exact⟨_,rfl,hg,l,a,hO⟩
def FacsR (B:Nat) (w':World) (v:Value):Prop:=∃(a:Option Addr) (c:Nat) (l:List Int) (r:Bool),v=.tuple #[.slice a l.length c,.bool r]/\Own B w' (.slice a l.length c) l/\l.length<=9/\∀x∈l,2<=x/\x<=7
theorem l07Factors_ok (w:World) (n:Nat) (hn:1<=n/\n<=729) :
  Calls Tryz.prog 317 #[.int .i64 n] w (Ret w (FacsR w.heap.size)):=by
 go_enter Tryz.func317,Tryz.ntmps317;go_wp2;go_loopw [0,4,5] (λu D E wr=>∃(m:Nat) (l:List Int) (d:Nat),u=.int .i64 m/\E=.int .i64 d/\1<=m/\2<=d/\d<=8/\m*2 ^ l.length<=729/\(∀x∈l,2<=x/\x<=7)/\Ext w wr/\Own w.heap.size wr D l) (λ_ _ E _=>8-(intOf E).toNat)
 case atStart=>exact⟨n,[],2,rfl,rfl,hn.1,by omega,by omega,by simp;omega,by simp,World.grownBy_alloc _ _ _,World.ownsRow_lit w #[] 0 (Nat.le_refl _) (by decide) rfl⟩
 case round=>
  obtain⟨m,l,d,rfl,rfl,b,F,hd8,y,z,hg,hO⟩:=hrel;have e:=Lib.hid (And.intro y z);clear y z;by_cases k:d<=7
  ·have i:(d:Int)<=7:=by omega
   go_wp2;go_loopw [0,4] (λu D wr=>∃(m:Nat) (l:List Int),u=.int .i64 m/\1<=m/\Hid (m*2 ^ l.length<=729/\∀x∈l,(2:Int)<=x/\x<=7)/\Ext w wr/\Own w.heap.size wr D l) (λu _ _=>(intOf u).toNat)
   case atStart=>exact⟨m,l,rfl,b,e,hg,hO⟩
   case round=>
    clear b e hg hO;obtain⟨m,l,rfl,b,e,hg,hO⟩:=hrel;have V:2<=(d:Int):=by omega
    by_cases C:primeB d=true
    ·have a:=l01Prime_ok d wr
     rw[C] at a;clear C;by_cases A:m%d=0
     ·have G:(m:Int)%(d:Int)=0:=by rw[<-Int.natCast_emod,A];rfl
      have H:(m:Int)/(d:Int)=((m/d:Nat):Int):=by rw[Int.natCast_ediv]
      have B:1<=m/d:=Nat.div_pos (Nat.le_of_dvd b (Nat.dvd_of_mod_eq_zero A)) (by omega);have I:m/d<m:=Nat.div_lt_self b (by omega);have J:m/d*d=m:=Nat.div_mul_cancel (Nat.dvd_of_mod_eq_zero A)
      have p:l.length<=1000000:=by
       have K:=e.out.1;have L:1*2 ^ l.length<=m*2 ^ l.length:=Nat.mul_le_mul_right _ b;have W:l.length<2 ^ l.length:=Nat.lt_two_pow_self;omega
      have M:m/d*2 ^ (l++[(d:Int)]).length<=729/\∀x∈l++[(d:Int)],(2:Int)<=x/\x<=7:=by
       refine⟨?_,λx hx => ?_⟩
       ·have K:=e.out.1
        have L:m/d*2<=m:=by
         have:=Nat.mul_le_mul_left (m/d) F;omega
        have W:=Nat.mul_le_mul_right (2 ^ l.length) L;rw[List.length_append,List.length_singleton,Nat.pow_succ,Nat.mul_comm (2 ^ l.length) 2,<-Nat.mul_assoc];omega
       ·rcases List.mem_append.1 hx with h|h
        ·exact e.out.2 x h
        ·rw[List.mem_singleton.1 h];omega
      have N:m/d<=729:=by
       have h1:=e.out.1;have K:=Nat.le_mul_of_pos_right m (Nat.two_pow_pos l.length);omega
      obtain⟨q,R⟩:∃q,q=m/d:=⟨_,rfl⟩;rw[<-R] at H B I M N;have X:=Lib.hid M;clear M e J A R;go_wp2_with fail
      refine Calls.mono a ?_;rintro S U ⟨rfl,rfl⟩;clear a;go_wp2_with (first|(at_builtin;refine wp_app_int rfl _ _ rfl w.heap.size u4 l (d:Int) rfl wr hO rfl rfl p hg.size ?_;intro v5 w5 O Q)|fail)
      go_roundw
      case rel=>exact⟨q,_,rfl,B,X,grown_own hg Q (λj Y k=>by have:=(hO.lt j Y).1;omega),O⟩
      case measure=>simp[intOf];omega
     ·have G:((m:Int)%(d:Int) == 0)=false:=by
       have:(m:Int)%(d:Int)=((m%d:Nat):Int):=by rw[Int.natCast_emod]
       rw[this];simp;omega
      have r:d+1<=8:=by omega
      clear A k i;go_wp2_with (first|(refine Calls.mono a ?_;rintro S U ⟨rfl,rfl⟩;clear a)|fail)
      go_roundw
      case rel=>exact⟨m,l,d+1,rfl,by go_num,b,by omega,r,e.out.1,e.out.2,hg,hO⟩
      case measure=>simp[intOf];omega
    ·have a:=l01Prime_ok d wr
     rw[show primeB (d:Int)=false by simpa using C] at a;have r:d+1<=8:=by omega
     clear C k i;go_wp2_with (first|(refine Calls.mono a ?_;rintro S U ⟨rfl,rfl⟩;clear a)|fail)
     go_roundw
     case rel=>exact⟨m,l,d+1,rfl,by go_num,b,by omega,r,e.out.1,e.out.2,hg,hO⟩
     case measure=>simp[intOf];omega
  ·have i:¬(d:Int)<=7:=by omega
   have p:l.length<=9:=by
    rcases Nat.lt_or_ge l.length 10 with h|h
    ·omega
    ·have h1:2 ^ 10<=2 ^ l.length:=Nat.pow_le_pow_right (by omega) h
     have K:=e.out.1;have L:1*2 ^ l.length<=m*2 ^ l.length:=Nat.mul_le_mul_right _ b;omega
   obtain⟨Z,cf,mU,_⟩:=(hO.ints (by omega)).shape;subst mU;go_wp2;go_ret2
   exact⟨_,rfl,hg,Z,cf,l,((m:Int) == 1),rfl,hO,p,e.out.2⟩
theorem l01Power_ok (w:World) (b e m:Int) (j:0<=b/\b<30000) (k:0<=e/\e<=1000000000) (C:1<=m/\m<=30000) :
  Calls Tryz.prog 319 #[.int .i64 b,.int .i64 e,.int .i64 m] w (Ret w λ_ v=>∃x:Int,v=.int .i64 x/\0<=x/\x<30000):=by
 have u:(1:Int)%m<m:=Int.emod_lt_of_pos _ (by omega);have l:0<=(1:Int)%m:=Int.emod_nonneg _ (by omega);go_enter Tryz.func319,Tryz.ntmps319;go_wp2;go_loopw [0,1,7] (λy p z wr=>∃(b e o:Int),y=.int .i64 b/\p=.int .i64 e/\z=.int .i64 o/\0<=b/\b<30000/\0<=e/\e<=1000000000/\0<=o/\o<30000/\Ext w wr) (λ_ p _ _=>(intOf p).toNat)
 case atStart=>exact⟨b,e,_,rfl,rfl,rfl,j.1,j.2,k.1,k.2,l,by omega,Ext.refl _⟩
 case round=>
  clear j k;obtain⟨b,e,o,rfl,rfl,rfl,a,hb1,he0,he1,ho0,ho1,hg⟩:=hrel;by_cases A:0<e
  ·have h1:0<=o*b/\o*b<=30000*30000:=⟨Int.mul_nonneg ho0 a,Int.mul_le_mul (by omega) (by omega) a (by omega)⟩
   have D:0<=b*b/\b*b<=30000*30000:=⟨Int.mul_nonneg a a,Int.mul_le_mul (by omega) (by omega) a (by omega)⟩;have B:0<=o*b%m/\o*b%m<m:=⟨Int.emod_nonneg _ (by omega),Int.emod_lt_of_pos _ (by omega)⟩;have r:0<=b*b%m/\b*b%m<m:=⟨Int.emod_nonneg _ (by omega),Int.emod_lt_of_pos _ (by omega)⟩;have E:e/2<e:=by omega
   by_cases i:e%2=1
   ·have q:(e%2 == 1)=true:=by simp[i]
    clear i;go_wp2;go_roundw
    case rel=>exact⟨_,_,_,rfl,rfl,rfl,r.1,by omega,by omega,by omega,B.1,by omega,hg⟩
    case measure=>simp[intOf];omega
   ·have q:(e%2 == 1)=false:=by simp[i]
    clear i;go_wp2;go_roundw
    case rel=>exact⟨_,_,_,rfl,rfl,rfl,r.1,by omega,by omega,by omega,ho0,ho1,hg⟩
    case measure=>simp[intOf];omega
  ·go_wp2
   go_ret;exact⟨_,rfl,hg,o,rfl,ho0,ho1⟩
theorem Box3.all {W:World}{b:Nat}{x0 x1 x2:Value}(h:Box3 W b x0 x1 x2) (x y z:Value):Box3 (((W.setCell ⟨b,0,none⟩ x).setCell ⟨b,1,none⟩ y).setCell ⟨b,2,none⟩ z) b x y z:=
 ((((h.put x).1.put y).2.1).put z).2.2
theorem grown_set1 (w:World) (b j:Nat) (v:Value):w.grownBy (w.setCell ⟨b,j,none⟩ v) (some b):=⟨rfl,rfl,rfl,by simp[World.setCell],λk _ hk=>Below.heap_setCell _ _ _ _ (by intro e;exact hk (by rw[e]))⟩
theorem grown_set3 (w:World) (b:Nat) (x y z:Value):w.grownBy (((w.setCell ⟨b,0,none⟩ x).setCell ⟨b,1,none⟩ y).setCell ⟨b,2,none⟩ z) (some b):=
 grown_trans (grown_set1 _ _ _ _) (grown_trans (grown_set1 _ _ _ _) (grown_set1 _ _ _ _))
def SlI {α:Type} [Inhabited α] (El:(Nat->Prop)->World->Value->α->Prop) (E:Nat) (F:Nat->Prop) (w:World) (v:Value) (xs:List α):Prop:=
 ∃ (a:List Value) (G:Nat->Nat->Prop),a.length=xs.length/\xs.length<=9223372036854775807/\OwnV 0 E w v a/\(∀k,v.ownBlock=some k->F k) /\
  (∀i k,i<xs.length->G i k->F k/\v.ownBlock≠some k/\k<w.heap.size) /\
  (∀i j k,i<xs.length->j<xs.length->G i k->G j k->i=j)/\∀i,i<xs.length->El (G i) w (gt a i) (gt xs i)
section
variable {α:Type} [Inhabited α] {El:(Nat->Prop)->World->Value->α->Prop}{E:Nat}
theorem SlI.of {B:Nat}{F:Nat->Prop}{w:World}{v:Value}{xs:List α}(h:SlO El E B w v xs) (b:xs.length<=9223372036854775807) (hF:∀k,B<=k->k<w.heap.size->F k):SlI El E F w v xs:=by
 obtain⟨e,G,hvl,hO,a,hd,hE⟩:=h;exact⟨e,G,hvl,b,ownsRow_move hO (λ_ _=>⟨rfl,Nat.zero_le _⟩),λk hk=>hF k (hO.lt k hk).1 (hO.lt k hk).2,λi k hi hk=>⟨hF k (a i k hi hk).1 (a i k hi hk).2.2,(a i k hi hk).2⟩,hd,hE⟩
theorem SlI.d {F:Nat->Prop}{w:World}{v:Value}{xs:List α}(h:SlI El E F w v xs):SlD El F w v xs:=by
 obtain⟨e,G,a,hl,hO,hF,b,hd,hE⟩:=h;refine⟨G,λk=>v.ownBlock=some k,λk hk=>hF k hk,λi k hi hk=>⟨(b i k hi hk).1,λh=>(b i k hi hk).2.1 h⟩,hd,?_⟩;rcases hO.form with⟨rfl,rfl⟩|⟨g,cap,rfl,hnc,hBg,hgs⟩
 ·have:xs.length=0:=by simpa using a.symm
  exact⟨none,0,by rw[this],⟨by omega,by omega,λ_=>rfl⟩,λi hi=>by omega⟩
 ·refine ⟨_,cap,by rw[a],⟨by omega,hl,λh=>by cases h⟩,λi hi=>⟨g,0,gt e i,rfl,rfl,hgs,?_,hE i hi⟩⟩
  rw[Nat.zero_add];exact hO.cell i (by omega)
theorem rdI (j:RdOk El):RdOk (SlI El E):=by
 refine⟨λ{F F' w w' u x} h e => ?_,λ{F w u x} h => ?_⟩
 ·obtain ⟨l,G,hvl,hl,hO,hF,b,hd,hE⟩:=h
  have a:=hO.lt
  exact ⟨l,G,hvl,hl,ownsRow_move hO (λk hk=>⟨(e k (hF k hk) (a k hk).2).2.2,Nat.zero_le _⟩),λk hk=>(e k (hF k hk) (a k hk).2).1,
   λi k hi hk=>⟨(e k (b i k hi hk).1 (b i k hi hk).2.2).1,(b i k hi hk).2.1,(e k (b i k hi hk).1 (b i k hi hk).2.2).2.1⟩,hd,
   λi hi=>j.mono (hE i hi) (λk hk a=>⟨hk,(e k (b i k hi hk).1 a).2⟩)⟩
 ·obtain ⟨l,G,_,_,⟨_,h|⟨g,cap,cur,m,_⟩⟩,_⟩:=h
  ·rw[h.1];rfl
  ·rw[m];rfl
theorem SlI.wide {F F':Nat->Prop}{w:World}{v:Value}{xs:List α}(h:SlI El E F w v xs) (hF:∀k,F k->F' k):SlI El E F' w v xs:=by
 obtain⟨b,G,hvl,hl,hO,h1,a,hd,hE⟩:=h;exact⟨b,G,hvl,hl,hO,λk hk=>hF k (h1 k hk),λi k hi hk=>⟨hF k (a i k hi hk).1,(a i k hi hk).2⟩,hd,hE⟩
theorem SlI.map {a:(Nat->Prop)->World->Value->α->Prop}(b:∀F w u x,El F w u x->a F w u x) {F:Nat->Prop}{w:World}{v:Value}{xs:List α}(h:SlI El E F w v xs):SlI a E F w v xs:=by
 obtain⟨e,G,hvl,hl,hO,h1,hG,hd,hE⟩:=h;exact⟨e,G,hvl,hl,hO,h1,hG,hd,λi hi=>b _ _ _ _ (hE i hi)⟩
theorem SlI.form {F:Nat->Prop}{w:World}{v:Value}{xs:List α}(h:SlI El E F w v xs):(v=.slice none 0 0/\xs=[])\/∃g cap,v=.slice (some ⟨g,0,none⟩) xs.length cap/\F g/\g<w.heap.size:=by
 obtain⟨b,G,a,hl,hO,h1,hG,hd,hE⟩:=h;rcases hO.form with⟨rfl,rfl⟩|⟨g,cap,rfl,hnc,hBg,hgs⟩
 ·exact .inl ⟨rfl,List.eq_nil_of_length_eq_zero (by simpa using a.symm)⟩
 ·exact .inr ⟨g,cap,by rw[a],h1 g rfl,hgs⟩
theorem SlI.place {F:Nat->Prop}{g n cap:Nat}{w:World}{xs:List α}(h:SlI El E F w (.slice (some ⟨g,0,none⟩) n cap) xs) (k:Nat) (hk:k<xs.length):(∃z,w.cell? ⟨g,k,none⟩=some z)/\w.frozen? ⟨g,k,none⟩=false:=by
 obtain⟨a,G,hvl,hl,hO,h1,hG,hd,hE⟩:=h;refine⟨⟨_,hO.cell k (by omega)⟩,?_⟩
 have hn:n=a.length:=by
  obtain⟨_,⟨h,_⟩|⟨_,_,_,h,_⟩⟩:=hO<;>cases h;rfl
 subst hn;exact World.ownsRow.frozenAt hO k
theorem SlI.store (m:RdOk El) {F:Nat->Prop}{g n cap:Nat}{l a:World}{xs:List α}{u:Value}{y:α}(h:SlI El E F l (.slice (some ⟨g,0,none⟩) n cap) xs)
  (w:Ext l a) (C:El (From l.heap.size) a u y) (j:Nat) :
  SlI El E (λk=>F k\/l.heap.size<=k) (a.setCell ⟨g,j,none⟩ u) (.slice (some ⟨g,0,none⟩) n cap) (xs.set j y)/\a.grownBy (a.setCell ⟨g,j,none⟩ u) (some g):=by
 obtain⟨z,G,A,hl,hO,hF,B,hd,hE⟩:=h;have D:=hO.lt g rfl;have p:OwnV 0 E a (.slice (some ⟨g,0,none⟩) n cap) z:=hO.kept w (by simp[Value.ownBlock])
 have hn:n=z.length:=by
  obtain⟨_,⟨h,_⟩|⟨_,_,_,h,_⟩⟩:=p<;>cases h;rfl
 subst hn;obtain⟨h1,h2⟩:=World.ownsRow.stored p j u;have H:(a.setCell ⟨g,j,none⟩ u).heap.size=a.heap.size:=by simp[World.setCell]
 have hblk:∀k,k≠g->(a.setCell ⟨g,j,none⟩ u).heap[k]? = a.heap[k]? :=λk hk=>Below.heap_setCell _ _ _ _ (by simpa using hk);refine⟨⟨z.set j u,λi k=>if i=j then l.heap.size<=k/\k<a.heap.size else G i k/\k<l.heap.size,by simp[A],by rw[List.length_set];exact hl,?_,λk hk => .inl (hF k hk),?_,?_,?_⟩,h2⟩
 ·unfold OwnV;rw[List.length_set];exact h1
 ·intro i k hi hk
  rw[List.length_set] at hi;simp only[Value.ownBlock];split at hk
  ·exact⟨.inr hk.1,by intro e;cases e;omega,by omega⟩
  ·obtain ⟨a1,a2,a3⟩:=B i k hi hk.1
   exact⟨.inl a1,a2,by have:=w.size;omega⟩
 ·intro i I k hi q hk r
  rw[List.length_set] at hi q;split at hk<;>split at r
  ·omega
  ·omega
  ·omega
  ·exact hd i I k hi q hk.1 r.1
 ·intro i hi
  rw[List.length_set] at hi;by_cases e:j=i
  ·subst e
   rw[gt_set_eq _ _ _ (by omega),gt_set_eq _ _ _ hi];simp only[if_true];exact m.mono C (λk hk b=>⟨⟨hk,b⟩,by omega,hblk k (by have hk:l.heap.size<=k:=hk;omega)⟩)
  ·rw [gt_set_ne _ _ _ _ e,gt_set_ne _ _ _ _ e]
   simp only[if_neg (λh:i=j=>e h.symm)];refine m.mono (hE i hi) (λk hk b=>⟨⟨hk,b⟩,by have:=w.size;omega,?_⟩);rw[hblk k (λe=>(B i k hi hk).2.1 (by rw[e];rfl))];exact w.block k b (by simp)
theorem SlI.turn (q:RdOk El) {F:Nat->Prop}{g n cap:Nat}{w:World}{xs:List α}(h:SlI El E F w (.slice (some ⟨g,0,none⟩) n cap) xs) (j:Nat) (m:j<xs.length) :
  ∃ (u:Value) (r:Nat->Prop),w.cell? ⟨g,j,none⟩=some u/\El r w u (gt xs j)/\(∀k,r k->F k/\k≠g/\k<w.heap.size) /\
   ∀w' y,Touch r w w'->El (λk=>r k\/w.heap.size<=k) w' u y->SlI El E (λk=>F k\/w.heap.size<=k) w' (.slice (some ⟨g,0,none⟩) n cap) (xs.set j y):=by
 obtain⟨C,G,hvl,hl,hO,hF,a,z,hE⟩:=h;have D:=hO.lt g rfl;refine⟨gt C j,G j,hO.cell j (by omega),hE j m,λk hk=>⟨(a j k m hk).1,λe=>(a j k m hk).2.1 (by rw[e];rfl),(a j k m hk).2.2⟩,λw' y A hy => ?_⟩;refine⟨C,λi k=>if i=j then (G j k\/w.heap.size<=k)/\k<w'.heap.size else G i k,by rw[List.length_set];exact hvl,by rw[List.length_set];exact hl,ownsRow_move hO (λk hk=>⟨A.block k (hO.lt k hk).2 (λe=>(a j k m e).2.1 hk),Nat.zero_le _⟩),λk hk => .inl (hF k hk),?_,?_,?_⟩
 ·intro i k hi hk
  rw[List.length_set] at hi;split at hk
  ·rcases hk with⟨hk|hk,hk2⟩
   ·exact⟨.inl (a j k m hk).1,(a j k m hk).2.1,hk2⟩
   ·exact⟨.inr hk,λe=>by have:=(hO.lt k e).2;omega,hk2⟩
  ·exact⟨.inl (a i k hi hk).1,(a i k hi hk).2.1,by have:=A.size;have:=(a i k hi hk).2.2;omega⟩
 ·intro i B k hi p hk b
  rw[List.length_set] at hi p;split at hk<;>split at b
  ·omega
  ·rcases hk.1 with h1|h1
   ·exact(by have:=z j B k m p h1 b;omega)
   ·have:=(a B k p b).2.2;omega
  ·rcases b.1 with h1|h1
   ·exact(by have:=z i j k hi m hk h1;omega)
   ·have:=(a i k hi hk).2.2;omega
  ·exact z i B k hi p hk b
 ·intro i hi
  rw[List.length_set] at hi;by_cases e:j=i
  ·subst e
   rw[gt_set_eq _ _ _ hi];simp only[if_true];exact q.mono hy (λk hk l=>⟨⟨hk,l⟩,l,rfl⟩)
  ·rw [gt_set_ne _ _ _ _ e]
   simp only[if_neg (λh:i=j=>e h.symm)];exact q.mono (hE i hi) (λk hk l=>⟨hk,Nat.lt_of_lt_of_le l A.size,A.block k l (λH=>e (z j i k m hi H hk))⟩)
end
/-! ### append to such slices -/
section
variable {α:Type} [Inhabited α] {El:(Nat->Prop)->World->Value->α->Prop}{E:Nat}
theorem SlI.grow (A:RdOk El) {F:Nat->Prop}{l q w':World}{v v' u:Value}{xs:List α}{y:α}{B:List Value}{G:Nat->Nat->Prop}(U:xs.length<=1000000)
  (w:B.length=xs.length) (hO:OwnV 0 E l v B) (hF:∀k,v.ownBlock=some k->F k) (L:∀i k,i<xs.length->G i k->F k/\v.ownBlock≠some k/\k<l.heap.size)
  (O:∀i j k,i<xs.length->j<xs.length->G i k->G j k->i=j) (H:∀i,i<xs.length->El (G i) l (gt B i) (gt xs i))
  (M:Ext l q) (Q:El (From l.heap.size) q u y) (h1:OwnV 0 E w' v' (B++[u])) (R:(q.alloc (.cells #[u] E)).grownBy w' v.ownBlock) (I:v'.ownBlock=v.ownBlock\/v'.ownBlock=some (q.heap.size+1)) :
  SlI El E (λk=>F k\/l.heap.size<=k) w' v' (xs++[y])/\l.grownBy w' v.ownBlock/\q.grownBy w' v.ownBlock:=by
 have J:Ext q (q.alloc (.cells #[u] E)):=World.grownBy_alloc _ _ _;have C:∀k,v.ownBlock=some k->k<l.heap.size:=λk hk=>(hO.lt k hk).2;have m:q.grownBy w' v.ownBlock:=grown_trans (grown_of_ext _ J) R;have r:l.grownBy w' v.ownBlock:=grown_trans (grown_of_ext _ M) m
 have p:∀k,v'.ownBlock=some k->v.ownBlock=some k\/q.heap.size<k:=by
  intro k hk;rcases I with h|h
  ·exact .inl (by rw[<-h];exact hk)
  ·rw[h] at hk;cases hk;exact .inr (by omega)
 have N:=M.size;refine⟨⟨B++[u],λi k=>if i<xs.length then G i k/\k<l.heap.size else l.heap.size<=k/\k<q.heap.size,by simp[w],by simp;omega,h1,?_,?_,?_,?_⟩,r,m⟩
 ·intro k hk
  rcases p k hk with h|h
  ·exact .inl (hF k h)
  ·exact .inr (by omega)
 ·intro i k hi hk
  split at hk
  ·rename_i b
   obtain⟨a1,a2,a3⟩:=L i k b hk.1;refine⟨.inl a1,λz => ?_,Nat.lt_of_lt_of_le a3 r.size⟩;rcases p k z with h|h
   ·exact a2 h
   ·omega
  ·refine ⟨.inr hk.1,λz => ?_,Nat.lt_of_lt_of_le hk.2 m.size⟩
   rcases p k z with h|h
   ·have:=C k h;omega
   ·omega
 ·intro i j k hi S hk D
  simp only[List.length_append,List.length_singleton] at hi S;split at hk<;>split at D
  ·exact O i j k (by assumption) (by assumption) hk.1 D.1
  ·omega
  ·omega
  ·omega
 ·intro i hi
  simp only[List.length_append,List.length_singleton] at hi;by_cases b:i<xs.length
  ·rw [gt_append_left _ _ _ (by omega),gt_append_left _ _ _ b]
   simp only[if_pos b];exact A.mono (H i b) (λk hk a=>⟨⟨hk,a⟩,Nat.lt_of_lt_of_le a r.size,r.block k a (λe=>(L i k b hk).2.1 e.symm)⟩)
  ·have K:i=xs.length:=by omega
   subst K;rw[gt_concat,<-w,gt_concat];simp only[w,Nat.lt_irrefl,if_false]
   exact A.mono Q (λk hk a=>⟨⟨hk,a⟩,Nat.lt_of_lt_of_le a m.size,m.block k a (λe=>by
    have hk:l.heap.size<=k:=hk;have:=C k e.symm;omega)⟩)
theorem wp_app_I (e:RdOk El) (T:Nat) (z:Value) (bytes:Nat) (K:Tryz.prog.underlying T=some (.slice E))
  (hE:(Tryz.prog.info? E).map (λi=>(i.zero,i.size,i.bytes))=some (some z,1,bytes)) (r:z.cells.size=1) (A:bytes<=64)
  {ops:Array Oper}{rest:List Oper}{o:Oper}{a:Act}{Q:Exit->Act->World->Prop}{w:World}(B:o.guard=none) (s x:Operand)
  (L:o.op=Op.call { callee:=Callee.builtin Builtin.append,args := #[s,x],argTypes := #[T,T] }) (F:Nat->Prop) (l b:World) (v u:Value) (xs:List α) (y:α) (M:a.eval s=v) (m:SlI El E F l v xs)
  (H:Ext l b) (I:El (From l.heap.size) b u y) (N:w=b.alloc (.cells #[u] E)) (hx:a.eval x=.slice (some ⟨b.heap.size,0,none⟩) 1 1) (p:xs.length<=1000000)
  (h:∀v' w',SlI El E (λk=>F k\/l.heap.size<=k) w' v' (xs++[y])->l.grownBy w' v.ownBlock->b.grownBy w' v.ownBlock->wpList Tryz.prog ops Q rest (a.put o.dst v') w') :
  wpList Tryz.prog ops Q (o :: rest) a w:=by
 subst N;obtain⟨J,G,hvl,_,hO,hF,hG,hd,hEx⟩:=m;have C:Ext b (b.alloc (.cells #[u] E)):=World.grownBy_alloc _ _ _;have D:OwnV 0 E (b.alloc (.cells #[u] E)) v J:=hO.kept (grown_trans H C) (by cases V:v.ownBlock<;>simp);refine wp_app T E z bytes K hE r A B s x L 0 v J M D (some ⟨b.heap.size,0,none⟩) 1 1 [u] hx rfl (by simp) ?_ ?_ (by omega) (by omega) ?_
 ·intro j W
  have:j=0:=by omega
  subst this;exact⟨_,_,rfl,by rw[World.cell?_alloc_at _ _ _ _ rfl];rfl⟩
 ·intro X q
  simp at q;subst q;exact e.one I
 ·intro v' w' O R _ S
  obtain⟨U,r2,r3⟩:=SlI.grow e p hvl hO hF hG hd hEx H I O R (by rcases S with k|k;exact .inl k;exact .inr (by rw[k];simp));exact h v' w' U r2 r3
theorem step_app_I (e:RdOk El) (T:Nat) (z:Value) (bytes:Nat) (I:Tryz.prog.underlying T=some (.slice E))
  (hE:(Tryz.prog.info? E).map (λi=>(i.zero,i.size,i.bytes))=some (some z,1,bytes)) (p:z.cells.size=1) (q:bytes<=64)
  {ops:Array Oper}{o:Oper}{a:Act}{K:Act->World->Prop}{Q:Exit->Act->World->Prop}{J:Prop}{w:World}(r:o.guard=none) (s x:Operand)
  (L:o.op=Op.call { callee:=Callee.builtin Builtin.append,args := #[s,x],argTypes := #[T,T] }) (F:Nat->Prop) (j b:World) (v u:Value) (xs:List α) (y:α) (M:a.eval s=v) (l:SlI El E F j v xs)
  (C:Ext j b) (D:El (From j.heap.size) b u y) (N:w=b.alloc (.cells #[u] E)) (hx:a.eval x=.slice (some ⟨b.heap.size,0,none⟩) 1 1) (m:xs.length<=1000000)
  (h:∀v' w',SlI El E (λk=>F k\/j.heap.size<=k) w' v' (xs++[y])->j.grownBy w' v.ownBlock->b.grownBy w' v.ownBlock->K (a.put o.dst v') w') :
  if Region.wanted o (yielded ops a.tmps)=true then Oper.wp Tryz.prog o a w K Q else J:=by
 subst N;obtain⟨H,G,hvl,_,hO,hF,hG,hd,hEx⟩:=l;have A:Ext b (b.alloc (.cells #[u] E)):=World.grownBy_alloc _ _ _;have B:OwnV 0 E (b.alloc (.cells #[u] E)) v H:=hO.kept (grown_trans C A) (by cases V:v.ownBlock<;>simp);refine step_app T E z bytes I hE p q r s x L 0 v H M B b.heap.size u hx (by rw[World.cell?_alloc_at _ _ _ _ rfl];rfl) (e.one D) (by omega) (by omega) ?_;intro v' w' O R S;obtain⟨U,r2,r3⟩:=SlI.grow e m hvl hO hF hG hd hEx C D O R (by rcases S with k|k;exact .inl k;exact .inr (by rw[k];simp));exact h v' w' U r2 r3
end
theorem run_mk_ints (n:Nat) (hn:n<=2147483648) (w:World):(Instr.makeSlice 24 (.int .i64 (n:Int)) (.int .i64 (n:Int))).run Tryz.prog w=.ok (.slice (some ⟨w.heap.size,0,none⟩) n n) (w.alloc (.cells (madeCells #[.int .i64 0] n) 2)):=by
 obtain⟨e,hi,a,hz1,b⟩:=info_parts Tryz.infoInt;have hr:=run_make (P:=Tryz.prog) w 24 2 e (.int .i64 0) und_ints hi a .i64 .i64 n n (by omega) (Int.le_refl _) (by rw[b];omega) (by omega);simp only[Int.toNat_natCast,hz1,Nat.mul_one] at hr;exact hr
theorem own_mk_ints (n:Nat) (hn:n<=2147483648) (w:World):Own w.heap.size (w.alloc (.cells (madeCells #[.int .i64 0] n) 2)) (.slice (some ⟨w.heap.size,0,none⟩) n n) (List.replicate n 0):=by
 have h:=World.ownsRow_lit (base:=w.heap.size) (e:=2) (size:=1) w (madeCells #[.int .i64 0] n) n (Nat.le_refl _) (by unfold maxLen;omega) (by have:=size_madeCells #[Value.int .i64 0] n;simpa using this);rw[toList_madeCells_one] at h;show World.ownsRow _ _ _ _ _ _ _
 rw[List.length_replicate,List.map_replicate];exact h
abbrev RowsI (F:Nat->Prop) (w:World) (v:Value) (xs:List (List Int)):Prop:=SlI OwnIn 24 F w v xs
abbrev Rows3I (F:Nat->Prop) (w:World) (v:Value) (xs:List (List (List Int))):Prop:=SlI (SlI OwnIn 24) 25 F w v xs
theorem rdRowsI:RdOk (λF w u (x:List (List Int))=>RowsI F w u x):=rdI rdOwn
theorem rdRows3I:RdOk (λF w u (x:List (List (List Int)))=>Rows3I F w u x):=rdI (rdI rdOwn)
theorem RowsI.rows {F:Nat->Prop}{w:World}{v:Value}{xs:List (List Int)}(h:RowsI F w v xs):Rows2 F w v xs:=RowsD.rows (SlI.d h)
theorem Rows3I.rows {F:Nat->Prop}{w:World}{v:Value}{xs:List (List (List Int))}(h:Rows3I F w v xs):Rows3 F w v xs:=Rows3D.rows (SlI.d (SlI.map (λ_ _ _ _ h=>SlI.d h) h))
def PresX (F:Nat->Prop) (w:World) (vo vp vc:Value) (P:Pr):Prop:=
 ∃Fo Fp Fc:Nat->Prop,OwnIn Fo w vo P.orders/\RowsI Fp w vp P.powers/\Rows3I Fc w vc P.conj/\(∀k,Fo k->F k/\¬Fp k/\¬Fc k)/\(∀k,Fp k->F k/\¬Fc k)/\(∀k,Fc k->F k)
theorem PresX.p3 {F:Nat->Prop}{w:World}{vo vp vc:Value}{P:Pr}(h:PresX F w vo vp vc P):Pres3 F w vo vp vc P:=by
 obtain⟨Fo,Fp,Fc,h1,a,b,e,i,h6⟩:=h;exact⟨Ints.sub h1.ints (λk hk _=>(e k hk).1),Rows2.sub (RowsI.rows a) (λk hk _=>(i k hk).1),Rows3.sub (Rows3I.rows b) (λk hk _=>h6 k hk)⟩
theorem PresX.mono {F F':Nat->Prop}{w w':World}{vo vp vc:Value}{P:Pr}(h:PresX F w vo vp vc P) (b:∀k,F k->k<w.heap.size->F' k/\k<w'.heap.size/\w'.heap[k]? = w.heap[k]?):PresX F' w' vo vp vc P:=by
 obtain⟨Fo,Fp,Fc,h1,h2,h3,e,i,j⟩:=h
 refine ⟨λk=>Fo k/\k<w.heap.size,λk=>Fp k/\k<w.heap.size,λk=>Fc k/\k<w.heap.size,rdOwn.mono h1 (λk hk a=>⟨⟨hk,a⟩,(b k (e k hk).1 a).2⟩),
  rdRowsI.mono h2 (λk hk a=>⟨⟨hk,a⟩,(b k (i k hk).1 a).2⟩),rdRows3I.mono h3 (λk hk a=>⟨⟨hk,a⟩,(b k (j k hk) a).2⟩),λk hk => ?_,λk hk => ?_,λk hk => ?_⟩
 ·exact⟨(b k (e k hk.1).1 hk.2).1,λh=>(e k hk.1).2.1 h.1,λh=>(e k hk.1).2.2 h.1⟩
 ·exact⟨(b k (i k hk.1).1 hk.2).1,λh=>(i k hk.1).2 h.1⟩
 ·exact(b k (j k hk.1) hk.2).1
theorem PresX.ext {F:Nat->Prop}{w w':World}{vo vp vc:Value}{P:Pr}(h:PresX F w vo vp vc P) (a:Ext w w'):PresX F w' vo vp vc P:=h.mono (frame_ext a)
theorem PresX.shape {F:Nat->Prop}{w:World}{vo vp vc:Value}{P:Pr}(h:PresX F w vo vp vc P):∃a c a2 c2 b c3,vo=.slice a P.orders.length c/\vp=.slice a2 P.powers.length c2/\vc=.slice b P.conj.length c3:=by
 obtain⟨Fo,Fp,Fc,h1,e,i,_⟩:=h;obtain⟨a,c,rfl,_⟩:=h1.ints.shape;obtain⟨a2,c2,rfl,_⟩:=SlD.shape (SlI.d e);obtain⟨b,c3,rfl,_⟩:=SlD.shape (SlI.d i);exact⟨_,_,_,_,_,_,rfl,rfl,rfl⟩
theorem PresX.wide {F F':Nat->Prop}{w:World}{vo vp vc:Value}{P:Pr}(h:PresX F w vo vp vc P) (hF:∀k,F k->F' k):PresX F' w vo vp vc P:=by
 obtain⟨Fo,Fp,Fc,h1,h2,h3,a,b,e⟩:=h;exact⟨Fo,Fp,Fc,h1,h2,h3,λk hk=>⟨hF k (a k hk).1,(a k hk).2⟩,λk hk=>⟨hF k (b k hk).1,(b k hk).2⟩,λk hk=>hF k (e k hk)⟩
theorem PresX.put {F:Nat->Prop}{w w':World}{vo vp vc:Value}{l:Pr}{Fo Fp Fc Fo' Fp' Fc':Nat->Prop}(r:Option Nat) (_hT:w.grownBy w' r)
  (h1:OwnIn Fo' w' vo l.orders) (y:RowsI Fp' w' vp l.powers) (z:Rows3I Fc' w' vc l.conj)
  (q:∀k,Fo k->F k/\¬Fp k/\¬Fc k) (u:∀k,Fp k->F k/\¬Fc k) (A:∀k,Fc k->F k)
  (i:(∀k,Fo' k->Fo k/\k<w.heap.size)) (m:(∀k,Fp' k->Fp k/\k<w.heap.size\/w.heap.size<=k)) (p:(∀k,Fc' k->Fc k/\k<w.heap.size\/w.heap.size<=k)) (j:(∀k,Fp' k->k<w.heap.size)\/(∀k,Fc' k->k<w.heap.size)) :
  PresX (λk=>F k\/w.heap.size<=k) w' vo vp vc l:=by
 refine⟨Fo',Fp',Fc',h1,y,z,λk hk=>⟨.inl (q k (i k hk).1).1,λe => ?_,λe => ?_⟩,λk hk=>⟨?_,λe => ?_⟩,λk hk => ?_⟩
 ·rcases m k e with e|e
  ·exact(q k (i k hk).1).2.1 e.1
  ·have:=(i k hk).2;omega
 ·rcases p k e with e|e
  ·exact(q k (i k hk).1).2.2 e.1
  ·have:=(i k hk).2;omega
 ·rcases m k hk with e|e
  ·exact .inl (u k e.1).1
  ·exact .inr e
 ·rcases j with j|j
  ·have a:=j k hk
   rcases m k hk with b|b
   ·rcases p k e with c|c
    ·exact(u k b.1).2 c.1
    ·omega
   ·omega
  ·have a:=j k e
   rcases p k e with c|c
   ·rcases m k hk with b|b
    ·exact(u k b.1).2 c.1
    ·omega
   ·omega
 ·rcases p k hk with e|e
  ·exact .inl (A k e.1)
  ·exact .inr e
theorem PresX.openP {F:Nat->Prop}{b:World}{vo vp vc:Value}{P:Pr}(h:PresX F b vo vp vc P) (i:Nat) (hi:i<P.powers.length) :
  ∃ g cap z,vp=.slice (some ⟨g,0,none⟩) P.powers.length cap/\F g/\g<b.heap.size/\b.cell? ⟨g,i,none⟩=some z/\(∀j,j<P.powers.length->b.frozen? ⟨g,j,none⟩=false) /\
   ∀m u y,Ext b m->OwnIn (From b.heap.size) m u y->PresX (λk=>F k\/b.heap.size<=k) (m.setCell ⟨g,i,none⟩ u) vo vp vc { P with powers:=P.powers.set i y } :=by
 obtain⟨Fo,Fp,Fc,h1,q,B,w,r,h6⟩:=h;rcases SlI.form q with⟨_,e⟩|⟨g,cap,rfl,l,hgl⟩
 ·rw[e] at hi;simp at hi
 obtain⟨⟨z,hz⟩,_⟩:=SlI.place q i hi;refine⟨g,cap,z,rfl,(r g l).1,hgl,hz,λj C=>(SlI.place q j C).2,λm u y A D => ?_⟩;obtain⟨E,G⟩:=SlI.store rdOwn q A D i;have p:b.grownBy (m.setCell ⟨g,i,none⟩ u) (some g):=grown_trans (grown_of_ext _ A) G
 exact PresX.put (Fo':=λk=>Fo k/\k<b.heap.size) (Fp':=λk=>Fp k/\k<b.heap.size\/b.heap.size<=k) (Fc':=λk=>Fc k/\k<b.heap.size) (some g) p
  (rdOwn.mono h1 (λk hk a=>⟨⟨hk,a⟩,Nat.lt_of_lt_of_le a p.size,p.block k a (λe=>(w k hk).2.1 (by cases e;exact l))⟩))
  (rdRowsI.mono E (λk hk a=>⟨by
   rcases hk with hk|hk
   ·rcases Nat.lt_or_ge k b.heap.size with h|h
    ·exact .inl ⟨hk,h⟩
    ·exact .inr h
   ·exact .inr hk,a,rfl⟩))
  (rdRows3I.mono B (λk hk a=>⟨⟨hk,a⟩,Nat.lt_of_lt_of_le a p.size,p.block k a (λe=>(r g l).2 (by cases e;exact hk))⟩))
  w r h6 (λ_ h=>h) (λ_ h=>h) (λ_ h => .inl h) (.inr (λ_ h=>h.2))
theorem PresX.openC {F:Nat->Prop}{l:World}{vo vp vc:Value}{P:Pr}(h:PresX F l vo vp vc P) (i j:Nat) (hi:i<P.conj.length) (C:j<(gt P.conj i).length) :
  ∃ g cap b m z,vc=.slice (some ⟨g,0,none⟩) P.conj.length cap/\F g/\g<l.heap.size/\l.cell? ⟨g,i,none⟩=some (.slice (some ⟨b,0,none⟩) (gt P.conj i).length m)/\F b/\b≠g/\b<l.heap.size /\
   l.cell? ⟨b,j,none⟩=some z/\l.frozen? ⟨b,j,none⟩=false /\
   ∀w u y,Ext l w->OwnIn (From l.heap.size) w u y->PresX (λk=>F k\/l.heap.size<=k) (w.setCell ⟨b,j,none⟩ u) vo vp vc { P with conj:=P.conj.set i ((gt P.conj i).set j y) } :=by
 obtain⟨Fo,Fp,Fc,h1,I,D,E,G,h6⟩:=h;rcases SlI.form D with⟨_,e⟩|⟨g,cap,rfl,hFg,hgl⟩
 ·rw[e] at hi;simp at hi
 obtain⟨v,Gj,hc,p,B,hturn⟩:=SlI.turn (rdI rdOwn) D i hi;rcases SlI.form p with⟨_,e⟩|⟨b,m,rfl,q,hbl⟩
 ·rw[e] at C;simp at C
 obtain⟨⟨z,hz⟩,hpf⟩:=SlI.place p j C;have r:=(B b q).1;refine⟨g,cap,b,m,z,rfl,h6 g hFg,hgl,hc,h6 b r,(B b q).2.1,hbl,hz,hpf,λw u y H J => ?_⟩;obtain⟨K,L⟩:=SlI.store rdOwn p H J j;have A:l.grownBy (w.setCell ⟨b,j,none⟩ u) (some b):=grown_trans (grown_of_ext _ H) L;have hn:=hturn (w.setCell ⟨b,j,none⟩ u) _ (Touch.of A (λk hk=>by cases hk;exact q)) K
 exact PresX.put (Fo':=λk=>Fo k/\k<l.heap.size) (Fp':=λk=>Fp k/\k<l.heap.size) (Fc':=λk=>Fc k/\k<l.heap.size\/l.heap.size<=k) (some b) A
  (rdOwn.mono h1 (λk hk a=>⟨⟨hk,a⟩,Nat.lt_of_lt_of_le a A.size,A.block k a (λe=>(E k hk).2.2 (by cases e;exact r))⟩))
  (rdRowsI.mono I (λk hk a=>⟨⟨hk,a⟩,Nat.lt_of_lt_of_le a A.size,A.block k a (λe=>(G k hk).2 (by cases e;exact r))⟩))
  (rdRows3I.mono hn (λk hk a=>⟨by
   rcases hk with hk|hk
   ·rcases Nat.lt_or_ge k l.heap.size with h|h
    ·exact .inl ⟨hk,h⟩
    ·exact .inr h
   ·exact .inr hk,a,rfl⟩))
  E G h6 (λ_ h=>h) (λ_ h => .inl h) (λ_ h=>h) (.inl (λ_ h=>h.2))
theorem PresX.openPI {F:Nat->Prop}{l:World}{vo vp vc:Value}{P:Pr}(h:PresX F l vo vp vc P) (i j:Nat) (hi:i<P.powers.length) (G:j<(gt P.powers i).length) :
  ∃ g cap b m,vp=.slice (some ⟨g,0,none⟩) P.powers.length cap/\F g/\g<l.heap.size/\l.cell? ⟨g,i,none⟩=some (.slice (some ⟨b,0,none⟩) (gt P.powers i).length m)/\F b/\b≠g/\b<l.heap.size /\
   l.cell? ⟨b,j,none⟩=some (.int .i64 (gt (gt P.powers i) j))/\(∀p,Ext l p->p.frozen? ⟨b,j,none⟩=false) /\
   ∀p x,Ext l p->PresX (λk=>F k\/l.heap.size<=k) (p.setCell ⟨b,j,none⟩ (.int .i64 x)) vo vp vc { P with powers:=P.powers.set i ((gt P.powers i).set j x) } :=by
 obtain⟨Fo,Fp,Fc,h1,C,H,D,y,h6⟩:=h;rcases SlI.form C with⟨_,e⟩|⟨g,cap,rfl,B,hgl⟩
 ·rw[e] at hi;simp at hi
 obtain⟨v,Gj,hc,hEl,w,hturn⟩:=SlI.turn rdOwn C i hi;obtain⟨z,E,q3⟩:=hEl;obtain⟨b,m,rfl,_,hbl⟩:=z.form (by omega);have q:=E b rfl;have r:=(w b q).1;refine⟨g,cap,b,m,rfl,(y g B).1,hgl,hc,(y b r).1,(w b q).2.1,hbl,z.cell j G,λp A=>(z.ext0 A).frozen j,λp x A => ?_⟩;obtain⟨I,J⟩:=(z.ext0 A).store j x;have u:l.grownBy (p.setCell ⟨b,j,none⟩ (.int .i64 x)) (some b):=grown_trans (grown_of_ext _ A) J;have hn:=hturn (p.setCell ⟨b,j,none⟩ (.int .i64 x)) _ (Touch.of u (λk hk=>by cases hk;exact q)) (⟨I,λk hk => .inl (E k hk),by rw[List.length_set];exact q3⟩:OwnIn (λk=>Gj k\/l.heap.size<=k) _ _ ((gt P.powers i).set j x))
 exact PresX.put (Fo':=λk=>Fo k/\k<l.heap.size) (Fp':=λk=>Fp k/\k<l.heap.size\/l.heap.size<=k) (Fc':=λk=>Fc k/\k<l.heap.size) (some b) u
  (rdOwn.mono h1 (λk hk a=>⟨⟨hk,a⟩,Nat.lt_of_lt_of_le a u.size,u.block k a (λe=>(D k hk).2.1 (by cases e;exact r))⟩))
  (rdRowsI.mono hn (λk hk a=>⟨by
   rcases hk with hk|hk
   ·rcases Nat.lt_or_ge k l.heap.size with h|h
    ·exact .inl ⟨hk,h⟩
    ·exact .inr h
   ·exact .inr hk,a,rfl⟩))
  (rdRows3I.mono H (λk hk a=>⟨⟨hk,a⟩,Nat.lt_of_lt_of_le a u.size,u.block k a (λe=>(y b r).2 (by cases e;exact hk))⟩))
  D y h6 (λ_ h=>h) (λ_ h=>h) (λ_ h => .inl h) (.inr (λ_ h=>h.2))
theorem PresX.openCI {F:Nat->Prop}{l:World}{vo vp vc:Value}{P:Pr}(h:PresX F l vo vp vc P) (i k j:Nat) (hi:i<P.conj.length) (hk:k<(gt P.conj i).length) (L:j<(gt (gt P.conj i) k).length) :
  ∃ g cap e m b p,vc=.slice (some ⟨g,0,none⟩) P.conj.length cap/\F g/\g<l.heap.size/\l.cell? ⟨g,i,none⟩=some (.slice (some ⟨e,0,none⟩) (gt P.conj i).length m)/\F e/\e<l.heap.size /\
   l.cell? ⟨e,k,none⟩=some (.slice (some ⟨b,0,none⟩) (gt (gt P.conj i) k).length p)/\F b/\b≠g/\b≠e/\b<l.heap.size/\l.cell? ⟨b,j,none⟩=some (.int .i64 (gt (gt (gt P.conj i) k) j))/\(∀q,Ext l q->q.frozen? ⟨b,j,none⟩=false) /\
   ∀q x,Ext l q->PresX (λk=>F k\/l.heap.size<=k) (q.setCell ⟨b,j,none⟩ (.int .i64 x)) vo vp vc { P with conj:=P.conj.set i ((gt P.conj i).set k ((gt (gt P.conj i) k).set j x)) } :=by
 obtain⟨Fo,Fp,Fc,h1,M,H,I,J,h6⟩:=h;rcases SlI.form H with⟨_,e⟩|⟨g,cap,rfl,hFg,hgl⟩
 ·rw[e] at hi;simp at hi
 obtain⟨v,Gj,hc,A,r,hturn⟩:=SlI.turn (rdI rdOwn) H i hi;rcases SlI.form A with⟨_,e⟩|⟨e,m,rfl,E,hel⟩
 ·rw[e] at hk;simp at hk
 obtain⟨v2,Hj,hc2,mV,B,mW⟩:=SlI.turn rdOwn A k hk;obtain⟨C,K,q3⟩:=mV;obtain⟨b,p,rfl,_,hbl⟩:=C.form (by omega);have u:=K b rfl;have w:=(B b u).1;have y:=(r b w).1;refine⟨g,cap,e,m,b,p,rfl,h6 g hFg,hgl,hc,h6 e (r e E).1,hel,hc2,h6 b y,(r b w).2.1,(B b u).2.1,hbl,C.cell j L,λq D=>(C.ext0 D).frozen j,λq x D => ?_⟩;obtain⟨N,O⟩:=(C.ext0 D).store j x;have z:l.grownBy (q.setCell ⟨b,j,none⟩ (.int .i64 x)) (some b):=grown_trans (grown_of_ext _ D) O;have G:=mW (q.setCell ⟨b,j,none⟩ (.int .i64 x)) _ (Touch.of z (λk hk=>by cases hk;exact u)) (⟨N,λk hk => .inl (K k hk),by rw[List.length_set];exact q3⟩:OwnIn (λk=>Hj k\/l.heap.size<=k) _ _ ((gt (gt P.conj i) k).set j x));have hn:=hturn (q.setCell ⟨b,j,none⟩ (.int .i64 x)) _ (Touch.of z (λk hk=>by cases hk;exact w)) G
 exact PresX.put (Fo':=λk=>Fo k/\k<l.heap.size) (Fp':=λk=>Fp k/\k<l.heap.size) (Fc':=λk=>Fc k/\k<l.heap.size\/l.heap.size<=k) (some b) z
  (rdOwn.mono h1 (λk hk a=>⟨⟨hk,a⟩,Nat.lt_of_lt_of_le a z.size,z.block k a (λe=>(I k hk).2.2 (by cases e;exact y))⟩))
  (rdRowsI.mono M (λk hk a=>⟨⟨hk,a⟩,Nat.lt_of_lt_of_le a z.size,z.block k a (λe=>(J k hk).2 (by cases e;exact y))⟩))
  (rdRows3I.mono hn (λk hk a=>⟨by
   rcases hk with hk|hk
   ·rcases Nat.lt_or_ge k l.heap.size with h|h
    ·exact .inl ⟨hk,h⟩
    ·exact .inr h
   ·exact .inr hk,a,rfl⟩))
  I J h6 (λ_ h=>h) (λ_ h => .inl h) (λ_ h=>h) (.inl (λ_ h=>h.2))
structure Shp (N:Nat) (P:Pr):Prop where
 n:P.orders.length<=N
 p:P.powers.length=P.orders.length
 c:P.conj.length=P.orders.length
 cl:∀i,i<P.orders.length->(gt P.conj i).length=P.orders.length-1-i
 pv:∀v∈P.powers,v.length<=N
 cv:∀r∈P.conj,∀v∈r,v.length<=N
def setP (P:Pr) (i:Nat) (v:List Int):Pr := { P with powers:=P.powers.set i v }
def setC (P:Pr) (i j:Nat) (v:List Int):Pr := { P with conj:=P.conj.set i ((gt P.conj i).set j v) }
theorem mem_set_or {α:Type}{l:List α}{i:Nat}{a b:α}(h:b∈l.set i a):b=a\/b∈l:=by
 rcases List.mem_or_eq_of_mem_set h with h|h
 ·exact .inr h
 ·exact .inl h
theorem Shp.setP {N:Nat}{P:Pr}(h:Shp N P) (i:Nat) {v:List Int}(a:v.length<=N):Shp N (setP P i v):=
 ⟨h.n,by show(P.powers.set i v).length=_;rw[List.length_set];exact h.p,h.c,h.cl,λx hx=>by
  rcases mem_set_or hx with e|e
  ·rw[e];exact a
  ·exact h.pv x e,h.cv⟩
theorem Shp.setC {N:Nat}{P:Pr}(h:Shp N P) (i j:Nat) (hi:i<P.orders.length) {v:List Int}(l:v.length<=N):Shp N (setC P i j v):=by
 have a:i<P.conj.length:=by rw[h.c];exact hi
 refine⟨h.n,h.p,by show(P.conj.set i _).length=_;rw[List.length_set];exact h.c,λk hk => ?_,h.pv,λr hr x hx => ?_⟩
 ·show (gt (P.conj.set i _) k).length=_
  by_cases e:i=k
  ·subst e
   rw[gt_set_eq _ _ _ a,List.length_set];exact h.cl i hi
  ·rw[gt_set_ne _ _ _ _ e];exact h.cl k hk
 ·rcases mem_set_or hr with e|e
  ·rw [e] at hx
   rcases mem_set_or hx with b|b
   ·rw[b];exact l
   ·exact h.cv _ (by rw[gt_eq _ i a];exact List.getElem_mem a) x b
  ·exact h.cv r e x hx
theorem Shp.mono {N M:Nat}{P:Pr}(h:Shp N P) (a:N<=M):Shp M P:=⟨Nat.le_trans h.n a,h.p,h.c,h.cl,λv b=>Nat.le_trans (h.pv v b) a,λr hr v b=>Nat.le_trans (h.cv r hr v b) a⟩
def trivC (n i:Nat):List (List Int):=(List.range (n-1-i)).map (λk=>unitV n (i+1+k))
def trivP (o:List Int):Pr:=⟨o,List.replicate o.length (zeros o.length),(List.range o.length).map (trivC o.length)⟩
theorem trivC_len (n i:Nat):(trivC n i).length=n-1-i:=by unfold trivC;simp
theorem unitV_len (n k:Nat):(unitV n k).length=n:=by unfold unitV;simp
theorem zeros_len (n:Nat):(zeros n).length=n:=by unfold zeros;simp
theorem trivP_shp (o:List Int) {N:Nat}(h:o.length<=N):Shp N (trivP o):=by
 refine⟨h,by simp[trivP],by simp[trivP],λi hi => ?_,λv b => ?_,λr hr v b => ?_⟩
 ·have a:i<o.length:=hi
  show(gt ((List.range o.length).map (trivC o.length)) i).length=o.length-1-i
  rw[gt_map _ _ _ (by simpa using a),gt_eq _ _ (by simpa using a),List.getElem_range,trivC_len]
 ·have:=List.eq_of_mem_replicate b
  rw[this,zeros_len];exact h
 ·obtain ⟨i,_,rfl⟩:=List.mem_map.1 hr
  obtain⟨k,_,rfl⟩:=List.mem_map.1 b;rw[unitV_len];exact h
end Go.Proofs.YtldheeicjnncoaaGreat
namespace Go.Proofs.YtldheeicjnncoaaGreat
open Go.RowKit
attribute [local go_sem ↓] Go.wp_at_zero Go.wp_at_succ
def PresR (B:Nat) (P:Pr) (w':World) (v:Value):Prop:=∃vo vp vc,v=.agg #[vo,vp,vc]/\PresX (From B) w' vo vp vc P
structure Part3 (F:Nat->Prop) (w:World) (vo vp vc:Value) (P:Pr) (Fo Fp Fc:Nat->Prop):Prop where
 o:OwnIn Fo w vo P.orders
 p:RowsI Fp w vp P.powers
 c:Rows3I Fc w vc P.conj
 do_:∀k,Fo k->F k/\¬Fp k/\¬Fc k
 dp:∀k,Fp k->F k/\¬Fc k
 dc:∀k,Fc k->F k
theorem PresX.part {F:Nat->Prop}{w:World}{vo vp vc:Value}{P:Pr}(h:PresX F w vo vp vc P):∃Fo Fp Fc,Part3 F w vo vp vc P Fo Fp Fc:=by
 obtain⟨Fo,Fp,Fc,h1,h2,h3,h4,h5,h6⟩:=h;exact⟨Fo,Fp,Fc,h1,h2,h3,h4,h5,h6⟩
theorem SlI.sl {α:Type} [Inhabited α] {El:(Nat->Prop)->World->Value->α->Prop}{E:Nat}{F:Nat->Prop}{w:World}{v:Value}{xs:List α}(h:SlI El E F w v xs):∃a n c,v=.slice a n c/\n=xs.length:=by
 rcases h.form with⟨rfl,rfl⟩|⟨g,cap,rfl,_⟩
 ·exact⟨_,_,_,rfl,rfl⟩
 ·exact⟨_,_,_,rfl,rfl⟩
theorem PresX.sh2 {F:Nat->Prop}{w:World}{vo vp vc:Value}{P:Pr}(h:PresX F w vo vp vc P):∃a2 b c2 a e c3,vp=.slice a2 b c2/\vc=.slice a e c3/\b=P.powers.length/\e=P.conj.length:=by
 obtain⟨_,_,a2,c2,a,c3,_,h2,h3⟩:=h.shape;exact⟨a2,_,c2,a,_,c3,h2,h3,rfl,rfl⟩
theorem Part3.newP {F:Nat->Prop}{w w':World}{vo vp vc v':Value}{P:Pr}{Fo Fp Fc:Nat->Prop}(h:Part3 F w vo vp vc P Fo Fp Fc) {L:List (List Int)}(j:RowsI (λk=>Fp k\/w.heap.size<=k) w' v' L) (b:w.grownBy w' vp.ownBlock) :
  PresX (λk=>F k\/w.heap.size<=k) w' vo v' vc { P with powers:=L } :=by
 have i:∀k,vp.ownBlock=some k->Fp k:=by
  obtain⟨_,_,_,_,_,h1,_⟩:=h.p;exact h1
 refine ⟨λk=>Fo k/\k<w.heap.size,λk=>Fp k/\k<w.heap.size\/w.heap.size<=k,λk=>Fc k/\k<w.heap.size,
  rdOwn.mono h.o (λk hk a=>⟨⟨hk,a⟩,Nat.lt_of_lt_of_le a b.size,b.block k a (λe=>(h.do_ k hk).2.1 (i k e.symm))⟩),
  rdRowsI.mono j (λk hk a=>⟨?_,a,rfl⟩),
  rdRows3I.mono h.c (λk hk a=>⟨⟨hk,a⟩,Nat.lt_of_lt_of_le a b.size,b.block k a (λe=>(h.dp k (i k e.symm)).2 hk)⟩),
  λk hk=>⟨.inl (h.do_ k hk.1).1,λe => ?_,λe=>(h.do_ k hk.1).2.2 e.1⟩,λk hk=>⟨?_,λe => ?_⟩,λk hk => .inl (h.dc k hk.1)⟩
 ·rcases hk with hk|hk
  ·rcases Nat.lt_or_ge k w.heap.size with h|h
   ·exact .inl ⟨hk,h⟩
   ·exact .inr h
  ·exact .inr hk
 ·rcases e with e|e
  ·exact(h.do_ k hk.1).2.1 e.1
  ·omega
 ·rcases hk with hk|hk
  ·exact .inl (h.dp k hk.1).1
  ·exact .inr hk
 ·rcases hk with hk|hk
  ·exact(h.dp k hk.1).2 e.1
  ·omega
theorem Part3.newC {F:Nat->Prop}{w w':World}{vo vp vc v':Value}{P:Pr}{Fo Fp Fc:Nat->Prop}(h:Part3 F w vo vp vc P Fo Fp Fc) {L:List (List (List Int))}(j:Rows3I (λk=>Fc k\/w.heap.size<=k) w' v' L) (b:w.grownBy w' vc.ownBlock) :
  PresX (λk=>F k\/w.heap.size<=k) w' vo vp v' { P with conj:=L } :=by
 have i:∀k,vc.ownBlock=some k->Fc k:=by
  obtain⟨_,_,_,_,_,h1,_⟩:=h.c;exact h1
 refine ⟨λk=>Fo k/\k<w.heap.size,λk=>Fp k/\k<w.heap.size,λk=>Fc k/\k<w.heap.size\/w.heap.size<=k,
  rdOwn.mono h.o (λk hk a=>⟨⟨hk,a⟩,Nat.lt_of_lt_of_le a b.size,b.block k a (λe=>(h.do_ k hk).2.2 (i k e.symm))⟩),
  rdRowsI.mono h.p (λk hk a=>⟨⟨hk,a⟩,Nat.lt_of_lt_of_le a b.size,b.block k a (λe=>(h.dp k hk).2 (i k e.symm))⟩),
  rdRows3I.mono j (λk hk a=>⟨?_,a,rfl⟩),
  λk hk=>⟨.inl (h.do_ k hk.1).1,λe=>(h.do_ k hk.1).2.1 e.1,λe => ?_⟩,λk hk=>⟨.inl (h.dp k hk.1).1,λe => ?_⟩,λk hk => ?_⟩
 ·rcases hk with hk|hk
  ·rcases Nat.lt_or_ge k w.heap.size with h|h
   ·exact .inl ⟨hk,h⟩
   ·exact .inr h
  ·exact .inr hk
 ·rcases e with e|e
  ·exact(h.do_ k hk.1).2.2 e.1
  ·omega
 ·rcases e with e|e
  ·exact(h.dp k hk.1).2 e.1
  ·omega
 ·rcases hk with hk|hk
  ·exact .inl (h.dc k hk.1)
  ·exact .inr hk
theorem presX_start {w:World}{vo:Value}{o:List Int}{B:Nat}(h:Own B w vo o) (a:o.length<=1000):PresX (From B) w vo (.slice none 0 0) (.slice none 0 0) ⟨o,[],[]⟩:=
 ⟨λk=>vo.ownBlock=some k,λ_=>False,λ_=>False,⟨h.weak (Nat.zero_le _),λ_ hk=>hk,by show o.length<=_;omega⟩,
  ⟨[],λ_ _=>False,rfl,by simp,World.ownsRow_nil _ _ _ _,by simp[Value.ownBlock],by simp,by simp,by simp⟩,⟨[],λ_ _=>False,rfl,by simp,World.ownsRow_nil _ _ _ _,by simp[Value.ownBlock],by simp,by simp,by simp⟩,
  λk hk=>⟨(h.lt k hk).1,λh=>h,λh=>h⟩,λ_ h=>h.elim,λ_ h=>h.elim⟩
theorem l07Trivial_ok (w:World) (ov:Value) (o:List Int) (S:Nat->Prop) (ho:Ints S w ov o) (hl:o.length<=100) :
  Calls Tryz.prog 277 #[ov] w (Ret w (PresR w.heap.size (trivP o))):=by
 obtain⟨ao,capo,rfl,_,_⟩:=ho.shape;have X:Ext w (w.alloc (.cells #[.slice none 0 0,.slice none 0 0,.slice none 0 0] 28)):=World.grownBy_alloc _ _ _;have Y:=Box3.made w 28 (.slice none 0 0) (.slice none 0 0) (.slice none 0 0);have q:=l01Own_ok (w.alloc (.cells #[.slice none 0 0,.slice none 0 0,.slice none 0 0] 28)) _ o S (ho.ext X) (by omega);have aK:=Lib.hid Y;clear Y;go_enter Tryz.func277,Tryz.ntmps277;go_wp2_with fail
 have J:(w.alloc (.cells #[.slice none 0 0,.slice none 0 0,.slice none 0 0] 28)).heap.size=w.heap.size+1:=by simp
 rw[J] at q;generalize w.alloc (.cells #[.slice none 0 0,.slice none 0 0,.slice none 0 0] 28)=w0 at *;refine Calls.mono q ?_;rintro e1 a ⟨v1,rfl,hg1,K⟩;clear q;obtain⟨a1,c1,jd,_⟩:=(K.ints (by omega)).shape;subst jd;go_wp2_with fail
 have Z:=Box3.made a 28 (.slice a1 o.length c1) (.slice none 0 0) (.slice none 0 0);have L:Ext a (a.alloc (.cells #[.slice a1 o.length c1,.slice none 0 0,.slice none 0 0] 28)):=World.grownBy_alloc _ _ _
 have aa:PresX (λk=>w.heap.size+1<=k/\k≠a.heap.size) (a.alloc (.cells #[.slice a1 o.length c1,.slice none 0 0,.slice none 0 0] 28)) (.slice a1 o.length c1) (.slice none 0 0) (.slice none 0 0) ⟨o,[],[]⟩:=
  (presX_start K (by omega)).mono (λk hk b=>⟨⟨hk,by omega⟩,Nat.lt_of_lt_of_le b L.size,L.block k b (by simp)⟩)
 have ab:=hg1.size;have U:=Lib.hid (And.intro J ab);clear J ab K;generalize a.alloc (.cells #[.slice a1 o.length c1,.slice none 0 0,.slice none 0 0] 28)=w2 at *
 go_loopw [5] (λiv wr=>∃(i:Nat) (vp vc:Value),iv=.int .i64 i/\i<=o.length/\Ext w0 wr/\Box3 wr a.heap.size (.slice a1 o.length c1) vp vc /\
  PresX (λk=>w.heap.size+1<=k/\k≠a.heap.size) wr (.slice a1 o.length c1) vp vc ⟨o,List.replicate i (zeros o.length),(List.range i).map (trivC o.length)⟩) (λiv _=>o.length-(intOf iv).toNat)
 case atStart=>exact⟨0,_,_,rfl,by omega,grown_trans hg1 L,Z,aa⟩
 case round=>
  clear Z aa;obtain⟨i,vp,vc,rfl,hi,hg,hB,hX⟩:=hrel;by_cases b:i<o.length
  ·have a7:(i:Int)<o.length:=by omega
   obtain⟨Fo,Fp,Fc,hP⟩:=hX.part;obtain⟨a2,n2,c2,V,W,c3,rfl,rfl,A,B⟩:=hX.sh2
   have r:(Value.slice a2 n2 c2).ownBlock≠some a.heap.size:=by
    obtain⟨_,_,_,_,_,M,_⟩:=hP.p;exact λe=>(hP.dp _ (M _ e)).1.2 rfl
   have HN:=Lib.hid (And.intro A (And.intro r B));clear A B r;obtain⟨h0,h1,h2,h3,h4⟩:=id hB;have aM:=run_mk_ints o.length (by omega);have ad:Ext wr (wr.alloc (.cells (madeCells #[.int .i64 0] o.length) 2)).drew:=grown_trans (World.grownBy_alloc _ _ _) (grown_drew _ _)
   have ae:OwnIn (From wr.heap.size) (wr.alloc (.cells (madeCells #[.int .i64 0] o.length) 2)).drew (.slice (some ⟨wr.heap.size,0,none⟩) o.length o.length) (zeros o.length):=by
    have:=(own_mk_ints o.length (by omega) wr).ext0 (grown_drew _ none);exact OwnIn.of this (by rw[zeros_len];omega) (λk hk _=>hk)
   have af:(List.replicate i (zeros o.length)).length<=1000000:=by simp;omega
   have ag:(Value.slice (some ⟨wr.heap.size+1,0,none⟩) 1 1)=.slice (some ⟨(wr.alloc (.cells (madeCells #[.int .i64 0] o.length) 2)).drew.heap.size,0,none⟩) 1 1:=by simp
   have HM:=Lib.hid (And.intro ad (And.intro ae (And.intro af ag)));clear ad ae af ag;go_wp2_with fail
   go_region_law (refine step_app_I rdOwn 25 (.slice none 0 0) 24 und_rows Tryz.infoRow rfl (by decide) (by rfl) _ _ (by rfl) Fp wr (wr.alloc (.cells (madeCells #[.int .i64 0] o.length) 2)).drew _ _ (List.replicate i (zeros o.length)) (zeros o.length) (by rfl) hP.p HM.out.1 HM.out.2.1 (by rfl) (by exact HM.out.2.2.2) HM.out.2.2.1 ?_;intro v5 N u l ai;obtain⟨E,m5,F,rfl,aj⟩:=SlI.sl u;have aN:m5=i+1:=(by rw[aj];simp);clear aj;subst aN;have O:=Box3.keep hB l.size (l.block _ hB.1 (λe=>HN.out.2.1 e.symm));obtain⟨f0,f1,f2,f3,f4⟩:=id O)
   all_goals
    have ak:=(O.put (.slice E (i+1) F)).2.1;have Q:=grown_set N a.heap.size 1 (.slice E (i+1) F)
    have al:PresX (λk=>w.heap.size+1<=k/\k≠a.heap.size) (N.setCell ⟨a.heap.size,1,none⟩ (.slice E (i+1) F)) (.slice a1 o.length c1) (.slice E (i+1) F) (.slice V W c3) ⟨o,List.replicate (i+1) (zeros o.length),(List.range i).map (trivC o.length)⟩:=by
     have aO:=hP.newP u l;rw[show List.replicate (i+1) (zeros o.length)=List.replicate i (zeros o.length)++[zeros o.length] from List.replicate_succ']
     exact aO.mono (frame_of Q (λk hk b=>by
      have aQ:(w.heap.size+1<=k/\k≠a.heap.size)\/wr.heap.size<=k:=hk;refine⟨?_,λe => ?_⟩
      ·have:=U.out;have:=hB.1
       omega
      ·cases e;have:=hB.1;omega))
    have G:Ext w0 (N.setCell ⟨a.heap.size,1,none⟩ (.slice E (i+1) F)):=grown_own (grown_own hg l (λj z b=>by
     obtain⟨_,_,_,_,_,M,_⟩:=hP.p;have:=(hP.dp _ (M _ z)).1;have:=U.out;omega)) Q (λj z b=>by cases z;have:=U.out;omega)
    have H:N.heap.size=(N.setCell ⟨a.heap.size,1,none⟩ (.slice E (i+1) F)).heap.size:=by simp
    have am:=Lib.hid H;clear H;have C:=Lib.hid (And.intro ak (And.intro al G));clear ak al G Q O u l ai hP hX hB hg h0 h1 h2 h3 h4 HM HN aM;go_wp2;clear f0 f1 f2 f3 f4;generalize N.setCell ⟨a.heap.size,1,none⟩ (.slice E (i+1) F)=m at *;rw[am.out];clear am;have an:Ext m (m.alloc (.cells #[] 24)):=World.grownBy_alloc _ _ _;have ap:RowsO m.heap.size (m.alloc (.cells #[] 24)) (.slice (some ⟨m.heap.size,0,none⟩) 0 0) ((trivC o.length i).take 0):=⟨[],λ_ _=>False,rfl,World.ownsRow_lit m #[] 0 (Nat.le_refl _) (by decide) rfl,by simp,by simp,by simp⟩;have aq:=trivC_len o.length i;have HC:=Lib.hid aq;clear aq;go_loopw [6,7] (λrv jv wr=>∃(j:Nat) (v4:Value),v4=rv/\jv=.int .i64 ((i+1+j:Nat):Int)/\i+1+j<=o.length/\Ext m wr/\RowsO m.heap.size wr v4 ((trivC o.length i).take j)) (λ_ jv _=>o.length-(intOf jv).toNat)
    case atStart=>exact⟨0,_,rfl,by go_num,by omega,an,ap⟩
    case round=>
     clear ap an;obtain⟨j,v4,rfl,rfl,z,D,hO⟩:=hrel;by_cases ar:i+1+j<o.length
     ·have aT:((i+1+j:Nat):Int)<o.length:=by omega
      have y:(trivC o.length i).take (j+1)=(trivC o.length i).take j++[unitV o.length (i+1+j)]:=by
       rw[take_succ_gt _ j (by rw[HC.out];omega)];unfold trivC;rw[gt_map _ _ _ (by simp;omega),gt_eq _ _ (by simp;omega),List.getElem_range]
      have au:((trivC o.length i).take j).length<=1000000:=by rw[List.length_take];omega
      have HS:=Lib.hid (And.intro y au);clear y au;go_wp2_with fail
      refine Calls.mono (l07Unit_ok o.length (i+1+j) wr ar (by omega)) ?_;rintro eC wC ⟨vC,rfl,aU,fT⟩;have av:OwnIn (From wr.heap.size) wC vC (unitV o.length (i+1+j)):=OwnIn.of fT (by rw[unitV_len];omega) (λj h1 _=>h1);obtain⟨ay,capy,gz,_,_⟩:=av.ints.shape;subst gz;go_wp2_with (first|(at_builtin;refine wp_app_row rfl _ _ rfl m.heap.size wr wC v4 _ ((trivC o.length i).take j) (unitV o.length (i+1+j)) rfl hO aU av rfl rfl HS.out.2 D.size ?_;intro v5 N u l ai;have aw:=hO.extw D (Nat.le_refl _) l)|fail)
      go_roundw
      case rel=>exact⟨j+1,v5,rfl,by go_num,by omega,aw,by rw[HS.out.1];exact u⟩
      case measure=>simp[intOf];omega
     ·have aV:j=o.length-1-i:=by omega
      subst aV;rw[List.take_of_length_le (by rw[HC.out];exact Nat.le_refl _)] at hO;have ax:RowsI (From m.heap.size) wr v4 (trivC o.length i):=SlI.of hO (by rw[HC.out];omega) (λk h _=>h);have R:=C.out.1.ext D;obtain⟨Fo,Fp,Fc,hP⟩:=C.out.2.1.part;have I:((List.range i).map (trivC o.length)).length<=1000000:=by simp;omega
      obtain⟨a4,n4,c4,rfl,az⟩:=SlI.sl ax
      have r:(Value.slice V W c3).ownBlock≠some a.heap.size:=by
       obtain⟨_,_,_,_,_,M,_⟩:=hP.c;exact λe=>(hP.dc _ (M _ e)).2 rfl
      have HR:=Lib.hid (And.intro I (And.intro az r));clear I az hO r;obtain⟨f0,f1,f2,f3,f4⟩:=id R;go_wp2_with (first|(at_builtin;refine wp_app_I (rdI rdOwn) 26 (.slice none 0 0) 24 und_rows3 Tryz.infoRows rfl (by decide) rfl _ _ rfl Fc m wr _ _ ((List.range i).map (trivC o.length)) (trivC o.length i) rfl hP.c D ax rfl rfl HR.out.1 ?_;intro v8 w8 aA aB aC;obtain⟨g8,m8,k8,rfl,fU⟩:=SlI.sl aA;clear fU;have aG:=Box3.keep R aC.size (aC.block _ R.1 (λe=>HR.out.2.2 e.symm));clear f0 f1 f2 f3 f4;obtain⟨f0,f1,f2,f3,f4⟩:=id aG)|fail)
      have aX:=(aG.put (.slice g8 m8 k8)).2.2;have aH:=grown_set w8 a.heap.size 2 (.slice g8 m8 k8)
      have aY:PresX (λk=>w.heap.size+1<=k/\k≠a.heap.size) (w8.setCell ⟨a.heap.size,2,none⟩ (.slice g8 m8 k8)) (.slice a1 o.length c1) (.slice E (i+1) F) (.slice g8 m8 k8) ⟨o,List.replicate (i+1) (zeros o.length),(List.range (i+1)).map (trivC o.length)⟩:=by
       have aZ:=hP.newC aA aB;rw[show(List.range (i+1)).map (trivC o.length)=(List.range i).map (trivC o.length)++[trivC o.length i] by rw[List.range_succ,List.map_append];rfl]
       exact aZ.mono (frame_of aH (λk hk b=>by
        have aQ:(w.heap.size+1<=k/\k≠a.heap.size)\/m.heap.size<=k:=hk;have h1:=C.out.1.1;refine⟨?_,λe => ?_⟩
        ·have:=U.out
         omega
        ·cases e;omega))
      have aI:Ext w0 (w8.setCell ⟨a.heap.size,2,none⟩ (.slice g8 m8 k8)):=grown_own (grown_own C.out.2.2 aB (λj z b=>by
       obtain⟨_,_,_,_,_,M,_⟩:=hP.c;have:=hP.dc _ (M _ z);have:=U.out;omega)) aH (λj z b=>by cases z;have:=U.out;omega)
      clear f0 f1 f2 f3 f4;go_roundw
      case rel=>exact⟨i+1,_,_,by go_num,by omega,aI,aX,aY⟩
      case measure=>simp[intOf];omega
    done
  ·have a0:i=o.length:=by omega
   subst a0;have hz:=aK.out.ext hg;obtain⟨a2,n2,c2,V,W,c3,rfl,rfl,A,B⟩:=hX.sh2;clear A B;obtain⟨h0,h1,h2,h3,h4⟩:=id hB;obtain⟨k0,k1,k2,k3,k4⟩:=id hz;have hZ:=hz.all (.slice a1 o.length c1) (.slice a2 n2 c2) (.slice V W c3);have hT:=grown_set3 wr w.heap.size (.slice a1 o.length c1) (.slice a2 n2 c2) (.slice V W c3);obtain⟨_,z0,z1,z2,_⟩:=id hZ;have HT:=Lib.hid hT;clear hT hZ;go_wp2;refine bodyPost_ret (v := .agg #[.slice a1 o.length c1,.slice a2 n2 c2,.slice V W c3]) (by simp[results,Tryz.results277,go_sem,z0,z1,z2]) rfl ?_;exact⟨_,rfl,grown_own (grown_trans X hg) HT.out (λj z b=>by cases z;omega),_,_,_,rfl,hX.mono (frame_of HT.out (λk hk _=>⟨by show w.heap.size<=k;omega,λe=>by cases e;omega⟩))⟩
end Go.Proofs.YtldheeicjnncoaaGreat
namespace Go.Proofs.YtldheeicjnncoaaGreat
open Go.RowKit
def PC (Q:Pr) (c:Int) (w':World) (v:Value):Prop:=∃(a1:Option Addr) (a c1:Nat) (a2:Option Addr) (b c2:Nat) (e:Option Addr) (i c3:Nat),v=.tuple #[.agg #[.slice a1 a c1,.slice a2 b c2,.slice e i c3],.int .i64 c]/\Pres3 Any w' (.slice a1 a c1) (.slice a2 b c2) (.slice e i c3) Q
def nilP:Pr:=⟨[],[],[]⟩
theorem sl_nil {α:Type} [Inhabited α] (El:World->Value->α->Prop) (w:World):Sl El Any w (.slice none 0 0) ([]:List α):=⟨none,0,rfl,⟨by simp,by simp,λ_=>rfl⟩,λi hi=>by simp at hi⟩
theorem pres_nil (w:World):Pres3 Any w (.slice none 0 0) (.slice none 0 0) (.slice none 0 0) nilP:=⟨sl_nil _ w,sl_nil _ w,sl_nil _ w⟩
theorem HomV.parts {S:Nat->Prop}{w:World}{vo vp vc j up k l:Value}{P Q:Pr}{Is:List (List Int)}(h:HomV S w (.agg #[vo,vp,vc,j,up,k,l]) P Q Is):PresV S w (.agg #[vo,vp,vc]) P/\PresV S w (.agg #[j,up,k]) Q/\Rows2 S w l Is:=by
 obtain⟨a,b,c,d,e,f,g,i,h1,h2,h3⟩:=h;injection i with i;have i:=congrArg Array.toList i;simp only[List.cons.injEq,and_true] at i;obtain⟨rfl,rfl,rfl,rfl,rfl,rfl,rfl⟩:=i;exact⟨⟨_,_,_,rfl,h1⟩,⟨_,_,_,rfl,h2⟩,h3⟩
theorem HomV.ext {S:Nat->Prop}{w w':World}{v:Value}{P Q:Pr}{Is:List (List Int)}(h:HomV S w v P Q Is) (i:Ext w w'):HomV S w' v P Q Is:=by
 obtain⟨a,b,c,d,e,f,g,he,h1,h2,h3⟩:=h;exact⟨a,b,c,d,e,f,g,he,h1.ext i,h2.ext i,Rows2.ext h3 i⟩
theorem HomV.mono {S S':Nat->Prop}{w w':World}{v:Value}{P Q:Pr}{Is:List (List Int)}(h:HomV S w v P Q Is) (i:∀k,S k->k<w.heap.size->S' k/\k<w'.heap.size/\w'.heap[k]? = w.heap[k]?):HomV S' w' v P Q Is:=by
 obtain⟨a,b,c,d,e,f,g,he,h1,h2,h3⟩:=h;exact⟨a,b,c,d,e,f,g,he,h1.mono i,h2.mono i,Rows2.mono h3 i⟩
noncomputable def nhP (P:Pr) (U:List (List Int)):Pr:=if cpnC P U=0 then P else nilP
noncomputable def nhQ (P:Pr) (U:List (List Int)):Pr:=if cpnC P U=0 then quoP P U else nilP
noncomputable def nhI (P:Pr) (U:List (List Int)):List (List Int):=if cpnC P U=0 then qIm P U else []
theorem nh_ok {P:Pr}{U:List (List Int)}(h:cpnC P U=0):nhP P U=P/\nhQ P U=quoP P U/\nhI P U=qIm P U:=⟨if_pos h,if_pos h,if_pos h⟩
theorem nh_no {P:Pr}{U:List (List Int)}(h:¬cpnC P U=0):nhP P U=nilP/\nhQ P U=nilP/\nhI P U=[]:=⟨if_neg h,if_neg h,if_neg h⟩
theorem nh_facts {P:Pr}{U:List (List Int)}(h:cpnC P U=0):rconsB P=true/\SubB P U/\NormG P (gU P U) U/\NormP P (gU P U):=by
 obtain⟨hr,hU⟩:=cpn_zero h;have G:=grp_of_r hr
 have hn:NormG P (gU P U) (cseq P (gU P U)):=by
  apply Classical.byContradiction;intro hn;unfold cpnC at h;rw[if_pos ⟨hr,hU⟩,if_neg hn] at h;cases h
 have a:NormG P (gU P U) U:=by rw[hU.2.symm] at hn;exact hn
 exact⟨hr,hU,a,(G.norm_iff (G.subB hU)).1 hn⟩
def NatV (P:Pr) (U:List (List Int)) (w':World) (v:Value):Prop:=∃(a1:Option Addr) (a c1:Nat) (a2:Option Addr) (b c2:Nat) (e:Option Addr) (i c3:Nat) (j:Option Addr) (n4 c4:Nat) (k:Option Addr) (l c5:Nat) (m:Option Addr) (n6 c6:Nat) (p:Option Addr) (n7 c7:Nat),
 v=.tuple #[.agg #[.slice a1 a c1,.slice a2 b c2,.slice e i c3,.slice j n4 c4,.slice k l c5,.slice m n6 c6,.slice p n7 c7],.int .i64 (cpnC P U)]/\HomV Any w' (.agg #[.slice a1 a c1,.slice a2 b c2,.slice e i c3,.slice j n4 c4,.slice k l c5,.slice m n6 c6,.slice p n7 c7]) (nhP P U) (nhQ P U) (nhI P U)
theorem hom_nil (w:World):HomV Any w (.agg #[.slice none 0 0,.slice none 0 0,.slice none 0 0,.slice none 0 0,.slice none 0 0,.slice none 0 0,.slice none 0 0]) nilP nilP []:=⟨_,_,_,_,_,_,_,rfl,pres_nil w,pres_nil w,sl_nil _ w⟩
def HomC (w:World) (b:Nat) (vo vp vc a up e i:Value):Prop:=
 w.cell? ⟨b,0,none⟩=some vo/\w.cell? ⟨b,1,none⟩=some vp/\w.cell? ⟨b,2,none⟩=some vc/\w.cell? ⟨b,3,none⟩=some a/\w.cell? ⟨b,4,none⟩=some up/\w.cell? ⟨b,5,none⟩=some e/\w.cell? ⟨b,6,none⟩=some i
theorem HomC.made (w:World) (T:Nat) (vo vp vc b up e j:Value):HomC (w.alloc (.cells #[vo,vp,vc,b,up,e,j] T)) w.heap.size vo vp vc b up e j:=by
 have a:∀i,(w.alloc (.cells #[vo,vp,vc,b,up,e,j] T)).cell? ⟨w.heap.size,i,none⟩ = #[vo,vp,vc,b,up,e,j][i]? :=λi=>World.cell?_alloc_at _ _ _ _ rfl;exact⟨by rw[a];rfl,by rw[a];rfl,by rw[a];rfl,by rw[a];rfl,by rw[a];rfl,by rw[a];rfl,by rw[a];rfl⟩
theorem HomC.ext {w w':World}{b:Nat}{vo vp vc e up i j:Value}(h:HomC w b vo vp vc e up i j) (a:Ext w w'):HomC w' b vo vp vc e up i j:=by
 obtain⟨k,h1,h2,h3,h4,h5,h6⟩:=h;exact⟨a.cell k (by simp),a.cell h1 (by simp),a.cell h2 (by simp),a.cell h3 (by simp),a.cell h4 (by simp),a.cell h5 (by simp),a.cell h6 (by simp)⟩
def boxF (W:World) (b:Nat) (f:Nat->Value) (n:Nat):Prop:=∀i,i<n->W.cell? ⟨b,i,none⟩=some (f i)
theorem boxF.put {W:World}{b n:Nat}{f:Nat->Value}(h:boxF W b f n) (j:Nat) (v:Value):boxF (W.setCell ⟨b,j,none⟩ v) b (λi=>if i=j then v else f i) n:=λi hi=>by
 by_cases e:i=j
 ·subst e
  show _=some (if i=i then v else f i)
  rw[if_pos rfl];exact World.cell?_setCell_same _ _ _ (h i hi)
 ·show _=some (if i=j then v else f i)
  rw[if_neg e];exact(World.cell?_setCell_other _ _ _ _ (by first|(simp;done)|simpa using e)).trans (h i hi)
def Box7 (W:World) (b:Nat) (x0 x1 x2 x3 x4 x5 x6:Value):Prop:=b<W.heap.size/\HomC W b x0 x1 x2 x3 x4 x5 x6/\∀k,W.frozen? ⟨b,k,none⟩=false
section
variable {W W':World}{b:Nat}{x0 x1 x2 x3 x4 x5 x6:Value}
theorem HomC.fn (h:HomC W b x0 x1 x2 x3 x4 x5 x6):boxF W b (λi=>[x0,x1,x2,x3,x4,x5,x6].getD i default) 7:=λi hi=>by
 obtain⟨a,h1,h2,h3,h4,h5,h6⟩:=h;match i,hi with
 | 0,_=>exact a
 | 1,_=>exact h1
 | 2,_=>exact h2
 | 3,_=>exact h3
 | 4,_=>exact h4
 | 5,_=>exact h5
 | 6,_=>exact h6
theorem HomC.all (h:HomC W b x0 x1 x2 x3 x4 x5 x6) (a e i j l m p:Value):HomC (((((((W.setCell ⟨b,0,none⟩ a).setCell ⟨b,1,none⟩ e).setCell ⟨b,2,none⟩ i).setCell ⟨b,3,none⟩ j).setCell ⟨b,4,none⟩ l).setCell ⟨b,5,none⟩ m).setCell ⟨b,6,none⟩ p) b a e i j l m p:=by
 have k:=((((((h.fn.put 0 a).put 1 e).put 2 i).put 3 j).put 4 l).put 5 m).put 6 p;exact⟨k 0 (by decide),k 1 (by decide),k 2 (by decide),k 3 (by decide),k 4 (by decide),k 5 (by decide),k 6 (by decide)⟩
theorem HomC.put6 (h:HomC W b x0 x1 x2 x3 x4 x5 x6) (y:Value):HomC (W.setCell ⟨b,6,none⟩ y) b x0 x1 x2 x3 x4 x5 y:=by
 have k:=h.fn.put 6 y;exact⟨k 0 (by decide),k 1 (by decide),k 2 (by decide),k 3 (by decide),k 4 (by decide),k 5 (by decide),k 6 (by decide)⟩
theorem Box7.ext (h:Box7 W b x0 x1 x2 x3 x4 x5 x6) (a:Ext W W'):Box7 W' b x0 x1 x2 x3 x4 x5 x6:=
 ⟨Nat.lt_of_lt_of_le h.1 a.size,h.2.1.ext a,λk=>(World.frozen?_of_block (w:=W) (a.block b h.1 (by simp))).trans (h.2.2 k)⟩
theorem Box7.made (w:World) (T:Nat) (x0 x1 x2 x3 x4 x5 x6:Value):Box7 (w.alloc (.cells #[x0,x1,x2,x3,x4,x5,x6] T)) w.heap.size x0 x1 x2 x3 x4 x5 x6:=
 ⟨by simp,HomC.made w T x0 x1 x2 x3 x4 x5 x6,λk=>World.frozen?_alloc_at _ _ _ _ rfl⟩
theorem Box7.put6 (h:Box7 W b x0 x1 x2 x3 x4 x5 x6) (y:Value):Box7 (W.setCell ⟨b,6,none⟩ y) b x0 x1 x2 x3 x4 x5 y:=
 ⟨by simpa [World.setCell] using h.1,h.2.1.put6 y,λk=>by simp[h.2.2]⟩
theorem Box7.keep (h:Box7 W b x0 x1 x2 x3 x4 x5 x6) (j:W.heap.size<=W'.heap.size) (e:W'.heap[b]? = W.heap[b]?):Box7 W' b x0 x1 x2 x3 x4 x5 x6:=by
 obtain⟨l,⟨c0,c1,c2,c3,c4,c5,c6⟩,m⟩:=h;have a:∀i,W'.cell? ⟨b,i,none⟩=W.cell? ⟨b,i,none⟩:=λi=>World.cell?_of_block e;exact⟨Nat.lt_of_lt_of_le l j,⟨(a 0).trans c0,(a 1).trans c1,(a 2).trans c2,(a 3).trans c3,(a 4).trans c4,(a 5).trans c5,(a 6).trans c6⟩,λk=>(World.frozen?_of_block (w:=W) e).trans (m k)⟩
end
theorem grown_set7 (w:World) (b:Nat) (x0 x1 x2 x3 x4 x5 x6:Value):w.grownBy (((((((w.setCell ⟨b,0,none⟩ x0).setCell ⟨b,1,none⟩ x1).setCell ⟨b,2,none⟩ x2).setCell ⟨b,3,none⟩ x3).setCell ⟨b,4,none⟩ x4).setCell ⟨b,5,none⟩ x5).setCell ⟨b,6,none⟩ x6) (some b):=
 grown_trans (grown_set1 _ _ _ _) (grown_trans (grown_set1 _ _ _ _) (grown_trans (grown_set1 _ _ _ _) (grown_trans (grown_set1 _ _ _ _) (grown_trans (grown_set1 _ _ _ _) (grown_trans (grown_set1 _ _ _ _) (grown_set1 _ _ _ _))))))
end Go.Proofs.YtldheeicjnncoaaGreat
