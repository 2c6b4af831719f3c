/- Merged from templates. -/
import Derived.Test.YtdcobapnlpeaaaaGreatX15
set_option maxRecDepth 100000
set_option maxHeartbeats 8000000
namespace Go.Proofs.YtdcobapnlpeaaaaGreat
open Go.RowKit
def jx (P:Pr) (m x:Nat) (y:List Int):Prop:=∃t,t<x/\m.testBit t=true/\y=elAt P (t:Int)
theorem zh (P:Pr) (m:Nat):jx P m 0=λ_=>False:=
 funext λy=>propext ⟨λ⟨t,h,_⟩=>by omega,λh=>h.elim⟩
theorem zi {P:Pr}{m x:Nat}(h:m.testBit x=false):jx P m (x+1)=jx P m x:=by
 funext y
 refine propext ⟨λ⟨t,h1,a,h3⟩ => ?_,λ⟨t,h1,a,h3⟩=>⟨t,by omega,a,h3⟩⟩;rcases Nat.lt_or_ge t x with b|b
 ·exact⟨t,b,a,h3⟩
 ·obtain rfl:t=x:=by omega
  rw[h] at a;cases a
theorem zj {P:Pr}{m x:Nat}(h:m.testBit x=true):genP P (λz=>genP P (jx P m x) z\/z∈[elAt P (x:Int)])=genP P (jx P m (x+1)):=by
 rw[genP_or];congr 1
 funext z
 refine propext ⟨λb => ?_,λ⟨t,h1,h2,a⟩ => ?_⟩
 ·rcases b with⟨t,h1,h2,a⟩|b
  ·exact⟨t,by omega,h2,a⟩
  ·exact⟨x,by omega,h,by simpa using b⟩
 ·rcases Nat.lt_or_ge t x with e|e
  ·exact .inl ⟨t,e,h2,a⟩
  ·obtain rfl:t=x:=by omega
   exact .inr (by simpa using a)
section
variable {P:Pr}(G:Grp P)
include G
theorem Grp.zk {H:List Int->Prop}(S:Sub P H):genP P (jx P (msk P H) (ordP P).toNat)=H:=by
 have:jx P (msk P H) (ordP P).toNat=H:=funext λy=>propext ⟨λ⟨t,h1,a,b⟩=>by
  rw[b];exact(msk_bit h1).1 a,λhy=>by
  obtain⟨h1,a⟩:=G.num_lt (S.vec y hy);exact⟨_,h1,(msk_bit h1).2 (by rw[a];exact hy),a.symm⟩⟩
 rw[this];exact genP_self S
end
theorem zl (a b:Nat) (ha:a<2 ^ 32) (e:b<2 ^ 32):bits .or .i64 (a:Int) (b:Int)=((a ||| b:Nat):Int):=by
 have hx:a ||| b<2 ^ 32:=Nat.or_lt_two_pow ha e;have g:a<4294967296:=ha;have i:b<4294967296:=e;have j:a ||| b<4294967296:=hx;show IntKind.i64.wrap ((BitVec.ofInt 64 (a:Int) ||| BitVec.ofInt 64 (b:Int)).toNat:Int)=_
 rw[BitVec.toNat_or,ofInt_u64 a (by omega),ofInt_u64 b (by omega)];exact IntWalk.i64_in _ ⟨by omega,by omega⟩
theorem sK {P:Pr}(G:Grp P) (a:ordP P<=32) {m t b:Nat}(e:t<(ordP P).toNat) (g:b<(ordP P).toNat):∀k,k<=(ordP P).toNat->gm P m t b k<2 ^ 32
 | 0,_=>by show 0<2 ^ 32;decide
 | k + 1,hk=>by
  have i:=sK G a e g k (by omega) (m:=m);unfold gm;split
  ·have h1:=G.tb_lt g (show k<(ordP P).toNat by omega)
   have j:=G.tb_lt h1.1 e;exact Nat.or_lt_two_pow i (Nat.pow_lt_pow_right (by decide) (by omega))
  ·exact i
theorem sL (sl:List Nat) (x:Nat) (w:World) (v:Value) (S:Nat->Prop) (u:Ints S w v (dy sl)) (I:sl.length<=100000) :
  Calls Tryz.prog 266 #[v,.int .i64 (x:Int)] w (Ret w λ_ v=>v=.bool (decide (x∈sl))):=by
 obtain⟨a,c,k,_,_⟩:=u.shape;rw[fE] at k;subst k;have l:Sl IntEl S w (.slice a (dy sl).length c) (dy sl):=by rw[fE];exact u
 have G:=Lib.hid l;clear u l;go_enter Tryz.func266,Tryz.ntmps266;go_wp2;go_loopw [5] (λz wr=>∃i:Nat,z=.int .i64 i/\i<=sl.length/\Ext w wr/\Hid (∀j,j<i->gt sl j≠x)) (λz _=>sl.length-(intOf z).toNat)
 case atStart=>exact⟨0,by go_num,by omega,Ext.refl _,Lib.hid (λj q=>by omega)⟩
 case round=>
  obtain⟨i,rfl,hi,hg,hN⟩:=hrel;by_cases g:i<sl.length
  ·have F:(i:Int)<sl.length:=by omega
   obtain⟨b,o,hab,_,_,r⟩:=Ints.at G.out i (by rw[fE];exact g);subst hab;rw[jJ g] at r;have A:=hg.cell r (by simp);by_cases m:gt sl i=x
   ·have n:x∈sl:=by rw[<-m];exact gtMem g
    rw[m] at A;have B:=Lib.hid n;clear n m r;go_wp2;go_ret;exact⟨_,rfl,hg,by simp[B.out]⟩
   ·have C:(((gt sl i:Nat):Int) == (x:Int))=false:=by
     have:¬((gt sl i:Nat):Int)=(x:Int):=by omega
     simpa using this
    have p:∀j,j<i+1->gt sl j≠x:=λj q=>by
     rcases Nat.lt_succ_iff_lt_or_eq.1 q with h|h
     ·exact hN.out j h
     ·rw[h];exact m
    have D:=Lib.hid p;clear p m r hN;generalize gt sl i=y at *;go_wp2;clear C;go_roundw
    case rel=>exact⟨i+1,by go_num,by omega,hg,D⟩
    case measure=>simp[intOf];omega
  ·have E:i=sl.length:=by omega
   have n:¬x∈sl:=λh=>by
    obtain⟨j,q,e⟩:=List.getElem_of_mem h;rw[<-gt_eq sl j q] at e;exact hN.out j (by omega) e
   have H:¬(i:Int)<sl.length:=by omega
   have B:=Lib.hid n;clear n E hN;go_wp2;go_ret;exact⟨_,rfl,hg,by simp[B.out]⟩
theorem zm (P:Pr) (G:Grp P) (ag:ordP P<=32) (u:List (List Int)) (hu:SubB P u) (t:Nat) (ht:t<(ordP P).toNat) (w:World) (tv:Value) (S:Nat->Prop) (T:Rows2 S w tv (tabL P)) :
  Calls Tryz.prog 267 #[tv,.int .i64 ((mskU P u:Nat):Int),.int .i64 (t:Int)] w (Ret w λ_ v=>v=.int .i64 ((mskU P (fI P u (elAt P (t:Int))):Nat):Int)):=by
 obtain⟨gL,Y,rfl,_,_⟩:=Sl.shape T;have Z:=G.v.ordP_pos;have hT:=G.elAtV ht;obtain⟨N,hN⟩:∃N,N=(ordP P).toNat:=⟨_,rfl⟩;have av:N<=32:=by omega
 have k:(tabL P).length=N:=by rw[tabL_len,hN]
 have U:Rows2 S w (.slice gL N Y) (tabL P):=by rw[<-k];exact T
 rw[k];have V:(num P (zeros P.orders.length)).toNat=0:=by rw[num_zeros G.v];rfl
 -- the place of the inverse
 obtain ⟨b0,hb0,zo⟩:∃b0,b0<N/\tb P t b0=0:=by
  obtain⟨h1,h2⟩:=G.num_lt (G.invV hT);refine⟨(num P (rInv P (elAt P (t:Int)))).toNat,by omega,?_⟩;unfold tb;rw[h2,G.mul_inv hT];exact V
 have r:∀a,a<N->tb P t a=0->elAt P (a:Int)=rInv P (elAt P (t:Int)):=λa aj he=>by
  have hB:=G.elAtV (P:=P) (show a<(ordP P).toNat by omega);refine G.inv_of hT hB ?_;have h1:=(G.tb_lt ht (show a<(ordP P).toNat by omega)).2;rw[he] at h1;rw[<-h1];obtain⟨h3,h4⟩:=G.num_lt G.oneV;rw[V] at h4;exact h4
 have L:t<N:=by omega
 have j:=Lib.hid (And.intro hN (And.intro k (And.intro r (And.intro hu ht))));clear hN k r hu T Z V ht;obtain⟨m,hm⟩:∃m,m=mskU P u:=⟨_,rfl⟩;rw[<-hm];have HM:=Lib.hid hm;clear hm;have aC:(t:Int)<N:=by omega
 go_enter Tryz.func267,Tryz.ntmps267;go_wp2;go_loopw [7] (λbv wr=>∃a:Nat,bv=.int .i64 a/\a<=b0/\Ext w wr) (λbv _=>33-(intOf bv).toNat)
 case atStart=>exact⟨0,by go_num,by omega,Ext.refl _⟩
 case round=>
  obtain⟨a,rfl,aj,I⟩:=hrel;have A:a<N:=by omega
  have aD:(a:Int)<N:=by omega
  obtain⟨bt,ot,a2,cap2,hbt,_,_,W,hrt⟩:=Rows2.at (Rows2.ext U I) t (by rw[j.out.2.1];exact L);subst hbt;have J:(gt (tabL P) t).length=N:=by rw[tabL_row j.out.2.2.2.2,j.out.1];simp
  obtain⟨br,or',hbr,_,_,l⟩:=Ints.at hrt a (by rw[J];exact A);subst hbr;rw[J] at W;rw[tabL_at j.out.2.2.2.2 (by rw[<-j.out.1];exact A)] at l;by_cases M:tb P t a=0
  ·have he:=j.out.2.2.1 a A M
   rw[M] at l;have HE:=Lib.hid he;clear he M J;have l:wr.cell? ⟨br,or'+a,none⟩=some (.int .i64 0):=l;go_wp2;clear l W hrt;go_loopw [8,9] (λov xv wr=>∃x:Nat,ov=.int .i64 ((gm P m t a x:Nat):Int)/\xv=.int .i64 x/\x<=N/\Ext w wr) (λ_ xv _=>N-(intOf xv).toNat)
   case atStart=>exact⟨0,rfl,by go_num,by omega,I⟩
   case round=>
    clear I;obtain⟨x,rfl,rfl,hx,I⟩:=hrel;by_cases an:x<N
    ·have ax:(x:Int)<N:=by omega
     have b:=mQ m x;have ac:=j.out.1;have K:x<(ordP P).toNat:=by omega
     have n:a<(ordP P).toNat:=by omega
     cases g:m.testBit x with
     | false=>
      rw[g] at b;have b:((m:Int)/2 ^ x).tmod 2=0:=b;have i:gm P m t a (x+1)=gm P m t a x:=by rw[gm,if_neg (by rw[g];simp)]
      have HS:=Lib.hid i;clear i g ac K n;generalize gm P m t a x=q at *;go_wp2;clear b;go_roundw
      case rel=>exact⟨x+1,by rw[HS.out],by go_num,by omega,I⟩
      case measure=>simp[intOf];omega
     | true=>
      rw[g] at b;have b:((m:Int)/2 ^ x).tmod 2=1:=b;have i:gm P m t a (x+1)=gm P m t a x ||| 2 ^ tb P (tb P a x) t:=by rw[gm,if_pos g]
      have X:=sK G ag j.out.2.2.2.2 n x (by omega) (m:=m);have h1:=(G.tb_lt n K).1;have h2:=(G.tb_lt h1 j.out.2.2.2.2).1;obtain⟨aG,Du,a21,Dv,zq,_,_,O,sM⟩:=Rows2.at (Rows2.ext U I) a (by rw[j.out.2.1];exact A);have B:(gt (tabL P) a).length=N:=by rw[tabL_row n,j.out.1];simp
      obtain⟨aH,Dw,zu,_,_,C⟩:=Ints.at sM x (by rw[B];exact an);subst zu;rw[B] at O;rw[tabL_at n K] at C;obtain⟨y,hy⟩:∃y,y=tb P a x:=⟨_,rfl⟩;rw[<-hy] at C h1 h2 i;have ap:y<N:=by omega
      obtain⟨aI,Dx,a22,Dy,zw,_,_,Q,sN⟩:=Rows2.at (Rows2.ext U I) y (by rw[j.out.2.1];exact ap);have D:(gt (tabL P) y).length=N:=by rw[tabL_row h1,j.out.1];simp
      obtain⟨aJ,Dz,zx,_,_,E⟩:=Ints.at sN t (by rw[D];exact L);subst zx;rw[D] at Q;rw[tabL_at h1 j.out.2.2.2.2] at E;obtain⟨z,M⟩:∃z,z=tb P y t:=⟨_,rfl⟩;rw[<-M] at E h2 i;have aK:z<N:=by omega
      cases zq
      cases zw
      have R:=oJ z (by omega);have F:(2:Nat) ^ z<2 ^ 32:=Nat.pow_lt_pow_right (by decide) (by omega);obtain⟨p,hp⟩:∃p,p=2 ^ z:=⟨_,rfl⟩;rw[<-hp] at R i F;obtain⟨q,hq⟩:∃q,q=gm P m t a x:=⟨_,rfl⟩;rw[<-hq] at X i ⊢;have aL:=zl q p X F;have aM:(y:Int)<N:=by omega
      have HS:=Lib.hid i;clear i g ac K n h1 h2 B D hy M hp hq X F sM sN;go_wp2;clear b R O Q C E;go_roundw
      case rel=>exact⟨x+1,by rw[HS.out],by go_num,by omega,I⟩
      case measure=>simp[intOf];omega
    ·have ad:x=N:=by omega
     have H:=G.xY j.out.2.2.2.1 j.out.2.2.2.2 (by rw[<-j.out.1];exact A) HE.out;rw[<-HM.out,<-j.out.1,<-ad] at H;have aN:¬(x:Int)<N:=by omega
     have aq:=Lib.hid H;clear H ad;generalize gm P m t a x=q at *;go_wp2;go_ret;exact⟨_,rfl,I,congrArg (λz:Nat=>Value.int .i64 (z:Int)) aq.out⟩
  ·have aA:a≠b0:=λe=>M (by rw[e];exact zo)
   have ar:(((tb P t a:Nat):Int) != 0)=true:=by
    have:¬((tb P t a:Nat):Int)=0:=by omega
    simpa using this
   generalize tb P t a=y at *;clear M J;go_wp2;clear l W hrt ar;go_roundw
   case rel=>exact⟨a+1,by go_num,by omega,I⟩
   case measure=>simp[intOf];omega
theorem zy (P:Pr) (w:World) (pv:Value) (C:Nat->Prop) (z:PresV C w pv P) :
  Calls Tryz.prog 186 #[pv] w (Ret w λ_ v=>v=.int .i64 (fk P)):=by
 obtain⟨vo,vp,vc,rfl,h3⟩:=z;have l:=PresP.box h3 28;have j:Ext w (w.alloc (.cells #[vo,vp,vc] 28)):=World.grownBy_alloc _ _ _;obtain⟨m,fB,fu,_,_,i,a,b,fq⟩:=l.at;simp only[Nat.zero_add] at a b;have n:∀w',Ext (w.alloc (.cells #[vo,vp,vc] 28)) w'->w'.cell? ⟨w.heap.size,0,none⟩=some m/\w'.cell? ⟨w.heap.size,1,none⟩=some fB/\w'.cell? ⟨w.heap.size,2,none⟩=some fu:=λw' h=>⟨h.cell i (by simp),h.cell a (by simp),h.cell b (by simp)⟩;have D:=Lib.hid n;clear n l;have p:=l08Group_ok P _ (.agg #[m,fB,fu]) Any ⟨_,_,_,rfl,fq⟩;go_enter Tryz.func186,Tryz.ntmps186;go_wp2_with fail
 clear i a b;generalize A:w.alloc (.cells #[vo,vp,vc] 28)=w0 at *;clear A;refine Calls.mono p ?_;rintro E B ⟨v1,rfl,g,rfl⟩;clear p;cases q:rconsB P with
 | false=>
  have e:fk P=1:=by unfold fk;rw[q];rfl
  have y:=Lib.hid e;clear e q;go_wp2;go_ret;exact⟨_,rfl,grown_trans j g,by rw[y.out];rfl⟩
 | true=>
  have hP:=(grp_of_r q).v;have e:fk P=if 32<ordP P then 3 else 0:=by unfold fk;rw[q,if_pos rfl]
  have y:=Lib.hid e;clear e q;obtain⟨i,a,b⟩:=D.out B g;go_wp2_with fail
  clear i a b;refine Calls.mono (l10Order_ok B _ P Any hP ⟨_,_,_,rfl,Pres3.ext fq g⟩) ?_;rintro F G ⟨H,rfl,r,rfl⟩;by_cases u:32<ordP P
  ·have e:=y.out
   rw[if_pos u] at e;have k:=Lib.hid e;clear e;go_wp2;go_ret;exact⟨_,rfl,grown_trans j (grown_trans g r),by rw[k.out];rfl⟩
  ·have e:=y.out
   rw[if_neg u] at e;have k:=Lib.hid e;clear e;go_wp2;go_ret;exact⟨_,rfl,grown_trans j (grown_trans g r),by rw[k.out];rfl⟩
theorem zz (w:World) (lv:Value) (L:List (List (List Int))) (S:Nat->Prop) (E:Rows3 S w lv L) (G:∀u∈L,u.length<=6/\∀x∈u,x.length<=6) (T:L.length<=100000) :
  Calls Tryz.prog 188 #[lv] w (Ret w λw' v=>SlO (λF w u (x:List (List Int))=>RowsD F w u x) 25 w.heap.size w' v L):=by
 obtain⟨U,capl,rfl,_,_⟩:=Sl.shape E;have J:=Lib.hid G;clear G;go_enter Tryz.func188,Tryz.ntmps188;go_wp2;go_loopw [3,4] (λK A wr=>∃(i:Nat) (v4:Value),v4=K/\A=.int .i64 i/\i<=L.length/\Ext w wr/\SlO (λF w u (x:List (List Int))=>RowsD F w u x) 25 w.heap.size wr v4 (L.take i)) (λ_ A _=>L.length-(intOf A).toNat)
 case atStart=>exact⟨0,_,rfl,rfl,by omega,World.grownBy_alloc _ _ _,⟨[],λ_ _=>False,rfl,World.ownsRow_lit w #[] 0 (Nat.le_refl _) (by decide) rfl,by simp,by simp,by simp⟩⟩
 case round=>
  obtain⟨i,v4,rfl,rfl,hi,k,hO⟩:=hrel;by_cases g:i<L.length
  ·have H:(i:Int)<L.length:=by omega
   obtain⟨b,off,a2,cap2,rfl,_,_,hc,hx⟩:=Rows3.at E i g;have l:=k.cell hc (by simp);have e:=J.out _ (gt_mem g);have a:=take_succ_gt L i g;have m:(L.take i).length<=1000000:=by rw[List.length_take];omega
   obtain⟨x,n⟩:∃x,x=gt L i:=⟨_,rfl⟩;rw[<-n] at l hx e a;have p:=Lib.hid (And.intro e (And.intro a m));clear e a m hc n;go_wp2_with fail
   clear l;refine Calls.mono (l01Own2_ok wr _ x S (Rows2.ext hx k) (λz M=>by have:=p.out.1.2 z M;omega) (by have:=p.out.1.1;omega)) ?_;rintro V I ⟨N,rfl,B,hU⟩;have q:RowsD (From wr.heap.size) I N x:=hU.toD (by have:=p.out.1.1;omega);obtain⟨W,uc,jt,_,_⟩:=SlD.shape q;subst jt;go_wp2_with (first|(at_builtin;refine wp_app_one rdRows 26 25 (.slice none 0 0) 24 mZ Tryz.ng rfl (by decide) rfl _ _ rfl w.heap.size wr I v4 _ (L.take i) x rfl hO B q rfl rfl p.out.2.2 k.size ?_;intro O P r C _)|fail)
   have y:Ext w P:=grown_own k C (λb Q g=>by have:=(SlO.lt hO b Q).1;omega);rw[<-p.out.2.1] at r;go_roundw
   case rel=>exact⟨i+1,O,rfl,by go_num,by omega,y,r⟩
   case measure=>simp[intOf];omega
  ·have D:i=L.length:=by omega
   have j:=hO;rw[List.take_of_length_le (by omega)] at j;obtain⟨X,capz,fM,_,_⟩:=SlD.shape (j.toD (by omega));subst fM;have R:¬(i:Int)<L.length:=by omega
   clear hO D;go_wp2;go_ret;exact⟨_,rfl,k,j⟩
theorem sO {P:Pr}(G:Grp P) {S:List (List (List Int))}(b:∀v∈S,SubB P v) {u:List (List Int)}(g:SubB P u):mskU P u∈S.map (mskU P)↔u∈S:=by
 constructor
 ·intro h
  obtain⟨v,a,e⟩:=List.mem_map.1 h;rw[<-G.nh (b v a) g e];exact a
 ·intro h;exact List.mem_map.2 ⟨u,h,rfl⟩
theorem zA (P:Pr) (S:List (List (List Int))) (u:List (List Int)):dy ((S++[u]).map (mskU P))=dy (S.map (mskU P))++[((mskU P u:Nat):Int)]:=by
 rw[List.map_append];exact j0 _ _
theorem zB (P:Pr) (G:Grp P) (w:World) (pv:Value) (Sp:Nat->Prop) (aa:ordP P<=32) (b1:PresV Sp w pv P) :
  Calls Tryz.prog 187 #[pv] w (Ret w λw' v=>∃fv zv,v=.tuple #[fv,zv]/\∃L,LatL P L/\Rows3 Any w' fv (dL P L L.length).firsts/\Own w.heap.size w' zv (dy (dL P L L.length).sizes)):=by
 have hP:=G.v;obtain⟨vo,vp,vc,rfl,h3⟩:=b1;have bg:=PresP.box h3 28;have bh:Ext w (w.alloc (.cells #[vo,vp,vc] 28)):=World.grownBy_alloc _ _ _;obtain⟨aW,fB,fu,_,_,W,I,J,fq⟩:=bg.at;simp only[Nat.zero_add] at I J;have bi:∀w',Ext (w.alloc (.cells #[vo,vp,vc] 28)) w'->w'.cell? ⟨w.heap.size,0,none⟩=some aW/\w'.cell? ⟨w.heap.size,1,none⟩=some fB/\w'.cell? ⟨w.heap.size,2,none⟩=some fu:=λw' h=>⟨h.cell W (by simp),h.cell I (by simp),h.cell J (by simp)⟩;have HB:=Lib.hid bi;clear bi bg;have hf:=yX P G _ (.agg #[aW,fB,fu]) Any aa ⟨_,_,_,rfl,fq⟩;go_enter Tryz.func187,Tryz.ntmps187;go_wp2_with fail
 clear W I J;generalize b2:w.alloc (.cells #[vo,vp,vc] 28)=w0 at *;clear b2;refine Calls.mono hf ?_;rintro e1 w1 ⟨v1,rfl,hg1,sv,mv,rfl,L,hL,hR,hM⟩;clear hf;have cs:=G.j6 aa hL;have aX:=(G.oQ hL).1;have aM:∀u∈L,SubB P u:=λu hu=>(hL.2 u).1 hu;obtain⟨ms,ab⟩:∃ms,ms=L.map (mskU P):=⟨_,rfl⟩;have X:ms.length=L.length:=by rw[ab,List.length_map]
 have bk:∀k,k<L.length->gt ms k=mskU P (gt L k):=λk hk=>by rw[ab];exact gt_map _ _ _ hk
 rw[<-ab] at hM;obtain⟨sa,sc,lV,_,_⟩:=Sl.shape hR;subst lV;obtain⟨am,cm,jN,_,_⟩:=hM.shape;rw[fE,X] at jN;subst jN;have bo:Sl IntEl (From w0.heap.size) w1 (.slice am (dy ms).length cm) (dy ms):=by rw[fE,X];exact hM
 have ac:Ext w1 (w1.alloc (.cells #[.slice sa L.length sc,.slice am L.length cm] 215)):=World.grownBy_alloc _ _ _
 have bp:∀w',Ext (w1.alloc (.cells #[.slice sa L.length sc,.slice am L.length cm] 215)) w'->w'.cell? ⟨w1.heap.size,0,none⟩=some (.slice sa L.length sc)/\w'.cell? ⟨w1.heap.size,1,none⟩=some (.slice am L.length cm):=λw' h=>
  ⟨h.cell (by rw[World.cell?_alloc_at _ _ _ _ rfl];rfl) (by simp),h.cell (by rw[World.cell?_alloc_at _ _ _ _ rfl];rfl) (by simp)⟩
 have ad:=grown_trans hg1 ac;have aN:=rY P G _ (.agg #[aW,fB,fu]) Any ⟨_,_,_,rfl,Pres3.ext fq ad⟩;obtain⟨W,I,J⟩:=HB.out _ ad;have HL:=Lib.hid (And.intro hL (And.intro aM (And.intro ab (And.intro bk (And.intro bp bo)))));clear hL aM ab bk bp hM bo;have HR:=Lib.hid hR;clear hR;go_wp2_with fail
 clear W I J;generalize b3:w1.alloc (.cells #[.slice sa L.length sc,.slice am L.length cm] 215)=w2 at *;clear b3;refine Calls.mono aN ?_;rintro e3 g ⟨v3,rfl,D,hT⟩;clear aN;obtain⟨ta,tc,zC,_,_⟩:=Sl.shape hT;subst zC;have bq:=hP.ordP_pos;obtain⟨N,hN⟩:∃N:Nat,ordP P=(N:Int):=⟨(ordP P).toNat,by omega⟩;have br:(ordP P).toNat=N:=by omega
 have cv:N<=32:=by omega
 have af:=grown_trans ad D;have bs:w1.heap.size<=g.heap.size:=Nat.le_trans ac.size D.size;have bt:Ext g (g.alloc (.cells #[] 25)):=World.grownBy_alloc _ _ _;have aY:Ext (g.alloc (.cells #[] 25)) ((g.alloc (.cells #[] 25)).alloc (.cells #[] 2)):=World.grownBy_alloc _ _ _;have av:Ext ((g.alloc (.cells #[] 25)).alloc (.cells #[] 2)) (((g.alloc (.cells #[] 25)).alloc (.cells #[] 2)).alloc (.cells #[] 2)):=World.grownBy_alloc _ _ _;have bu:=((fU.sy Any g.heap.size g (Nat.le_refl _)).ext aY).ext av;have bv:=sG (B:=g.heap.size) (H:=g.heap.size+1) (w:=g.alloc (.cells #[] 25)) (by simp) (by simp);have bw:=sG (B:=g.heap.size) (H:=g.heap.size+1+1) (w:=(g.alloc (.cells #[] 25)).alloc (.cells #[] 2)) (by simp;omega) (by simp);have aO:=bv.ext0 av;have aP:=grown_trans bt (grown_trans aY av);have HI:=Lib.hid (And.intro bu (And.intro aO (And.intro bw aP)));clear bu bv aO bw aP bt aY av;have HN:=Lib.hid (And.intro hN br);clear hN br bq;go_wp2;go_loopw [6,7,8,9] (λfv zv sv kv wr=>∃(k:Nat) (v6 v7 v8:Value),v6=fv/\v7=zv/\v8=sv/\kv=.int .i64 k/\k<=L.length/\Ext g wr/\fU Any g.heap.size wr v6 (dL P L k).firsts/\Own g.heap.size wr v7 (dy (dL P L k).sizes)/\Own g.heap.size wr v8 (dy ((dL P L k).seen.map (mskU P)))/\Hid (∀j,v7.ownBlock=some j->v8.ownBlock≠some j)) (λ_ _ _ kv _=>L.length-(intOf kv).toNat)
 case atStart=>exact⟨0,_,_,_,rfl,rfl,rfl,rfl,by omega,HI.out.2.2.2,HI.out.1,HI.out.2.1,HI.out.2.2.1,Lib.hid (λj h1 h2=>by
  have e1:g.heap.size+1=j:=by simpa [Value.ownBlock] using h1
  have e2:g.heap.size+1+1=j:=by simpa [Value.ownBlock] using h2
  omega)⟩
 case round=>
  clear HI;obtain⟨k,v6,v7,v8,rfl,rfl,rfl,rfl,hk,hg,hF,hZ,hS,hD⟩:=hrel;have n:=G.kO HL.out.2.1 k hk;have b4:=G.nA aa n;obtain⟨b5,b6⟩:=j7 P L k;have p := @jq P L k;have K := @jo P L k;obtain⟨z,E⟩:∃z,z=dL P L k:=⟨_,rfl⟩;rw[<-E] at hF hZ hS n b5 b6 b4 p K;have cJ:(dy (z.seen.map (mskU P))).length<=20000:=by rw[fE,List.length_map];omega
  have cK:(dy z.sizes).length<=20000:=by rw[fE];omega
  have aZ:=Lib.hid (And.intro p (And.intro K E));clear p K E;by_cases l:k<L.length
  ·have cw:(k:Int)<L.length:=by omega
   have ag:=grown_trans D hg;obtain⟨Y,hx1⟩:=HL.out.2.2.2.2.1 wr ag;obtain⟨bm,om,zD,_,_,M⟩:=Ints.at HL.out.2.2.2.2.2 k (by rw[fE,X];exact l);subst zD;rw[jJ (by rw[X];exact l),HL.out.2.2.2.1 k l] at M;have ah:=(grown_trans ac ag).cell M (by simp);have a0:=HL.out.2.1 _ (gt_mem l);have O:=hS.ints (by omega);have b7:=O.shape;obtain⟨s8,c8,iz,_,_⟩:=b7;have C:=sL (z.seen.map (mskU P)) (mskU P (gt L k)) wr _ _ O (by rw[List.length_map];omega);have ai:=sO G n.sub a0;obtain⟨r,hr⟩:∃r,r=decide (mskU P (gt L k)∈z.seen.map (mskU P)):=⟨_,rfl⟩;rw[<-hr] at C;have HK:=Lib.hid (And.intro hr (And.intro ai (And.intro a0 n)));clear hr ai a0 n O;subst iz;obtain⟨m,a3⟩:∃m,m=mskU P (gt L k):=⟨_,rfl⟩;rw[<-a3] at ah C;have bA:=Lib.hid a3;clear a3 M;have HU:=Lib.hid (And.intro hF (And.intro hZ hS));clear hF hZ hS;have a4:=hD;clear hD;go_wp2_with fail
   clear Y hx1;refine Calls.mono C ?_;rintro e7 w7 ⟨cL,rfl,hg7,rfl⟩;clear C;have aj:=grown_trans hg hg7;have ay:=HU.out.1.ext hg7;have az:=HU.out.2.1.ext0 hg7;have aA:=HU.out.2.2.ext0 hg7;have aS:=hg7.cell ah (by simp);clear ah;cases r with
   | true=>
    have q:gt L k∈z.seen:=HK.out.2.1.1 (of_decide_eq_true HK.out.1.symm);have i:=aZ.out.2.1 q;have HX:=Lib.hid (And.intro i (And.intro ay (And.intro az aA)));clear q i ay az aA;go_wp2;clear aS;go_roundw
    case rel=>exact⟨k+1,v6,v7,_,rfl,rfl,rfl,by go_num,by omega,aj,by rw[HX.out.1];exact HX.out.2.1,by rw[HX.out.1];exact HX.out.2.2.1,by rw[HX.out.1];exact HX.out.2.2.2,a4⟩
    case measure=>simp[intOf];omega
   | false =>
    have q:¬gt L k∈z.seen:=λh=>by
     have:=HK.out.1;rw[decide_eq_true (HK.out.2.1.2 h)] at this;cases this
    have i:=aZ.out.1 q;have HX:=Lib.hid (And.intro i (And.intro ay (And.intro az aA)));clear q i ay az aA;clear aS;go_wp2;go_loopw [8,10,11] (λsv zv tv wr=>∃(t:Nat) (Q:Value),Q=sv/\zv=.int .i64 (((fC P (gt L k) z.seen t).2:Nat):Int)/\tv=.int .i64 t/\t<=N/\Ext g wr/\fU Any g.heap.size wr v6 z.firsts/\Own g.heap.size wr v7 (dy z.sizes)/\Own g.heap.size wr Q (dy ((fC P (gt L k) z.seen t).1.map (mskU P)))/\Hid (∀j,v7.ownBlock=some j->Q.ownBlock≠some j)) (λ_ _ tv _=>N-(intOf tv).toNat)
    case atStart=>exact⟨0,_,rfl,rfl,by go_num,by omega,aj,HX.out.2.1,HX.out.2.2.1,HX.out.2.2.2,a4⟩
    case round=>
     clear hg hg7 aj a4;obtain⟨t,Q,rfl,rfl,rfl,ht,hg,hF,hZ,hS,hD⟩:=hrel;have ag:=grown_trans D hg;have aT:=grown_trans af hg;obtain⟨W,I,J⟩:=HB.out wr aT;have a5:=l10Order_ok wr _ P Any hP ⟨_,_,_,rfl,Pres3.ext fq aT⟩;rw[HN.out.1] at a5;go_wp2_with fail
     clear W I J;refine Calls.mono a5 ?_;rintro e8 w8 ⟨cM,rfl,ji,rfl⟩;clear a5;have y:=grown_trans hg ji;have aB:=hF.ext ji;have aC:=hZ.ext0 ji;have al:=hS.ext0 ji;have bC:=pg P (gt L k) z.seen t;have aD:=G.kN HK.out.2.2.1 HK.out.2.2.2 t (by rw[HN.out.2];exact ht);have bD:=G.nA aa aD;have p := @lN P (gt L k) z.seen t;have K := @lM P (gt L k) z.seen t;obtain⟨F,R⟩:∃F,F=fC P (gt L k) z.seen t:=⟨_,rfl⟩;rw[<-R] at al bC aD bD p K;clear hF hZ hS;have HY:=Lib.hid (And.intro p (And.intro K R));clear p K;by_cases bE:t<N
     ·have cy:(t:Int)<N:=by omega
      have aU:=grown_trans D y;obtain⟨Y,hx1⟩:=HL.out.2.2.2.2.1 w8 aU;obtain⟨cN,DA,zF,_,_,M⟩:=Ints.at HL.out.2.2.2.2.2 k (by rw[fE,X];exact l);cases zF
      rw[jJ (by rw[X];exact l),HL.out.2.2.2.1 k l,<-bA.out] at M;have bF:=(grown_trans ac aU).cell M (by simp);have aE:=zm P G aa (gt L k) HK.out.2.2.1 t (by rw[HN.out.2];exact bE) w8 _ _ (Rows2.ext hT y);rw[<-bA.out] at aE;have a6:=G.nj HK.out.2.2.1 (G.elAtV (P:=P) (show t<(ordP P).toNat by rw[HN.out.2];exact bE));obtain⟨cj,a7⟩:∃cj,cj=fI P (gt L k) (elAt P (t:Int)):=⟨_,rfl⟩;rw[<-a7] at aE a6;have Z:=Lib.hid (And.intro a7 (And.intro a6 (And.intro aD bC)));clear a7 a6 aD M;rw[<-R];clear R;go_wp2_with fail
      clear Y hx1 bF;refine Calls.mono aE ?_;rintro e9 w9 ⟨v9,rfl,iA,rfl⟩;clear aE;have bG:=grown_trans y iA;have bH:=aB.ext iA;have bI:=aC.ext0 iA;have a8:=al.ext0 iA;clear aB aC al;have cz:(dy (F.1.map (mskU P))).length<=20000:=by rw[fE,List.length_map];omega
      have O:=a8.ints (by omega);obtain⟨s9,c9,mN,_,_⟩:=O.shape;have C:=sL (F.1.map (mskU P)) (mskU P cj) w9 _ _ O (by rw[List.length_map];omega);subst mN;have ai:=sO G Z.out.2.2.1.sub Z.out.2.1;obtain⟨r,hr⟩:∃r,r=decide (mskU P cj∈F.1.map (mskU P)):=⟨_,rfl⟩;rw[<-hr] at C;have A:=zA P F.1 cj;obtain⟨mc,a9⟩:∃mc,mc=mskU P cj:=⟨_,rfl⟩;rw[<-a9] at C A ⊢;have an:=Lib.hid (And.intro hr (And.intro ai (And.intro A a9)));clear hr ai A a9 O;go_wp2_with fail
      refine Calls.mono C ?_;rintro eA wA ⟨vA,rfl,eH,rfl⟩;clear C;have ao:=grown_trans bG eH;have aF:=bH.ext eH;have aG:=bI.ext0 eH;have aH:=a8.ext0 eH;clear bH bI a8;cases r with
      | true=>
       have q:cj∈F.1:=an.out.2.1.1 (of_decide_eq_true an.out.1.symm);have i:=HY.out.2.1 (by rw[<-Z.out.1];exact q);have a:=Lib.hid (And.intro i (And.intro aF (And.intro aG aH)));clear q i aF aG aH;go_wp2;go_roundw
       case rel=>exact⟨t+1,_,rfl,by rw[a.out.1],by go_num,by omega,ao,a.out.2.1,a.out.2.2.1,by rw[a.out.1];exact a.out.2.2.2,hD⟩
       case measure=>simp[intOf];omega
      | false=>
       have q:¬cj∈F.1:=λh=>by
        have:=an.out.1;rw[decide_eq_true (an.out.2.1.2 h)] at this;cases this
       have i:=HY.out.1 (by rw[<-Z.out.1];exact q);rw[<-Z.out.1] at i;have bJ:F.2<=t:=Z.out.2.2.2;have b':IntKind.i64.wrap ((F.2:Nat)+1:Int)=((F.2+1:Nat):Int):=by rw[IntWalk.i64_in _ (by omega)];omega
       have ap:(dy (F.1.map (mskU P))).length<=1000000:=by omega
       have a:=Lib.hid (And.intro i (And.intro aF (And.intro aG (And.intro aH ap))));clear q i aF aG aH ap;go_wp2_with (first|(at_builtin;refine nD rfl _ _ rfl g.heap.size _ (dy (F.1.map (mskU P))) (mc:Int) rfl wA a.out.2.2.2.1 rfl rfl a.out.2.2.2.2 ao.size ?_;intro vB wB aI S cb)|fail)
       have hblk:=λj hj=>(a.out.2.2.2.1.lt j hj).1;have V:Ext g wB:=grown_own ao S (λb hb l=>by have:=hblk b hb;omega);have aX:=nG a.out.2.1 a.out.2.2.2.1;have cc:=a.out.2.1.kept S aX.1 (λb hb=>hblk b hb)
       have aK:=a.out.2.2.1.ext S (by
        rcases hz:v7.ownBlock with _|b
        ·exact .inl rfl
        ·exact .inr (λe=>hD.out b hz e.symm))
       have bL:∀j,v7.ownBlock=some j->vB.ownBlock≠some j:=λj h1 h2=>by
        rcases cb j h2 with h|h
        ·exact hD.out j h1 h
        ·have:=(a.out.2.2.1.lt j h1).2
         omega
       have ce:=Lib.hid bL;clear bL aX hblk;go_wp2;go_roundw
       case rel=>exact⟨t+1,vB,rfl,by rw[a.out.1];first|rfl|(simp only[b']),by go_num,by omega,V,cc,aK,by rw[a.out.1,an.out.2.2.1];exact aI,ce⟩
       case measure=>simp[intOf];omega
     ·have a':t=N:=by omega
      have i:=HX.out.1;rw[<-HN.out.2] at a';rw[<-a',<-R] at i;rw[<-R];have cf:¬(t:Int)<N:=by omega
      have bJ:F.2<=32:=by omega
      obtain⟨bl,ol,a2,bM,oM,_,hbl,sP,sQ⟩:=Rows3.at HR.out k l;subst oM;have aq:=grown_trans ac (grown_trans D y);have bN:=aq.cell sP (by simp);obtain⟨Y,hx1⟩:=HL.out.2.2.2.2.1 w8 (grown_trans D y);have bO:Rows2 (λj=>Any j/\j<g.heap.size) w8 (.slice a2 (gt L k).length bM) (gt L k):=Rows2.mono sQ (λj _ l=>⟨⟨trivial,Nat.lt_of_lt_of_le l bs⟩,Nat.lt_of_lt_of_le l aq.size,aq.block j l (by simp)⟩);have ap:z.firsts.length<=1000000:=by omega
      have aV:(dy z.sizes).length<=1000000:=by omega
      have A:=j0 z.sizes F.2;have a:=Lib.hid (And.intro i (And.intro aB (And.intro aC (And.intro al (And.intro bO (And.intro ap (And.intro aV A)))))));clear i aB aC al bO ap aV A R a' sP sQ
      go_wp2_with (first
       | (at_builtin;refine kS rfl _ _ rfl Any g.heap.size _ _ z.firsts (gt L k) rfl w8 a.out.2.1 a.out.2.2.2.2.1 rfl rfl a.out.2.2.2.2.2.1 y.size ?_;intro vB wB aI S;have ar:=λj hj=>(a.out.2.1.lt j hj).1;have V:Ext g wB:=grown_own y S (λb hb l=>by have:=ar b hb;omega);have aK:=a.out.2.2.1.ext S (nG a.out.2.1 a.out.2.2.1).2;have bP:=a.out.2.2.2.1.ext S (nG a.out.2.1 a.out.2.2.2.1).2;have T:=Lib.hid (And.intro aI (And.intro aK bP));clear aI aK bP ar)
       | (at_builtin;refine nD rfl _ _ rfl g.heap.size _ (dy z.sizes) ((F.2:Nat):Int) rfl wB T.out.2.1 rfl rfl a.out.2.2.2.2.2.2.1 V.size ?_;intro vC wC cg ba ch)
       | fail)
      clear Y hx1 bN;have hblk:=λj hj=>(T.out.2.1.lt j hj).1;have bQ:Ext g wC:=grown_own V ba (λb hb l=>by have:=hblk b hb;omega);have ci:=T.out.1.kept ba (nG T.out.1 T.out.2.1).1 (λb hb=>hblk b hb)
      have ck:=T.out.2.2.ext ba (by
       rcases hz:Q.ownBlock with _|b
       ·exact .inl rfl
       ·exact .inr (λe=>hD.out b e.symm hz))
      have bR:∀j,vC.ownBlock=some j->Q.ownBlock≠some j:=λj h1 h2=>by
       rcases ch j h1 with h|h
       ·exact hD.out j h h2
       ·have:=(T.out.2.2.lt j h2).2
        omega
      have co:=Lib.hid bR;clear bR hblk;go_wp2;go_roundw
      case rel=>exact⟨k+1,_,vC,Q,rfl,rfl,rfl,by go_num,by omega,bQ,by rw[a.out.1];exact ci,by rw[a.out.1,a.out.2.2.2.2.2.2.2];exact cg,by rw[a.out.1];exact ck,co⟩
      case measure=>simp[intOf];omega
  ·have bb:k=L.length:=by omega
   have cf:¬(k:Int)<L.length:=by omega
   have E:=aZ.out.2.2;rw[bb] at E;obtain⟨Y,hx1⟩:=HL.out.2.2.2.2.1 wr (grown_trans D hg);have U:=hF.rows (by omega);rw[E] at U hZ;obtain⟨fa,fc,lX⟩:=hF.shape;subst lX;obtain⟨za,zc,lY,_,_⟩:=(hZ.ints (by rw[<-E];omega)).shape;subst lY;have HE:=Lib.hid (And.intro U (And.intro hZ bb));clear U hZ bb E hF hS;obtain⟨nf,bc⟩:∃nf,nf=z.firsts.length:=⟨_,rfl⟩;obtain⟨nz,hnz⟩:∃nz,nz=(dy (dL P L L.length).sizes).length:=⟨_,rfl⟩;have bS:Hid (Rows3 (λk=>Any k\/g.heap.size<=k) wr (.slice fa nf fc) (dL P L L.length).firsts/\Own g.heap.size wr (.slice za nz zc) (dy (dL P L L.length).sizes)):=Lib.hid (by rw[bc,hnz];exact⟨HE.out.1,HE.out.2.1⟩);rw[<-bc,<-hnz];clear bc hnz HE;go_wp2;refine bodyPost_ret (v := .tuple #[.slice fa nf fc,.slice za nz zc]) (by simp[results,Tryz.results187,go_sem]) rfl ?_;exact⟨_,rfl,grown_trans bh (grown_trans af hg),_,_,rfl,L,HL.out.1,Rows3.sub bS.out.1 (λ_ _ _=>trivial),bS.out.2.weak (by have:=(grown_trans bh af).size;omega)⟩
end Go.Proofs.YtdcobapnlpeaaaaGreat
namespace Go.Proofs.YtdcobapnlpeaaaaGreat
open Go.Proofs Go.Shelf Go.RowKit Go.Lib Go.Sort
theorem zG {W w':World}(h:Ext W w') (n:W.drawn<=w'.drawn):∃q g,w'=grow (W.drewN q) g:=by
 refine⟨w'.drawn-W.drawn,w'.heap.extract W.heap.size w'.heap.size,?_⟩;obtain⟨h1,h2,h3,h4,h5⟩:=h
 have m:W.heap++w'.heap.extract W.heap.size w'.heap.size=w'.heap:=by
  apply Array.ext
  ·simp;omega
  ·intro i p j
   by_cases a:i<W.heap.size
   ·rw [Array.getElem_append_left a]
    have:=h5 i a (by simp);rw[Array.getElem?_eq_getElem j,Array.getElem?_eq_getElem a] at this;exact(Option.some.inj this).symm
   ·rw [Array.getElem_append_right (by omega)]
    simp only[Array.getElem_extract];congr 1;omega
 cases w' with
 | mk heap tape drawn os output=>
  cases W with
  | mk k l e r b=>
   simp only at h1 h2 h3 m n;subst h1;subst h2;subst h3;unfold grow World.drewN;simp only[World.mk.injEq];exact⟨m.symm,trivial,by omega,trivial,trivial⟩
section
variable {α:Type} [Inhabited α]
theorem zH {b:α->α->Int}(h:SWO (ltOf b)) (L:List α):SWO (ltOf (λi j:Nat=>b (gt L i) (gt L j))) where
 irrefl x:=h.irrefl (gt L x)
 trans x y z:=h.trans (gt L x) (gt L y) (gt L z)
 ntrans x y z:=h.ntrans (gt L x) (gt L y) (gt L z)
theorem zI {P:Program}{ρ : Ren}(ac:SlLaysF.n6 P ρ) {El:(Nat->Prop)->World->Value->α->Prop}(K:RdOk El) (E B:Nat) (S:α->α->Int) (hS:SWO (ltOf S)) (g:Nat) (cb:Array Value)
  (eg:∀args w,(callFunc g args).run P w=.ok (.enter g args) w) (w:World) (v:Value) (L:List α) (A:Nat->Prop) (hL:SlOA El E B A w v L) (ax:0<L.length) (ar:L.length<=1000000)
  (V:∀W,El (λ_=>True) W (.slice none 0 0) default)
  (X:∀(W:World) (u1 u2:Value) (x y:α),w.grownBy W v.ownBlock->(x∈L\/x=default)->(y∈L\/y=default)->El (λ_=>True) W u1 x->El (λ_=>True) W u2 y ->
   Calls P g (#[u1,u2]++cb) W λe w'=>e=.returned (.int .i64 (S x y))/\Ext W w'/\W.drawn<=w'.drawn) :
  Calls P (ρ.f 6) #[v,.func (.func g) #[] cb] w λe w'=>e=.returned (.tuple #[])/\∃L',SlOA El E B A w' v L'/\L'.Perm L/\L'.Pairwise (λx y=>0<=S y x)/\w.grownBy w' v.ownBlock:=by
 obtain⟨q,G,r,hO,hG,hd,hE,zJ,zK⟩:=hL;obtain⟨_,⟨rfl,h0⟩|⟨gb,cap,cur,rfl,jh,hb,hnc,hcm,hsz,hx⟩⟩:=hO
 ·omega
 have ah:gb<w.heap.size:=(Array.getElem?_eq_some_iff.1 hb).1;have Y:OneCell (encAt q):=encAt_one λi D=>K.one (hE i (by omega))
 have Z:(List.range L.length).map (encAt q)=q:=by
  apply List.ext_getElem (by simp[r]);intro j h1 T;simp[encAt,gt,T]
 have hH:Go.Sort.Holds (encAt q) w gb 0 (List.range L.length).toArray:=holds_of_blockV hb (by rw[Z,List.length_range,<-r];simpa using hx)
 have M:CmpLays1 P g cb (encAt q) (λi j:Nat=>S (gt L i) (gt L j)) gb 0 (List.range L.length).toArray.size w:=by
  intro m os dk _ x y;have z:w.grownBy (sortWorld (encAt q) w gb 0 m dk os) (some gb):=grownBy_sortedV dk
  have u:∀k,El (λ_=>True) (sortWorld (encAt q) w gb 0 m dk os) (encAt q k) (gt L k)/\(gt L k∈L\/gt L k=default):=by
   intro k;by_cases hk:k<q.length
   ·have N:=hE k (by omega)
    unfold encAt;rw[if_pos hk];exact⟨K.mono N (λb H F=>⟨trivial,Nat.lt_of_lt_of_le F z.size,z.block b F (λe=>(hG k b (by omega) H).2.1 (by cases e;rfl))⟩),.inl (gt_mem (by omega))⟩
   ·have h1:gt L k=default:=by simp[gt,show ¬k<L.length by omega]
    unfold encAt;rw[if_neg hk,h1];exact⟨V _,.inr rfl⟩
  refine(X _ _ _ _ _ z (u x).2 (u y).2 (u x).1 (u y).1).mono ?_;rintro e w' ⟨rfl,N,hdr⟩;exact⟨rfl,zG N hdr⟩
 have I:=Any.slices_SortFunc ac (encAt q) Y (λi j:Nat=>S (gt L i) (gt L j)) (zH hS L) g cb gb 0 cap (List.range L.length).toArray w eg M hH ah (by simp;omega);have J:(List.range L.length).toArray.size=q.length:=by simp[r]
 rw[J] at I;refine I.mono ?_;rintro e w' ⟨N,a,n,os,⟨aa,_,lS⟩,kR,rfl⟩;have O:a.toList.length=L.length:=by simpa [r] using aa
 have hP:a.toList.Perm (List.range L.length):=by
  have h1:a.extract 0 q.length=a:=by
   apply Array.ext';rw[r,<-O];simp
  have T:(List.range L.length).toArray.extract 0 q.length=(List.range L.length).toArray:=by
   apply Array.ext';rw[r];simp
  rw[h1,T] at lS;simpa using lS
 have C:∀i,i<L.length->gt a.toList i<L.length:=λi D=>by
  have:=hP.subset (gt_mem (l:=a.toList) (i:=i) (by omega));simpa using this
 have aj:a.toList.Nodup:=hP.symm.nodup List.nodup_range
 have Q:(List.range L.length).map (gt L)=L:=by
  apply List.ext_getElem (by simp);intro j h1 T;simp[gt,T]
 have z:w.grownBy (sortWorld (encAt q) w gb 0 n a os) (some gb):=grownBy_sortedV a
 have ak:∀i,i<L.length->gt (a.toList.map (encAt q)) i=gt q (gt a.toList i):=λi D=>by
  have h1:gt (a.toList.map (encAt q)) i=encAt q (gt a.toList i):=gt_map _ _ _ (by omega);rw[h1];unfold encAt;rw[if_pos (by rw[r];exact C i D)]
 have al:∀i,i<L.length->gt (a.toList.map (gt L)) i=gt L (gt a.toList i):=λi D=>gt_map _ _ _ (by omega);refine⟨N,a.toList.map (gt L),⟨a.toList.map (encAt q),λi k=>G (gt a.toList i) k,by simp,?_,?_,?_,?_,λi k D hk=>zJ (gt a.toList i) k (C i (by simp only[List.length_map] at D;omega)) hk,zK⟩,?_,?_,z⟩
 ·have:=ownsRow_sortedV (enc:=encAt q) (n:=n) (os:=os) (ss:=List.range L.length) (ts:=a.toList) (by rw[O,List.length_range]) jh hb (by rw[List.length_range,<-r];exact hnc) hcm hsz
  rw[List.length_range,<-r] at this;unfold OwnV;rw[show(a.toList.map (encAt q)).length=q.length by rw[List.length_map,O,r]];simpa using this
 ·intro i k D hk
  obtain⟨a1,a2,a3⟩:=hG _ k (C i (by simp only[List.length_map] at D;omega)) hk;exact⟨a1,a2,Nat.lt_of_lt_of_le a3 z.size⟩
 ·intro i j k D hj hk an
  simp only[List.length_map] at D hj;exact gt_inj aj (by omega) (by omega) (hd _ _ k (C i (by omega)) (C j (by omega)) hk an)
 ·intro i D
  simp only[List.length_map] at D;rw[ak i (by omega),al i (by omega)];have N:=hE _ (C i (by omega));exact K.mono N (λb H F=>⟨H,Nat.lt_of_lt_of_le F z.size,z.block b F (λe=>(hG _ b (C i (by omega)) H).2.1 (by cases e;rfl))⟩)
 ·have:=hP.map (gt L)
  rwa [Q] at this
 ·refine List.pairwise_iff_getElem.2 ?_
  intro i j D hj ao;have ap:i<a.size:=by simpa using D
  have R:j<a.size:=by simpa using hj
  have h1:=kR i j (Nat.zero_le _) ao (by rw[aa,J] at R;exact R);rw[getElem!_pos a i ap,getElem!_pos a j R] at h1;unfold ltOf at h1;rw[decide_eq_false_iff_not] at h1;simp only[List.getElem_map,Array.getElem_toList];have T:¬S (gt L a[j]) (gt L a[i])<0:=h1;omega
end
def Tryz.zL_ren : Go.Shelf.Ren := ⟨fun | 6 => 261 | 15 => 297 | 14 => 301 | 28 => 332 | 29 => 333 | 20 => 335 | 21 => 336 | 22 => 337 | 23 => 338 | 24 => 339 | 25 => 340 | 26 => 341 | 27 => 342 | 46 => 356 | 47 => 352 | 48 => 353 | 49 => 357 | 50 => 358 | 57 => 368 | n => n, fun | 22 => 26 | 24 => 25 | 25 => 212 | 3 => 3 | 39 => 139 | 0 => 0 | 53 => 266 | 55 => 62 | 4 => 4 | 46 => 260 | 45 => 259 | 50 => 193 | 5 => 5 | 9 => 9 | 66 => 281 | 70 => 285 | 76 => 296 | 77 => 297 | n => n, fun | n => n⟩
theorem Tryz.zL : Go.Proofs.SlLaysF.n6 Tryz.prog Tryz.zL_ren := {
  mixed := by kernel_rfl
  f6 := ⟨Tryz.f261.name, by decide, Tryz.func261.trans (congrArg some (by kernel_rfl))⟩
  f14 := ⟨Tryz.f301.name, by decide, Tryz.func301.trans (congrArg some (by kernel_rfl))⟩
  f15 := Tryz.func297.trans (congrArg some (by kernel_rfl))
  f20 := ⟨Tryz.f335.name, by decide, Tryz.func335.trans (congrArg some (by kernel_rfl))⟩
  f21 := ⟨Tryz.f336.name, by decide, Tryz.func336.trans (congrArg some (by kernel_rfl))⟩
  f22 := ⟨Tryz.f337.name, by decide, Tryz.func337.trans (congrArg some (by kernel_rfl))⟩
  f23 := ⟨Tryz.f338.name, by decide, Tryz.func338.trans (congrArg some (by kernel_rfl))⟩
  f24 := ⟨Tryz.f339.name, by decide, Tryz.func339.trans (congrArg some (by kernel_rfl))⟩
  f25 := ⟨Tryz.f340.name, by decide, Tryz.func340.trans (congrArg some (by kernel_rfl))⟩
  f26 := ⟨Tryz.f341.name, by decide, Tryz.func341.trans (congrArg some (by kernel_rfl))⟩
  f27 := ⟨Tryz.f342.name, by decide, Tryz.func342.trans (congrArg some (by kernel_rfl))⟩
  f28 := Tryz.func332.trans (congrArg some (by kernel_rfl))
  f29 := Tryz.func333.trans (congrArg some (by kernel_rfl))
  f46 := ⟨Tryz.f356.name, by decide, Tryz.func356.trans (congrArg some (by kernel_rfl))⟩
  f47 := Tryz.func352.trans (congrArg some (by kernel_rfl))
  f48 := Tryz.func353.trans (congrArg some (by kernel_rfl))
  f49 := ⟨Tryz.f357.name, by decide, Tryz.func357.trans (congrArg some (by kernel_rfl))⟩
  f50 := ⟨Tryz.f358.name, by decide, Tryz.func358.trans (congrArg some (by kernel_rfl))⟩
  f57 := ⟨Tryz.f368.name, by decide, Tryz.func368.trans (congrArg some (by kernel_rfl))⟩
  t0 := Tryz.underlying0
  a0 := Tryz.isAgg0
  z0 := Tryz.sizeOf0
  v0 := Tryz.zeroValue0
  t3 := Tryz.underlying3
  a3 := Tryz.isAgg3
  z3 := Tryz.sizeOf3
  v3 := Tryz.zeroValue3
  t4 := Tryz.underlying4
  a4 := Tryz.isAgg4
  z4 := Tryz.sizeOf4
  v4 := Tryz.zeroValue4
  t5 := Tryz.underlying5
  a5 := Tryz.isAgg5
  z5 := Tryz.sizeOf5
  v5 := Tryz.zeroValue5
  t9 := Tryz.underlying9
  a9 := Tryz.isAgg9
  z9 := Tryz.sizeOf9
  v9 := Tryz.zeroValue9
  t22 := Tryz.underlying26
  a22 := Tryz.isAgg26
  z22 := Tryz.sizeOf26
  v22 := Tryz.zeroValue26
  a24 := Tryz.isAgg25
  z24 := Tryz.sizeOf25
  t25 := Tryz.underlying212
  a25 := Tryz.isAgg212
  z25 := Tryz.sizeOf212
  v25 := Tryz.zeroValue212
  t39 := Tryz.underlying139
  a39 := Tryz.isAgg139
  z39 := Tryz.sizeOf139
  v39 := Tryz.zeroValue139
  t45 := Tryz.underlying259
  a45 := Tryz.isAgg259
  z45 := Tryz.sizeOf259
  v45 := Tryz.zeroValue259
  t46 := Tryz.underlying260
  a46 := Tryz.isAgg260
  z46 := Tryz.sizeOf260
  v46 := Tryz.zeroValue260
  t50 := Tryz.underlying193
  a50 := Tryz.isAgg193
  z50 := Tryz.sizeOf193
  v50 := Tryz.zeroValue193
  t53 := Tryz.underlying266
  a53 := Tryz.isAgg266
  z53 := Tryz.sizeOf266
  v53 := Tryz.zeroValue266
  t55 := Tryz.underlying62
  a55 := Tryz.isAgg62
  z55 := Tryz.sizeOf62
  v55 := Tryz.zeroValue62
  t66 := Tryz.underlying281
  a66 := Tryz.isAgg281
  z66 := Tryz.sizeOf281
  v66 := Tryz.zeroValue281
  t70 := Tryz.underlying285
  a70 := Tryz.isAgg285
  z70 := Tryz.sizeOf285
  v70 := Tryz.zeroValue285
  t76 := Tryz.underlying296
  a76 := Tryz.isAgg296
  z76 := Tryz.sizeOf296
  v76 := Tryz.zeroValue296
  t77 := Tryz.underlying297
  a77 := Tryz.isAgg297
  z77 := Tryz.sizeOf297
  v77 := Tryz.zeroValue297 }
theorem zM (P:Pr):SeqOk P []:=⟨by simp,by simp⟩
theorem zN (P:Pr) (hP:Valid P) (w:World) (v:Value) (L:List (List (List Int))) (A:Nat->Prop) (B bx pb a:Nat) (C:SlOA (λF w u (x:List (List Int))=>RowsD F w u x) 25 B A w v L) (j:0<L.length) (b:L.length<=1000000)
  (D:∀u∈L,SeqOk P u/\u.length<=100) (E:w.cell? ⟨bx,0,none⟩=some (.pointer (some ⟨pb,a,none⟩))) (l:v.ownBlock≠some bx) (G:PresP (λk=>v.ownBlock≠some k) w (.pointer (some ⟨pb,a,none⟩)) P) :
  Calls Tryz.prog 261 #[v,.func (.func 262) #[] #[.pointer (some ⟨bx,0,none⟩)]] w λe w'=>e=.returned (.tuple #[]) /\
   ∃m,SlOA (λF w u (x:List (List Int))=>RowsD F w u x) 25 B A w' v m/\m.Perm L/\m.Pairwise (λx y=>0<=ij P y x)/\w.grownBy w' v.ownBlock:=by
 have H:∀args w,(callFunc 262 args).run Tryz.prog w=.ok (.enter 262 args) w:=enters_of Tryz.func262 (by kernel_rfl) rfl
 have h:=zI Tryz.zL rdRows 25 B (ij P) (yB P) 262 #[.pointer (some ⟨bx,0,none⟩)] H w v L A C j b (λW=>(SlO.nil OwnIn 24 0 W).toD (by simp) |> λh=>rdRows.mono h (λk hk n=>⟨trivial,n,rfl⟩)) (by
  intro W u1 u2 x y r hx hy h1 I;have p:PresP Any W (.pointer (some ⟨pb,a,none⟩)) P:=PresP.mono G (frame_of r (λk hk _=>⟨trivial,hk⟩));have q:W.cell? ⟨bx,0,none⟩=some (.pointer (some ⟨pb,a,none⟩)):=r.cell E (λe=>l e.symm)
  have i:∀z,(z∈L\/z=default)->SeqOk P z/\z.length<=100:=λz g=>by
   rcases g with g|g
   ·exact D z g
   ·rw[g];exact⟨zM P,by decide⟩
  refine(yF P hP W bx pb a u1 u2 x y Any _ _ q p (RowsD.rows h1) (RowsD.rows I) (i x hx).1 (i y hy).1 (i x hx).2 (i y hy).2).mono ?_;rintro e w' ⟨v1,rfl,hg1,rfl,hd⟩;exact⟨rfl,hg1,hd⟩)
 exact h
end Go.Proofs.YtdcobapnlpeaaaaGreat
namespace Go.Proofs.YtdcobapnlpeaaaaGreat
open Go.RowKit
set_option linter.unusedSimpArgs false in
theorem pK (P:Pr) (w:World) (p:Value) (Sp:Nat->Prop) (hp:PresP Sp w p P) :
  Calls Tryz.prog 184 #[p] w (Ret w λw' v=>∃lp,v=.tuple #[.pointer lp,.int .i64 (fk P)]/\(fk P≠0->lp=none) /\
   (fk P=0->∃lb L,lp=some ⟨lb,0,none⟩/\LatL P L/\rQ w.heap.size P w' lb p L)):=by
 obtain⟨pb,po,rfl⟩:=hp.shape;obtain⟨vo,vp,vc,_,_,hc0,hc1,hc2,h3⟩:=hp.at;obtain⟨ao,cB,rfl,_,_⟩:=h3.o.shape;obtain⟨ap,capp,rfl,_,_⟩:=Sl.shape h3.p;obtain⟨ac,capc,rfl,_,_⟩:=Sl.shape h3.c;have bt:Ext w (w.alloc (.cells #[.pointer (some ⟨pb,po,none⟩)] 86)):=World.grownBy_alloc _ _ _;have cC:∀w',Ext (w.alloc (.cells #[.pointer (some ⟨pb,po,none⟩)] 86)) w'->w'.cell? ⟨w.heap.size,0,none⟩=some (.pointer (some ⟨pb,po,none⟩)):=λw' h=>h.cell (by rw[World.cell?_alloc_at _ _ _ _ rfl];rfl) (by simp);have cD:(w.alloc (.cells #[.pointer (some ⟨pb,po,none⟩)] 86)).heap.size=w.heap.size+1:=by simp
 have ba:=isConsistent_ok P _ (.agg #[.slice ao P.orders.length cB,.slice ap P.powers.length capp,.slice ac P.conj.length capc]) Sp ⟨_,_,_,rfl,h3.ext bt⟩;rw[icons_eq] at ba;have cE:=hp.ext bt;have HB:=Lib.hid (And.intro cC (And.intro cD cE));clear cC cD cE;go_enter Tryz.func184,Tryz.ntmps184;go_wp2_with fail
 clear hc0 hc1 hc2 h3;generalize dC:w.alloc (.cells #[.pointer (some ⟨pb,po,none⟩)] 86)=w0 at *;clear dC;refine Calls.mono ba ?_;rintro e1 w1 ⟨v,rfl,aY,rfl⟩;clear ba;have bb:=grown_trans bt aY;cases hq:rconsB P with
 | false=>
  have HQ:=Lib.hid hq;clear hq;go_wp2;have e:fk P=1:=by unfold fk;rw[HQ.out];rfl
  refine bodyPost_ret (v := .tuple #[.pointer none,.int .i64 1]) (by simp[results,Tryz.results184,go_sem]) rfl ?_;exact⟨_,rfl,bb,none,by rw[e],λ_=>rfl,λh=>by rw[e] at h;cases h⟩
 | true =>
  have G:=grp_of_r hq;have hP:=G.v;have bu:=hP.n6;have dX:ordP P<=729:=hP.le729;have dY:=hP.ordP_pos;have HQ:=Lib.hid hq;clear hq;have aq:=HB.out.1 w1 aY;go_wp2_with fail
  clear aq;refine Calls.mono (orderOf_ok w1 _ P Sp hP (HB.out.2.2.ext aY)) ?_;rintro e2 R ⟨rfl,rfl⟩;by_cases bX:32<ordP P
  ·have e:fk P=3:=by unfold fk;rw[HQ.out,if_pos rfl,if_pos bX]
   have HE:=Lib.hid e;clear e;go_wp2;refine bodyPost_ret (v := .tuple #[.pointer none,.int .i64 3]) (by simp[results,Tryz.results184,go_sem]) rfl ?_;exact⟨_,rfl,bb,none,by rw[HE.out],λ_=>rfl,λh=>by rw[HE.out] at h;cases h⟩
  ·have aZ : ordP P<=32:=by omega
   have e:fk P=0:=by unfold fk;rw[HQ.out,if_pos rfl,if_neg bX]
   have cF:=Lib.hid e;clear e;have aq:=HB.out.1 w1 aY;go_wp2_with fail
   clear aq bX;refine Calls.mono (xg P G w1 _ Sp (HB.out.2.2.ext aY)) ?_;rintro e3 R ⟨tv,rfl,hg2,hT⟩;obtain⟨gL,bc,rfl,_,_⟩:=Sl.shape hT;obtain⟨N,hN⟩:∃N,N=(ordP P).toNat:=⟨_,rfl⟩;have d':N<=32:=by omega
   have aO:(tabL P).length=N:=by rw[tabL_len,hN]
   have cG:Rows2 Any R (.slice gL N bc) (tabL P):=by rw[<-aO];exact Rows2.sub hT (λ_ _ _=>trivial)
   rw[aO];have ea:=grown_trans bb hg2;have bJ:=grown_trans aY hg2;-- the list of masks and the map
   have cH:OwnV R.heap.size 62 (R.alloc (.cells #[.int .u64 1] 62)) (.slice (some ⟨R.heap.size,0,none⟩) 1 1) ([1].map uV):=World.ownsRow_lit R #[.int .u64 1] 1 (Nat.le_refl _) (by decide) rfl;have bd:Ext R (R.alloc (.cells #[.int .u64 1] 62)):=World.grownBy_alloc _ _ _;have ar:(R.alloc (.cells #[.int .u64 1] 62)).heap.size=R.heap.size+1:=by simp
   have bY:=fF.made kL (R.alloc (.cells #[.int .u64 1] 62));have aF:Ext (R.alloc (.cells #[.int .u64 1] 62)) ((R.alloc (.cells #[.int .u64 1] 62)).alloc (.map #[] 0)):=World.grownBy_alloc _ _ _;rw[ar] at bY;obtain⟨w3,hrun,sR,bZ⟩:=bY.update (1:Nat) (show(1:Nat)<2 ^ 64 by decide) true trivial (by decide);have cI:=(cH.kept aF (.inr (by simp[Value.ownBlock]))).kept bZ (.inr (by simp[Value.ownBlock]));have cJ:Ext R w3:=grown_own (grown_trans bd aF) bZ (λj hj r=>by cases hj;omega);have ag:(Instr.mapUpdate 206 (.map (some (R.heap.size+1))) (.int .u64 1) (.bool true)).run Tryz.prog ((R.alloc (.cells #[.int .u64 1] 62)).alloc (.map #[] 0))=.ok () w3:=hrun;have a0:=xU (R.alloc (.cells #[.int .u64 1] 62));rw[ar] at a0;have cK:Fnd P [1] 0 0:=by have:=G.fnd_start;rw[G.msk_one] at this;exact this
   have bK:fF kL w3 (R.heap.size+1) (λa=>decide (a∈[1])) 1:=sR.congr (λa=>by by_cases h:a=1<;>simp[h,kL]);have HF:=Lib.hid (And.intro cK (And.intro cI (And.intro bK (And.intro hN aO))));clear cK cI sR bK bY cH hT hrun bZ aF bd ar;clear aO hN;go_wp2;--<A
   clear a0 ag;go_loopw [5,7] (λmv iv wr=>∃(M:List Nat) (i:Nat) (v5:Value),v5=mv/\iv=.int .i64 i/\i<=M.length/\Ext R wr/\OwnV R.heap.size 62 wr v5 (M.map uV)/\fF kL wr (R.heap.size+1) (λa=>decide (a∈M)) M.length/\Hid (Fnd P M i 0)) (λ_ iv _=>17409-(intOf iv).toNat)
   case atStart=>exact⟨[1],0,_,rfl,rfl,by simp,cJ,HF.out.2.1,HF.out.2.2.1,Lib.hid HF.out.1⟩
   case round=>
    obtain⟨M,i,v5,rfl,rfl,hi,Z,hO,U,hF⟩:=hrel;have cL:=G.fnd_len aZ hF.out
    have be:0<M.length:=by
     have:=hF.out.one;cases M with
     | nil=>cases this
     | cons=>simp
    obtain⟨g,cap,rfl⟩:=rO hO be;by_cases r:i<M.length
    ·have aP:(i:Int)<M.length:=by omega
     obtain⟨H,SH,ak⟩:=hF.out.sub _ (gt_mem r);obtain⟨m,hm⟩:∃m,m=gt M i:=⟨_,rfl⟩;rw[<-hm] at ak;have aQ:m<2 ^ 64:=by rw[ak];exact oT aZ
     have HH:=Lib.hid (And.intro SH ak);clear SH ak;go_wp2;go_loopw [5,40] (λmv xv wr=>∃(M':List Nat) (x:Nat) (v5:Value),v5=mv/\xv=.int .i64 x/\x<=N/\i<M'.length/\Ext R wr/\OwnV R.heap.size 62 wr v5 (M'.map uV)/\fF kL wr (R.heap.size+1) (λa=>decide (a∈M')) M'.length/\Hid (Fnd P M' i x)/\Hid (gt M' i=m)) (λ_ xv _=>N-(intOf xv).toNat)
     case atStart=>exact⟨M,0,_,rfl,rfl,by omega,r,Z,hO,U,hF,Lib.hid hm.symm⟩
     case round=>
      clear Z hO U hF cL be hi r aP hm;obtain⟨M,x,v5,rfl,rfl,hx,r,Z,hO,U,hF,hm⟩:=hrel;have aP:(i:Int)<M.length:=by omega
      have cL:=G.fnd_len aZ hF.out;obtain⟨g,cap,rfl⟩:=rO hO (by omega);have aH:=rN hO r;rw[hm.out] at aH;by_cases dG:x<N
      ·have cM:(x:Int)<N:=by omega
       have b4:x<(ordP P).toNat:=by have:=HF.out.2.2.2.1;omega
       have C:=bit_and m x aQ;cases J:m.testBit x with
       | true=>
        rw[J] at C;have C:bits .and .u64 ((m:Int)/2 ^ x) 1=1:=C;have au:=Lib.hid (fnd_bit hF.out b4 (by rw[hm.out];exact J));clear hF J;go_wp2;clear C aH;go_roundw
        case rel=>exact⟨M,x+1,_,rfl,by go_num,by omega,r,Z,hO,U,au,hm⟩
        case measure=>simp[intOf];omega
       | false=>
        rw[J] at C;have C:bits .and .u64 ((m:Int)/2 ^ x) 1=0:=C;have aR:=extendMask_ok P G wr (.slice gL N bc) Any H HH.out.1 x b4 aZ (Rows2.ext cG Z);rw[<-HH.out.2] at aR;obtain⟨m2,bw⟩:∃m2,m2=msk P (extP P H (elAt P x)):=⟨_,rfl⟩;rw[<-bw] at aR;have bf:m2<2 ^ 64:=by rw[bw];exact oT aZ
        have b5:=Lib.hid bw;clear bw J;go_wp2_with fail
        clear C aH;refine Calls.mono aR ?_;rintro eA wA ⟨vA,rfl,a1,rfl⟩;clear aR;have aS:=grown_trans Z a1;have bx:OwnV R.heap.size 62 wA _ (M.map uV):=hO.kept a1 (.inr (by simp[Value.ownBlock]));have a3:=U.ext a1;have T:(Instr.lookup 206 (.map (some (R.heap.size+1))) (.int .u64 (m2:Int)) false).run Tryz.prog wA=.ok (.bool (decide (m2∈M))) wA:=a3.look m2 bf;clear hO U;by_cases hk:m2∈M
        ·rw [decide_eq_true hk] at T
         have au:=Lib.hid (G.fnd_known (x:=x) hF.out HH.out.1 (by rw[hm.out];exact HH.out.2) (by rw[<-b5.out];exact hk));clear hF hk;go_wp2;clear T;go_roundw
         case rel=>exact⟨M,x+1,_,rfl,by go_num,by omega,r,aS,bx,a3,au,hm⟩
         case measure=>simp[intOf];omega
        ·rw [decide_eq_false hk] at T
         have au:=G.fnd_new hF.out r HH.out.1 (by rw[hm.out];exact HH.out.2) b4 (by rw[<-b5.out];exact hk);rw[<-b5.out] at au;have cN:gt (M++[m2]) i=m:=by rw[gt_append_left _ _ _ r];exact hm.out
         have cO:=Lib.hid (And.intro au cN);obtain⟨w4,hrun,cQ,hg4⟩:=a3.update m2 bf true trivial (by omega);have ag:(Instr.mapUpdate 206 (.map (some (R.heap.size+1))) (.int .u64 (m2:Int)) (.bool true)).run Tryz.prog wA=.ok () w4:=hrun;have cR:=a3.ne bx;have cS:OwnV R.heap.size 62 w4 _ (M.map uV):=bx.kept hg4 (.inr (λe=>cR e.symm));have eb:=a3.lt;have bM:Ext R w4:=grown_own aS hg4 (λj hj r=>by cases hj;omega)
         have cT:fF kL w4 (R.heap.size+1) (λa=>decide (a∈M++[m2])) (M++[m2]).length:=by
          refine fF.le (cQ.congr (λa => ?_)) (by simp);by_cases h:a=m2<;>simp[h]
         have cU:(M++[m2]).map uV=M.map uV++[.int .u64 (m2:Int)]:=by rw[List.map_append];rfl
         have bg:(M++[m2]).length=M.length+1:=by simp
         have a4:(M.map uV).length<=1000000:=by rw[List.length_map];omega
         have b6:=Lib.hid (And.intro cU (And.intro bg a4));clear hF au cN hrun bx a3 cQ hg4 cU bg a4 hk;go_wp2_with (first|(at_builtin;refine wp_app_v 158 62 (.int .u64 0) 8 rL Tryz.rM rfl (by decide) rfl _ _ rfl R.heap.size w4 _ (.int .u64 (m2:Int)) (M.map uV) rfl cS rfl rfl rfl b6.out.2.2 bM.size ?_;intro v8 w8 V E)|fail)
         have I:Ext R w8:=grown_own bM E (λb J r=>by have:=(cS.lt b J).1;omega);have dH:=cT.kept E cR;clear T ag;go_roundw
         case rel=>exact⟨M++[m2],x+1,v8,rfl,by go_num,by omega,by rw[b6.out.2.1];omega,I,by rw[b6.out.1];exact V,dH,Lib.hid cO.out.1,Lib.hid cO.out.2⟩
         case measure=>simp[intOf];omega
      ·have bA:x=N:=by omega
       have au:=Lib.hid (hF.out.next (by have:=HF.out.2.2.2.1;omega));subst bA;clear aH hF;go_wp2;go_roundw
       case rel=>exact⟨M,i+1,_,rfl,by go_num,by omega,Z,hO,U,au⟩
       case measure=>simp[intOf];omega
    ·have dI:i=M.length:=by omega
     have b7:=G.fnd_list hF.out (by omega);have cV:∀j,j<M.length->∃H,Sub P H/\gt M j=msk P H:=λj hj=>hF.out.sub _ (gt_mem hj);obtain⟨CS,bB⟩:∃CS,CS=M.map (λm=>cseq P (ofMask P m)):=⟨_,rfl⟩;have bh:CS.length=M.length:=by rw[bB,List.length_map]
     have cW:∀j,j<M.length->gt CS j=cseq P (ofMask P (gt M j)):=λj hj=>by rw[bB];exact gt_map _ _ _ hj
     rw[<-bB] at b7;have O:=Lib.hid (And.intro b7 (And.intro cV (And.intro bh cW)));clear b7 cV bh cW bB hF U;have cX:Ext wr (wr.alloc (.cells #[.pointer (some ⟨pb,po,none⟩),.slice none 0 0,.slice none 0 0] 160)):=World.grownBy_alloc _ _ _;have hX:=Box3.made wr 160 (.pointer (some ⟨pb,po,none⟩)) (.slice none 0 0) (.slice none 0 0);have cY:(wr.alloc (.cells #[.pointer (some ⟨pb,po,none⟩),.slice none 0 0,.slice none 0 0] 160)).heap.size=wr.heap.size+1:=by simp
     have bC:=fF.made rK (wr.alloc (.cells #[.pointer (some ⟨pb,po,none⟩),.slice none 0 0,.slice none 0 0] 160));have a0:=xV (wr.alloc (.cells #[.pointer (some ⟨pb,po,none⟩),.slice none 0 0,.slice none 0 0] 160));rw[cY] at bC a0;have b8:Ext (wr.alloc (.cells #[.pointer (some ⟨pb,po,none⟩),.slice none 0 0,.slice none 0 0] 160)) ((wr.alloc (.cells #[.pointer (some ⟨pb,po,none⟩),.slice none 0 0,.slice none 0 0] 160)).alloc (.map #[] 0)):=World.grownBy_alloc _ _ _;have b9:=hX.ext b8;have b':=grown_trans cX b8;obtain⟨W5,bD⟩:∃W5,W5=(wr.alloc (.cells #[.pointer (some ⟨pb,po,none⟩),.slice none 0 0,.slice none 0 0] 160)).alloc (.map #[] 0):=⟨_,rfl⟩;rw[<-bD] at b9 b' bC a0;obtain⟨D,a5⟩:∃D:World,D=wr:=⟨_,rfl⟩;have aq:=HB.out.1 wr (grown_trans bJ Z);have H5:=Lib.hid (And.intro b9 (And.intro b' bC));clear b9 b' bC hX cX b8 cY;have ca:Ext w0 D:=by rw[a5];exact grown_trans bJ Z
     have dJ:OwnV R.heap.size 62 D (.slice (some ⟨g,0,none⟩) M.length cap) (M.map uV):=by rw[a5];exact hO
     have eo:Rows2 Any D (.slice gL N bc) (tabL P):=by rw[a5];exact Rows2.ext cG Z
     have c0:¬(i:Int)<M.length:=by omega
     clear hO Z be;go_wp2;clear aq a0 hi r dI c0;--<B
     rw[<-a5] at H5 bD;rw[<-a5,<-bD];clear bD a5
     go_loopw [75] (λjv wr=>∃(k:Nat) (lv:Value) (f:ByteArray->Nat),jv=.int .i64 k/\k<=M.length/\Ext D wr/\Box3 wr D.heap.size (.pointer (some ⟨pb,po,none⟩)) lv (.slice none 0 0) /\
      SlOA (λF w u (x:List (List Int))=>RowsD F w u x) 25 D.heap.size (λb=>b=D.heap.size\/b=D.heap.size+1) wr lv (CS.take k)/\fF rK wr (D.heap.size+1) f k/\Hid (∀j,j<k->f (fL (gt CS j))=gt M j)) (λjv _=>M.length-(intOf jv).toNat)
     case atStart=>exact⟨0,_,_,rfl,by omega,H5.out.2.1,H5.out.1,by rw[List.take_zero];exact⟨[],λ_ _=>False,rfl,World.ownsRow_nil _ _ _ _,by simp,by simp,by simp,by simp,by simp[Value.ownBlock]⟩,H5.out.2.2,Lib.hid (λj hj=>by omega)⟩
     case round=>
      clear H5;obtain⟨k,lv,f,rfl,hk,Z,hX,hL,U,hf⟩:=hrel;have ah:=grown_trans ca Z;by_cases r:k<M.length
      ·have aP:(k:Int)<M.length:=by omega
       obtain⟨H,SH,ak⟩:=O.out.2.1 k r;have cc:=O.out.2.2.2 k r;rw[ak,G.ofMask_msk SH] at cc;have aH:=Z.cell (rN dJ r) (by simp);obtain⟨m,hm⟩:∃m,m=gt M k:=⟨_,rfl⟩;rw[<-hm] at aH ak;have aQ:m<2 ^ 64:=by rw[ak];exact oT aZ
       have HH:=Lib.hid (And.intro SH (And.intro ak (And.intro cc hm)));clear SH ak cc hm;have aq:=HB.out.1 wr ah;have c3:=HB.out.2.2.ext ah;have ep:=hX.1;have ed:=U.lt;go_wp2_with fail
       clear aH aq;refine Calls.mono (newSequence_ok P wr _ Sp (λ_=>False) c3 bu) ?_;rintro eS wS ⟨vS,rfl,ia,sb,gb,rfl,hs⟩;have c4:=hs.tab.lt;have ee:=hs.sB;have c5:Ind P (genP P (jx P m 0)) (gt (List.replicate P.orders.length [])):=by rw[zh,G.genP_none];exact G.ind_one
       have c6:=Lib.hid c5;clear c5;obtain⟨wo,rfl⟩:∃wo:World,wo=wr:=⟨_,rfl⟩;go_wp2;go_loopw [83] (λxv wr=>∃(x:Nat) (b:List (List Int)),xv=.int .i64 x/\x<=N/\wS.grownBy wr (some gb)/\SeqAt wo.heap.size (λ_=>False) wr sb gb (.pointer (some ⟨pb,po,none⟩)) P.orders.length b/\Hid (Ind P (genP P (jx P m x)) (gt b))) (λxv _=>N-(intOf xv).toNat)
       case atStart=>exact⟨0,_,rfl,by omega,grown_refl _ _,hs,c6⟩
       case round=>
        clear hs c6;obtain⟨x,b,rfl,hx,aF,hs,hI⟩:=hrel;have c4:=hs.tab.lt;have bj:Ext wo wr:=grown_own ia aF (λj hj r=>by cases hj;omega);have av:=grown_trans ah bj;by_cases dG:x<N
        ·have cM:(x:Int)<N:=by omega
         have C:=bit_and m x aQ;cases J:m.testBit x with
         | false=>
          rw[J] at C;have C:bits .and .u64 ((m:Int)/2 ^ x) 1=0:=C;have aJ:=hI.out;rw[<-zi J] at aJ;have cd:=Lib.hid aJ;clear aJ J hI;go_wp2;clear C;go_roundw
          case rel=>exact⟨x+1,b,by go_num,by omega,aF,hs,cd⟩
          case measure=>simp[intOf];omega
         | true=>
          rw[J] at C;have C:bits .and .u64 ((m:Int)/2 ^ x) 1=1:=C;have aq:=HB.out.1 wr av;have ce:Vec P.orders (elAt P (x:Int)):=G.elAtV (by have:=HF.out.2.2.2.1;omega);have bg:(elAt P (x:Int)).length<=6:=by rw[ce.1];exact bu
          have cf:=Lib.hid (And.intro ce (And.intro bg J));clear ce bg J;go_wp2_with fail
          clear C aq;refine Calls.mono (elementAt_ok P hP wr _ (x:Int) Sp (HB.out.2.2.ext av) (by omega) (by omega)) ?_;rintro eY wY ⟨yv,rfl,sS,hY⟩;have cg:OwnIn (From wr.heap.size) wY yv (elAt P (x:Int)):=OwnIn.of hY (by have:=cf.out.2.1;omega) (λj h1 _=>h1);have bP:RowsO wr.heap.size (wY.alloc (.cells #[yv] 24)) (.slice (some ⟨wY.heap.size,0,none⟩) 1 1) [elAt P (x:Int)]:=SlO.rP rdOwn cg sS.size;have bd:Ext wY (wY.alloc (.cells #[yv] 24)):=World.grownBy_alloc _ _ _;have an:=grown_trans sS bd;have c7:=hs.ext an
          have c8:Rows2 (λk=>¬(k=gb\/k=sb)) (wY.alloc (.cells #[yv] 24)) (.slice (some ⟨wY.heap.size,0,none⟩) 1 1) [elAt P (x:Int)]:=Rows2.sub (RowsD.rows (bP.toD (by simp))) (λk hk _=>by
           have h1:wr.heap.size<=k:=hk;have:=hs.slt;omega)
          obtain⟨ya,yc,zO,_,_⟩:=cg.ints.shape;subst zO
          have c9:PresP (λk=>k≠gb) (wY.alloc (.cells #[.slice ya (elAt P (x:Int)).length yc] 24)) (.pointer (some ⟨pb,po,none⟩)) P:=by
           have h1:=HB.out.2.2.ext (grown_trans av an);have h0:=c3;exact h0.mono (λk _ r=>⟨by omega,Nat.lt_of_lt_of_le r (grown_trans bj an).size,(grown_trans bj an).block k r (by simp)⟩)
          have H8:=Lib.hid (And.intro c7 (And.intro c8 c9));clear c7 c8 c9 bP cg hY;go_wp2_with fail
          refine Calls.mono (add_ok P G _ sb gb wo.heap.size _ _ [elAt P (x:Int)] b _ H8.out.2.2 H8.out.1 hI.out (λz hz=>by rw[List.mem_singleton.1 hz];exact cf.out.1) H8.out.2.1 (by simp)) ?_;rintro eA wA ⟨b2,gg,rfl,a1,fK,hA,_,_⟩;rw[zj cf.out.2.2] at hA;have HA:=Lib.hid hA;clear hA hI;have aS:wS.grownBy wA (some gb):=grown_trans aF (grown_trans (grown_of_ext _ an) a1);clear H8 bd an a1;go_wp2;go_roundw
          case rel=>exact⟨x+1,b2,by go_num,by omega,aS,fK,HA⟩
          case measure=>simp[intOf];omega
        ·have bA:x=N:=by omega
         have aJ:=hI.out;rw[bA,HF.out.2.2.2.1,HH.out.2.1,G.zk HH.out.1] at aJ;have cd:=Lib.hid aJ;clear aJ hI;subst bA;go_wp2_with fail
         refine Calls.mono (canonical_ok P G wr sb gb wo.heap.size _ b H Sp _ (HB.out.2.2.ext av) hs cd.out) ?_;rintro eC wC ⟨uv,rfl,iL,ch⟩;have c':=grown_trans bj iL;have bk:=G.cseq_len HH.out.1;have a6:∀z∈cseq P H,Vec P.orders z:=λz hz=>HH.out.1.vec z ((G.seq_facts HH.out.1).2.1 z hz);obtain⟨u,hu⟩:∃u,u=cseq P H:=⟨_,rfl⟩;rw[<-hu] at ch bk a6;have bE:RowsD (From wo.heap.size) wC uv u:=rdRows.mono (ch.toD (by omega)) (λk hk r=>⟨Nat.le_trans bj.size hk,r,rfl⟩);obtain⟨ua,uc,jt,_,_⟩:=SlD.shape bE;subst jt;have ci:=nH u 6 (λz hz=>by rw[(a6 z hz).1];exact bu);have cj:=pJ u;have ar:(fL u).size<=maxLen:=by unfold maxLen;have:(6+1)*u.length<=100:=(by omega);omega
         have ai:=nI u wC _ _ (RowsD.rows bE) (λz hz=>(lR hP (a6 z hz)).2) (λz hz=>by rw[(a6 z hz).1];omega) (by omega);obtain⟨s,ck⟩:∃s,s=fL u:=⟨_,rfl⟩;rw[<-ck] at ar ai;have HU:=Lib.hid (And.intro hu (And.intro a6 (And.intro ck bk)));clear hu a6 ck ci cj ch;go_wp2_with fail
         refine Calls.mono ai ?_;rintro eK wK ⟨kv,rfl,aa,rfl⟩;clear ai;have bl:=grown_trans c' aa;obtain⟨wU,hrun,da,a7⟩:=(U.ext bl).update s ar m aQ (by omega);have ag:(Instr.mapUpdate 208 (.map (some (D.heap.size+1))) (.string s) (.int .u64 (m:Int))).run Tryz.prog wK=.ok () wU:=hrun;have bm:wo.grownBy wU (some (D.heap.size+1)):=grown_trans (grown_of_ext _ bl) a7;have W:=hX.ext bl;have bF:Box3 wU D.heap.size (.pointer (some ⟨pb,po,none⟩)) lv (.slice none 0 0):=W.keep a7.size (a7.block _ W.1 (by simp))
         have db:RowsD (From wo.heap.size) wU (.slice ua u.length uc) u:=rdRows.mono bE (λk hk r=>⟨hk,Nat.lt_of_lt_of_le r (Nat.le_trans aa.size a7.size),(a7.block k (Nat.lt_of_lt_of_le r aa.size) (by
          have h1:wo.heap.size<=k:=hk;intro e;cases e;omega)).trans (aa.block k r (by simp))⟩)
         have am:=hL.avoids;have dc:(CS.take k).length<=1000000:=by rw[List.length_take];omega
         have dM:=Z.size;clear hrun W bE a7;obtain⟨dN,hx1,hx2,hx3,jd⟩:=id bF
         obtain ⟨dd,sU,bG,hlv⟩:∃a n c,lv=.slice a n c:=by
          obtain⟨a,c,h,_⟩:=SlD.shape (hL.o.toD (by omega));exact⟨_,_,_,h⟩
         subst hlv;go_wp2_with (first|(at_builtin;refine wp_app_oneA rdRows 26 25 (.slice none 0 0) 24 mZ Tryz.ng rfl (by decide) rfl _ _ rfl D.heap.size _ wo wU _ _ (CS.take k) u rfl hL (λb J=>by rcases J with rfl|rfl<;>omega) (some (D.heap.size+1)) bm (λb J=>by cases J;exact .inr rfl) db rfl rfl dc dM ?_;intro v8 w8 cm E;have ab:=bF.keep E.size (E.block _ bF.1 (λe=>(am _ e.symm).1 (.inl rfl)));obtain⟨dO,hy1,hy2,fZ,kg⟩:=id ab;obtain⟨cn,n8,co,iz⟩:∃a n c,v8=.slice a n c:=(by obtain⟨a,c,h,_⟩:=SlD.shape (cm.o.toD (by rw[List.length_append];simp;omega));exact⟨_,_,_,h⟩);subst iz)|fail)
         clear hx1 hx2 hx3 jd ag;have aA:=(ab.put (.slice cn n8 co)).2.1;have X:=iT w8 ⟨D.heap.size,1,none⟩ (.slice cn n8 co);have de:=cm.kept rdRows X (.inl rfl);have df:=(da.kept E (λe=>(am _ e.symm).1 (.inr rfl))).kept X (by simp);have bQ:Ext D wU:=grown_own Z bm (λb J r=>by cases J;omega);have I:Ext D w8:=grown_own bQ E (λb J r=>by have:=(am b J).2.1;omega);have Q:Ext D (w8.setCell ⟨D.heap.size,1,none⟩ (.slice cn n8 co)):=grown_own I X (λb J r=>by have:D.heap.size=b:=(by simpa using J);omega);have cq:k<CS.length:=by rw[O.out.2.2.1];exact r
         have bR:CS.take (k+1)=CS.take k++[u]:=by rw[take_succ_gt _ k cq,HH.out.2.2.1,HU.out.1]
         have bn:∀j,j<k+1->(if fL (gt CS j)=s then m else f (fL (gt CS j)))=gt M j:=by
          intro j hj;by_cases dg:j=k
          ·subst dg
           rw[if_pos (by rw[HU.out.2.2.1,HH.out.2.2.1,HU.out.1]),HH.out.2.2.2]
          ·have dP:j<k:=by omega
           rw[if_neg,hf.out j dP];intro he;rw[HU.out.2.2.1,HU.out.1,<-HH.out.2.2.1] at he;have h1:=rW hP ((O.out.1.2 _).1 (gt_mem (l:=CS) (i:=j) (by omega))) ((O.out.1.2 _).1 (gt_mem cq)) he;exact dg (gt_inj O.out.1.1 (by omega) cq h1)
         have dQ:=Lib.hid bn;clear bn;have bo:=Lib.hid (And.intro aA (And.intro de (And.intro df (And.intro Q bR))));clear aA de df Q bR X ab cm E bm bQ I db bF da;go_wp2;clear hy1 hy2 fZ kg;go_roundw
         case rel=>exact⟨k+1,_,_,by go_num,by omega,bo.out.2.2.2.1,bo.out.1,by rw[bo.out.2.2.2.2];exact bo.out.2.1,bo.out.2.2.1,dQ⟩
         case measure=>simp[intOf];omega
      ·have bH:k=M.length:=by omega
       have dh:=bH;have di:CS.take k=CS:=List.take_of_length_le (by rw[O.out.2.2.1];omega);rw[di] at hL
       have dj:0<CS.length:=by
        have:=(O.out.1.2 _).2 (G.subB_cseq G.sub_one);cases CS with
        | nil=>cases this
        | cons=>simp
       have bh:CS.length<=1000000:=by rw[O.out.2.2.1];omega
       have dk:∀u∈CS,SeqOk P u/\u.length<=100:=λu hu=>by
        have h1:=(O.out.1.2 u).1 hu;have h2:=(G.seq_facts (G.subB h1)).1;rw[<-h1.2] at h2;have:=G.sub_len h1;exact⟨h2,by omega⟩
       have am:=hL.avoids;have dR:=ca.size;have dS:=HB.out.2.1;have dl:lv.ownBlock≠some w.heap.size:=λe=>by have:=(am _ e).2.1;omega
       have dm:PresP (λk=>lv.ownBlock≠some k) wr (.pointer (some ⟨pb,po,none⟩)) P:=HB.out.2.2.mono (λk _ r=>⟨λe=>by have:=(am _ e).2.1;omega,Nat.lt_of_lt_of_le r ah.size,ah.block k r (by simp)⟩);have bp:=zN P hP wr lv CS _ D.heap.size w.heap.size pb po hL dj bh dk (HB.out.1 wr ah) dl dm;obtain⟨dN,hx1,hx2,hx3,jd⟩:=id hX
       obtain ⟨dd,sU,bG,hlv⟩:∃a n c,lv=.slice a n c:=by
        obtain⟨a,c,h,_⟩:=SlD.shape (hL.o.toD (by omega));exact⟨_,_,_,h⟩
       subst hlv;have dT:¬(k:Int)<M.length:=by omega
       clear dm dl dk dj di hk;go_wp2_with fail
       clear hx1 hx2 hx3 jd r dT bH;refine Calls.mono bp ?_;rintro eZ wZ ⟨rfl,L',cr,aw,kR,bq⟩;clear bp;have bS:=yC G aw kR O.out.1.1 O.out.1.2;have ew:L'.length<=1000000:=by rw[aw.length_eq];exact bh
       have bT:Ext D wZ:=grown_own Z bq (λb J r=>by have:=(am b J).2.1;omega);have cs:=hX.keep bq.size (bq.block _ hX.1 (λe=>(am _ e.symm).1 (.inl rfl)));have dn:=U.kept bq (λe=>(am _ e.symm).1 (.inr rfl))
       have dp:∀u∈L',f (fL u)=mskU P u:=λu hu=>by
        have dU:=aw.mem_iff.1 hu;obtain⟨j,hj,rfl⟩:=mem_gt dU;rw[hf.out j (by rw[O.out.2.2.1] at hj;rw[dh];exact hj)];obtain⟨H,SH,e⟩:=O.out.2.1 j (by rw[O.out.2.2.1] at hj;exact hj);rw[O.out.2.2.2 j (by rw[O.out.2.2.1] at hj;exact hj),e,G.ofMask_msk SH,G.mskU_cseq SH]
       have dV:sU=L'.length:=by
        obtain⟨a,c,h,_⟩:=SlD.shape (cr.o.toD (by omega));simp only[Value.slice.injEq] at h;exact h.2.1
       subst dV;have HZ:=Lib.hid (And.intro bS (And.intro dp (And.intro cr (And.intro bT (And.intro cs dn)))));clear bS dp aw kR hf cr bT dn U hX hL bq Z ah am;obtain⟨_,hy1,hy2,fZ,kg⟩:=id cs;go_wp2;clear hy1 hy2 fZ kg cs;--<C
       go_loopw [126] (λjv wr=>∃(k:Nat) (mv:Value),jv=.int .i64 k/\k<=L'.length/\wZ.grownBy wr (some D.heap.size)/\Box3 wr D.heap.size (.pointer (some ⟨pb,po,none⟩)) (.slice dd L'.length bG) mv /\
        OwnV wZ.heap.size 62 wr mv ((L'.take k).map λu=>uV (mskU P u))) (λjv _=>L'.length-(intOf jv).toNat)
       case atStart=>exact⟨0,_,rfl,by omega,grown_refl _ _,HZ.out.2.2.2.2.1,World.ownsRow_nil _ _ _ _⟩
       case round=>
        obtain⟨k,mv,rfl,hk,Z,hX,hO⟩:=hrel;have ct:=HZ.out.2.2.1.kept rdRows Z (.inl rfl);have dq:=Rows3D.rows (ct.o.toD (by omega));by_cases r:k<L'.length
        ·have aP:(k:Int)<L'.length:=by omega
         obtain⟨bL,oL,a2,dr,rfl,_,_,ds,dt⟩:=Rows3.at dq k r;have aL:=(HZ.out.1.2 _).1 (gt_mem r);have cu:=HZ.out.2.1 _ (gt_mem r);obtain⟨u,hu⟩:∃u,u=gt L' k:=⟨_,rfl⟩;rw[<-hu] at aL cu ds dt;have bk:=G.sub_len aL;have ci:=nH u 6 (λz hz=>by rw[(aL.1 z hz).1];exact bu);have cj:=pJ u;have ar:(fL u).size<=maxLen:=by unfold maxLen;have:(6+1)*u.length<=100:=(by omega);omega
         have T:∀w',wZ.grownBy w' (some D.heap.size)->(Instr.lookup 208 (.map (some (D.heap.size+1))) (.string (fL u)) false).run Tryz.prog w'=.ok (.int .u64 ((mskU P u:Nat):Int)) w':=λw' h=>by
          have:=(HZ.out.2.2.2.2.2.kept h (by simp)).look (fL u) ar;rw[cu] at this;exact this
         obtain⟨q,hq⟩:∃q,q=mskU P u:=⟨_,rfl⟩;rw[<-hq] at T;have ai:=nI u wr.drew (.slice a2 u.length dr) _ (Rows2.ext dt (grown_drew _ _)) (λz hz=>(lR hP (aL.1 z hz)).2) (λz hz=>by rw[(aL.1 z hz).1];omega) (by omega);obtain⟨s,hs⟩:∃s,s=fL u:=⟨_,rfl⟩;rw[<-hs] at T ai
         have br:(L'.take (k+1)).map (λu=>uV (mskU P u))=(L'.take k).map (λu=>uV (mskU P u))++[uV q]:=by
          rw[take_succ_gt L' k r,List.map_append,hq,hu];rfl
         have a4:((L'.take k).map λu=>uV (mskU P u)).length<=1000000:=by rw[List.length_map,List.length_take];omega
         obtain⟨vs,cw⟩:∃vs,vs=(L'.take k).map λu=>uV (mskU P u):=⟨_,rfl⟩;rw[<-cw] at br a4 hO;have HU:=Lib.hid (And.intro aL (And.intro hu (And.intro bk (And.intro hq (And.intro hs (And.intro br (And.intro a4 cw)))))));clear aL cu hu bk ci cj ar hq hs br a4 cw
         obtain ⟨ad,ae,af,jN⟩:∃a n c,mv=.slice a n c:=by
          rcases hO.form with⟨h1,_⟩|⟨g,cp,h1,_⟩
          ·exact⟨_,_,_,h1⟩
          ·exact⟨_,_,_,h1⟩
         subst jN;obtain⟨dO,hy1,hy2,fZ,kg⟩:=id hX;have ex:=Z.size;go_wp2;clear ds hy1 hy2;refine wp_region_held_drew (S:=λw'=>wZ.grownBy w' (some D.heap.size)) (by kernel_rfl) (by first|exact grown_drew _ _|exact grown_trans Z (grown_drew _ _)|assumption) (λA => ?_);refine wpAnyH_take (i:=0) (v := ?DB) rfl (by kernel_rfl) (by kernel_rfl) (by kernel_rfl) (λ_ _ _ h=>h) (Or.inl ⟨by rfl,?zP⟩) (by assumption) ?DC
         case zP=>(intro w B;(try dsimp only at B);go_simp;try with_reducible rfl)
         try simp only[Act.put,List.getElem_toArray,List.getElem_cons_succ,List.getElem_cons_zero,List.setIfInBounds_toArray,List.set_cons_zero,List.set_cons_succ]
         refine wpAnyH_take (i:=1) (v := ?DD) rfl (by kernel_rfl) (by kernel_rfl) (by kernel_rfl) (λ_ _ _ h=>h) (Or.inl ⟨by rfl,?zQ⟩) (by assumption) ?DF
         case zQ=>(intro w B;(try dsimp only at B);go_simp;try with_reducible rfl)
         try simp only[Act.put,List.getElem_toArray,List.getElem_cons_succ,List.getElem_cons_zero,List.setIfInBounds_toArray,List.set_cons_zero,List.set_cons_succ]
         refine wpAnyH_take (i:=2) (v := ?DG) rfl (by kernel_rfl) (by kernel_rfl) (by kernel_rfl) (λ_ _ _ h=>h) (Or.inl ⟨by rfl,?zR⟩) (by assumption) ?DI
         case zR=>(intro w B;(try dsimp only at B);go_simp;try with_reducible rfl)
         try simp only[Act.put,List.getElem_toArray,List.getElem_cons_succ,List.getElem_cons_zero,List.setIfInBounds_toArray,List.set_cons_zero,List.set_cons_succ]
         refine wpAnyH_take (i:=3) (v := ?DJ) rfl (by kernel_rfl) (by kernel_rfl) (by kernel_rfl) (λ_ _ _ h=>h) (Or.inl ⟨by rfl,?zS⟩) (by assumption) ?DK
         case zS=>(intro w B;(try dsimp only at B);go_simp;try with_reducible rfl)
         try simp only[Act.put,List.getElem_toArray,List.getElem_cons_succ,List.getElem_cons_zero,List.setIfInBounds_toArray,List.set_cons_zero,List.set_cons_succ]
         refine wpAnyH_take (i:=5) (v := ?DL) rfl (by kernel_rfl) (by kernel_rfl) (by kernel_rfl) (λ_ _ _ h=>h) (Or.inl ⟨by rfl,?zT⟩) (by assumption) ?DM
         case zT=>(intro w B;(try dsimp only at B);go_simp;try with_reducible rfl)
         try simp only[Act.put,List.getElem_toArray,List.getElem_cons_succ,List.getElem_cons_zero,List.setIfInBounds_toArray,List.set_cons_zero,List.set_cons_succ]
         refine wpAnyH_take (i:=6) (v := ?DN) rfl (by kernel_rfl) (by kernel_rfl) (by kernel_rfl) (λ_ _ _ h=>h) (Or.inl ⟨by rfl,?zU⟩) (by assumption) ?DO
         case zU=>(intro w B;(try dsimp only at B);go_simp;try with_reducible rfl)
         try simp only[Act.put,List.getElem_toArray,List.getElem_cons_succ,List.getElem_cons_zero,List.setIfInBounds_toArray,List.set_cons_zero,List.set_cons_succ]
         refine wpAnyH_ready (rs:=[4,7]) (by kernel_rfl) (by simp) ?_;refine AllReadyH.cons rfl (λY y => ?_) (AllReadyH.cons rfl (λY y => ?_) AllReadyH.nil)
         ·go_simp
          refine y.out _ _ ?_ (λA => ?_)
          ·assumption
          clear y Y;try simp only[Act.put,List.getElem_toArray,List.getElem_cons_succ,List.getElem_cons_zero,List.setIfInBounds_toArray,List.set_cons_zero,List.set_cons_succ]
          refine wpAnyH_ready (rs:=[7]) (by kernel_rfl) (by simp) ?_;refine AllReadyH.cons rfl (λY y => ?_) AllReadyH.nil;go_simp;go_at_call 260;refine Calls.mono ai ?_;rintro eK wK ⟨kv,rfl,aa,rfl⟩;have K:wZ.grownBy wK (some D.heap.size):=grown_trans Z (grown_of_ext _ (grown_trans (grown_drew _ _) aa));have W:Box3 wK D.heap.size (.pointer (some ⟨pb,po,none⟩)) (.slice (some ⟨bL,oL,none⟩) L'.length bG) (.slice ad ae af):=hX.ext (grown_trans (grown_drew _ _) aa);have aM:OwnV wZ.heap.size 62 wK (.slice ad ae af) vs:=hO.kept (grown_trans (grown_drew _ _) aa) (by cases hv:(Value.slice ad ae af).ownBlock<;>simp);obtain⟨dW,hz1,hz2,hz3,nK⟩:=id W;go_wp2_with fail
          refine y.out _ _ ?_ (λA => ?_)
          ·exact K
          clear y Y;try simp only[Act.put,List.getElem_toArray,List.getElem_cons_succ,List.getElem_cons_zero,List.setIfInBounds_toArray,List.set_cons_zero,List.set_cons_succ]
          refine wpAnyH_take (i:=8) (v := ?DR) rfl (by kernel_rfl) (by kernel_rfl) (by kernel_rfl) (λ_ _ _ h=>h) (Or.inl ⟨by rfl,?zV⟩) (by assumption) ?DT
          case zV=>(intro w B;(try dsimp only at B);go_simp;try with_reducible rfl)
          try simp only[Act.put,List.getElem_toArray,List.getElem_cons_succ,List.getElem_cons_zero,List.setIfInBounds_toArray,List.set_cons_zero,List.set_cons_succ]
          refine wpAnyH_ready (rs:=[9]) (by kernel_rfl) (by simp) ?_;refine AllReadyH.cons rfl (λY y => ?_) AllReadyH.nil;go_simp;refine y.out _ _ ?_ (λA => ?_)
          ·exact grown_trans K (grown_of_ext _ (World.grownBy_alloc _ _ _))
          clear y Y;try simp only[Act.put,List.getElem_toArray,List.getElem_cons_succ,List.getElem_cons_zero,List.setIfInBounds_toArray,List.set_cons_zero,List.set_cons_succ]
          refine wpAnyH_ready (rs:=[10]) (by kernel_rfl) (by simp) ?_;refine AllReadyH.cons rfl (λY y => ?_) AllReadyH.nil;refine oU rfl _ _ rfl wZ.heap.size (.slice ad ae af) vs q rfl wK aM rfl rfl HU.out.2.2.2.2.2.2.1 K.size ?_;intro v8 w8 V E;have aB:∀b,(Value.slice ad ae af).ownBlock=some b->wZ.heap.size<=b:=λb J=>(aM.lt b J).1;have ab:=W.keep E.size (E.block _ W.1 (λe=>by have:=aB _ e.symm;omega));have I:wZ.grownBy w8 (some D.heap.size):=grown_own K E (λb J r=>by have:=aB b J;omega);obtain⟨ja,jn,jc,iU⟩:∃a n c,v8=.slice a n c:=(by rcases V.form with⟨h1,_⟩|⟨g,cp,h1,_⟩<;>exact⟨_,_,_,h1⟩);subst iU;have aA:=(ab.put (.slice ja jn jc)).2.2;have X:=iT w8 ⟨D.heap.size,2,none⟩ (.slice ja jn jc);have aC:(Value.slice ja jn jc).ownBlock=none\/(Value.slice ja jn jc).ownBlock≠some D.heap.size := .inr (λe=>by have:=(V.lt _ e).1;omega);have aD:=V.kept X aC;rw[<-HU.out.2.2.2.2.2.1] at aD;have Q:=grown_trans I X;obtain⟨du,hj1,hj2,lZ,l5⟩:=id ab;refine y.out _ _ ?_ (λA => ?_)
          ·exact I
          clear y Y;try simp only[Act.put,List.getElem_toArray,List.getElem_cons_succ,List.getElem_cons_zero,List.setIfInBounds_toArray,List.set_cons_zero,List.set_cons_succ]
          refine wpAnyH_take (i:=11) (v := ?DU) rfl (by kernel_rfl) (by kernel_rfl) (by kernel_rfl) (λ_ _ _ h=>h) (Or.inl ⟨by rfl,?zW⟩) (by assumption) ?DV
          case zW=>(intro w B;(try dsimp only at B);go_simp;try with_reducible rfl)
          try simp only[Act.put,List.getElem_toArray,List.getElem_cons_succ,List.getElem_cons_zero,List.setIfInBounds_toArray,List.set_cons_zero,List.set_cons_succ]
          refine wpAnyH_take (i:=12) (v := ?DW) rfl (by kernel_rfl) (by kernel_rfl) (by kernel_rfl) (λ_ _ _ h=>h) (Or.inl ⟨by rfl,?zX⟩) (by assumption) ?DX
          case zX=>(intro w B;(try dsimp only at B);go_simp;try with_reducible rfl)
          try simp only[Act.put,List.getElem_toArray,List.getElem_cons_succ,List.getElem_cons_zero,List.setIfInBounds_toArray,List.set_cons_zero,List.set_cons_succ]
          refine wpAnyH_ready (rs:=[13]) (by kernel_rfl) (by simp) ?_;refine AllReadyH.cons rfl (λY y => ?_) AllReadyH.nil;go_simp;refine y.out _ _ ?_ (λA => ?_)
          ·exact Q
          clear y Y;try simp only[Act.put,List.getElem_toArray,List.getElem_cons_succ,List.getElem_cons_zero,List.setIfInBounds_toArray,List.set_cons_zero,List.set_cons_succ]
          refine wpAnyH_done (by kernel_rfl) ?_ _;clear hz1 hz2 hz3 nK hj1 hj2 lZ l5 fZ kg;go_wp2;go_roundw
          case rel=>exact⟨k+1,_,by go_num,by omega,Q,aA,aD⟩
          case measure=>simp[intOf];omega
         ·go_simp
          go_at_call 260;refine Calls.mono ai ?_;rintro eK wK ⟨kv,rfl,aa,rfl⟩;have K:wZ.grownBy wK (some D.heap.size):=grown_trans Z (grown_of_ext _ (grown_trans (grown_drew _ _) aa));have W:Box3 wK D.heap.size (.pointer (some ⟨pb,po,none⟩)) (.slice (some ⟨bL,oL,none⟩) L'.length bG) (.slice ad ae af):=hX.ext (grown_trans (grown_drew _ _) aa);have aM:OwnV wZ.heap.size 62 wK (.slice ad ae af) vs:=hO.kept (grown_trans (grown_drew _ _) aa) (by cases hv:(Value.slice ad ae af).ownBlock<;>simp);obtain⟨dW,hz1,hz2,hz3,nK⟩:=id W;go_wp2_with fail
          refine y.out _ _ ?_ (λA => ?_)
          ·exact K
          clear y Y;try simp only[Act.put,List.getElem_toArray,List.getElem_cons_succ,List.getElem_cons_zero,List.setIfInBounds_toArray,List.set_cons_zero,List.set_cons_succ]
          refine wpAnyH_take (i:=8) (v := ?DY) rfl (by kernel_rfl) (by kernel_rfl) (by kernel_rfl) (λ_ _ _ h=>h) (Or.inl ⟨by rfl,?zY⟩) (by assumption) ?DZ
          case zY=>(intro w B;(try dsimp only at B);go_simp;try with_reducible rfl)
          try simp only[Act.put,List.getElem_toArray,List.getElem_cons_succ,List.getElem_cons_zero,List.setIfInBounds_toArray,List.set_cons_zero,List.set_cons_succ]
          refine wpAnyH_ready (rs:=[4,9]) (by kernel_rfl) (by simp) ?_;refine AllReadyH.cons rfl (λY y => ?_) (AllReadyH.cons rfl (λY y => ?_) AllReadyH.nil)
          ·go_simp
           refine y.out _ _ ?_ (λA => ?_)
           ·assumption
           clear y Y;try simp only[Act.put,List.getElem_toArray,List.getElem_cons_succ,List.getElem_cons_zero,List.setIfInBounds_toArray,List.set_cons_zero,List.set_cons_succ]
           refine wpAnyH_ready (rs:=[9]) (by kernel_rfl) (by simp) ?_;refine AllReadyH.cons rfl (λY y => ?_) AllReadyH.nil;go_simp;refine y.out _ _ ?_ (λA => ?_)
           ·exact grown_trans K (grown_of_ext _ (World.grownBy_alloc _ _ _))
           clear y Y;try simp only[Act.put,List.getElem_toArray,List.getElem_cons_succ,List.getElem_cons_zero,List.setIfInBounds_toArray,List.set_cons_zero,List.set_cons_succ]
           refine wpAnyH_ready (rs:=[10]) (by kernel_rfl) (by simp) ?_;refine AllReadyH.cons rfl (λY y => ?_) AllReadyH.nil;refine oU rfl _ _ rfl wZ.heap.size (.slice ad ae af) vs q rfl wK aM rfl rfl HU.out.2.2.2.2.2.2.1 K.size ?_;intro v8 w8 V E;have aB:∀b,(Value.slice ad ae af).ownBlock=some b->wZ.heap.size<=b:=λb J=>(aM.lt b J).1;have ab:=W.keep E.size (E.block _ W.1 (λe=>by have:=aB _ e.symm;omega));have I:wZ.grownBy w8 (some D.heap.size):=grown_own K E (λb J r=>by have:=aB b J;omega);obtain⟨ja,jn,jc,iU⟩:∃a n c,v8=.slice a n c:=(by rcases V.form with⟨h1,_⟩|⟨g,cp,h1,_⟩<;>exact⟨_,_,_,h1⟩);subst iU;have aA:=(ab.put (.slice ja jn jc)).2.2;have X:=iT w8 ⟨D.heap.size,2,none⟩ (.slice ja jn jc);have aC:(Value.slice ja jn jc).ownBlock=none\/(Value.slice ja jn jc).ownBlock≠some D.heap.size := .inr (λe=>by have:=(V.lt _ e).1;omega);have aD:=V.kept X aC;rw[<-HU.out.2.2.2.2.2.1] at aD;have Q:=grown_trans I X;obtain⟨du,hj1,hj2,lZ,l5⟩:=id ab;refine y.out _ _ ?_ (λA => ?_)
           ·exact I
           clear y Y;try simp only[Act.put,List.getElem_toArray,List.getElem_cons_succ,List.getElem_cons_zero,List.setIfInBounds_toArray,List.set_cons_zero,List.set_cons_succ]
           refine wpAnyH_take (i:=11) (v := ?D1) rfl (by kernel_rfl) (by kernel_rfl) (by kernel_rfl) (λ_ _ _ h=>h) (Or.inl ⟨by rfl,?zZ⟩) (by assumption) ?D2
           case zZ=>(intro w B;(try dsimp only at B);go_simp;try with_reducible rfl)
           try simp only[Act.put,List.getElem_toArray,List.getElem_cons_succ,List.getElem_cons_zero,List.setIfInBounds_toArray,List.set_cons_zero,List.set_cons_succ]
           refine wpAnyH_take (i:=12) (v := ?D3) rfl (by kernel_rfl) (by kernel_rfl) (by kernel_rfl) (λ_ _ _ h=>h) (Or.inl ⟨by rfl,?z6⟩) (by assumption) ?D4
           case z6=>(intro w B;(try dsimp only at B);go_simp;try with_reducible rfl)
           try simp only[Act.put,List.getElem_toArray,List.getElem_cons_succ,List.getElem_cons_zero,List.setIfInBounds_toArray,List.set_cons_zero,List.set_cons_succ]
           refine wpAnyH_ready (rs:=[13]) (by kernel_rfl) (by simp) ?_;refine AllReadyH.cons rfl (λY y => ?_) AllReadyH.nil;go_simp;refine y.out _ _ ?_ (λA => ?_)
           ·exact Q
           clear y Y;try simp only[Act.put,List.getElem_toArray,List.getElem_cons_succ,List.getElem_cons_zero,List.setIfInBounds_toArray,List.set_cons_zero,List.set_cons_succ]
           refine wpAnyH_done (by kernel_rfl) ?_ _;clear hz1 hz2 hz3 nK hj1 hj2 lZ l5 fZ kg;go_wp2;go_roundw
           case rel=>exact⟨k+1,_,by go_num,by omega,Q,aA,aD⟩
           case measure=>simp[intOf];omega
          ·go_simp
           refine y.out _ _ ?_ (λA => ?_)
           ·exact grown_trans K (grown_of_ext _ (World.grownBy_alloc _ _ _))
           clear y Y;try simp only[Act.put,List.getElem_toArray,List.getElem_cons_succ,List.getElem_cons_zero,List.setIfInBounds_toArray,List.set_cons_zero,List.set_cons_succ]
           refine wpAnyH_ready (rs:=[4]) (by kernel_rfl) (by simp) ?_;refine AllReadyH.cons rfl (λY y => ?_) AllReadyH.nil;go_simp;refine y.out _ _ ?_ (λA => ?_)
           ·assumption
           clear y Y;try simp only[Act.put,List.getElem_toArray,List.getElem_cons_succ,List.getElem_cons_zero,List.setIfInBounds_toArray,List.set_cons_zero,List.set_cons_succ]
           refine wpAnyH_ready (rs:=[10]) (by kernel_rfl) (by simp) ?_;refine AllReadyH.cons rfl (λY y => ?_) AllReadyH.nil;refine oU rfl _ _ rfl wZ.heap.size (.slice ad ae af) vs q rfl wK aM rfl rfl HU.out.2.2.2.2.2.2.1 K.size ?_;intro v8 w8 V E;have aB:∀b,(Value.slice ad ae af).ownBlock=some b->wZ.heap.size<=b:=λb J=>(aM.lt b J).1;have ab:=W.keep E.size (E.block _ W.1 (λe=>by have:=aB _ e.symm;omega));have I:wZ.grownBy w8 (some D.heap.size):=grown_own K E (λb J r=>by have:=aB b J;omega);obtain⟨ja,jn,jc,iU⟩:∃a n c,v8=.slice a n c:=(by rcases V.form with⟨h1,_⟩|⟨g,cp,h1,_⟩<;>exact⟨_,_,_,h1⟩);subst iU;have aA:=(ab.put (.slice ja jn jc)).2.2;have X:=iT w8 ⟨D.heap.size,2,none⟩ (.slice ja jn jc);have aC:(Value.slice ja jn jc).ownBlock=none\/(Value.slice ja jn jc).ownBlock≠some D.heap.size := .inr (λe=>by have:=(V.lt _ e).1;omega);have aD:=V.kept X aC;rw[<-HU.out.2.2.2.2.2.1] at aD;have Q:=grown_trans I X;obtain⟨du,hj1,hj2,lZ,l5⟩:=id ab;refine y.out _ _ ?_ (λA => ?_)
           ·exact I
           clear y Y;try simp only[Act.put,List.getElem_toArray,List.getElem_cons_succ,List.getElem_cons_zero,List.setIfInBounds_toArray,List.set_cons_zero,List.set_cons_succ]
           refine wpAnyH_take (i:=11) (v := ?D5) rfl (by kernel_rfl) (by kernel_rfl) (by kernel_rfl) (λ_ _ _ h=>h) (Or.inl ⟨by rfl,?z7⟩) (by assumption) ?D6
           case z7=>(intro w B;(try dsimp only at B);go_simp;try with_reducible rfl)
           try simp only[Act.put,List.getElem_toArray,List.getElem_cons_succ,List.getElem_cons_zero,List.setIfInBounds_toArray,List.set_cons_zero,List.set_cons_succ]
           refine wpAnyH_take (i:=12) (v := ?D7) rfl (by kernel_rfl) (by kernel_rfl) (by kernel_rfl) (λ_ _ _ h=>h) (Or.inl ⟨by rfl,?z8⟩) (by assumption) ?D8
           case z8=>(intro w B;(try dsimp only at B);go_simp;try with_reducible rfl)
           try simp only[Act.put,List.getElem_toArray,List.getElem_cons_succ,List.getElem_cons_zero,List.setIfInBounds_toArray,List.set_cons_zero,List.set_cons_succ]
           refine wpAnyH_ready (rs:=[13]) (by kernel_rfl) (by simp) ?_;refine AllReadyH.cons rfl (λY y => ?_) AllReadyH.nil;go_simp;refine y.out _ _ ?_ (λA => ?_)
           ·exact Q
           clear y Y;try simp only[Act.put,List.getElem_toArray,List.getElem_cons_succ,List.getElem_cons_zero,List.setIfInBounds_toArray,List.set_cons_zero,List.set_cons_succ]
           refine wpAnyH_done (by kernel_rfl) ?_ _;clear hz1 hz2 hz3 nK hj1 hj2 lZ l5 fZ kg;go_wp2;go_roundw
           case rel=>exact⟨k+1,_,by go_num,by omega,Q,aA,aD⟩
           case measure=>simp[intOf];omega
        ·have bH:k=L'.length:=by omega
         have dv:OwnV w.heap.size 62 wr mv (L'.map λu=>uV (mskU P u)):=by
          rw[List.take_of_length_le (by omega)] at hO;exact OwnV.weak hO (by have:=dR;have:=dS;have:=HZ.out.2.2.2.1.size;omega)
         have bU:Ext D wr:=grown_own HZ.out.2.2.2.1 Z (λb J r=>by cases J;omega);have bV:rQ w.heap.size P wr D.heap.size (.pointer (some ⟨pb,po,none⟩)) L':=⟨by omega,_,_,hX,ct.o.weak (by omega),dv⟩;have cx:=Lib.hid (And.intro bV (grown_trans bt (grown_trans ca bU)));have ez:¬(k:Int)<L'.length:=by omega
         clear bV bU dv hO ct dq hX Z bH r hk;go_wp2;refine bodyPost_ret (v := .tuple #[.pointer (some ⟨D.heap.size,0,none⟩),.int .i64 0]) (by simp[results,Tryz.results184,go_sem]) rfl ?_;exact⟨_,rfl,cx.out.2,some ⟨D.heap.size,0,none⟩,by rw[cF.out],λh=>absurd cF.out h,λ_=>by first|exact⟨D.heap.size,L',rfl,HZ.out.1,cx.out.1⟩|exact⟨D.heap.size,rfl,L',HZ.out.1,cx.out.1⟩⟩
       -->C
     -->B
   -->A
end Go.Proofs.YtdcobapnlpeaaaaGreat
