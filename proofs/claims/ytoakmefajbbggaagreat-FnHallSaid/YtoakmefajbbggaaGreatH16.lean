/- Merged from templates. -/
import Derived.Test.YtoakmefajbbggaaGreatH15
set_option maxRecDepth 100000
set_option maxHeartbeats 8000000
namespace Go.Proofs.YtoakmefajbbggaaGreat
open Go.RowKit
attribute [local go_sem ↓] Go.wp_at_zero Go.wp_at_succ
theorem Pres3.keptB {B:Nat}{r:Option Nat}{w w':World}{vo vp vc:Value}{P:Pr}(h:Pres3 (From B) w vo vp vc P) (a:w.grownBy w' r) (b:∀k,r=some k->k<B):Pres3 (From B) w' vo vp vc P:=
 h.mono (frame_of a (λk hk _=>⟨hk,λe=>by have:=b k e;have hk:B<=k:=hk;omega⟩))
theorem Pres3.low {B B':Nat}{w:World}{vo vp vc:Value}{P:Pr}(h:Pres3 (From B) w vo vp vc P) (hB:B'<=B):Pres3 (From B') w vo vp vc P:=
 h.mono (λ_ hk a=>⟨Nat.le_trans hB hk,a,rfl⟩)
theorem l01From_ok (w:World) (cv:Value) (m:List Int) (S:Nat->Prop) (A:Bytes S w cv m) :
  Calls Tryz.prog 49 #[cv] w (Ret w λw' v=>v=.pointer (some ⟨w.heap.size,0,none⟩)/\Src (w.heap.size+1) w' w.heap.size):=by
 obtain⟨a,cap,rfl,_,hlen⟩:=Sl.shape A;have B:=Box3.made w 124 (.slice a m.length cap) (.int .i64 0) (.int .i64 76001);have C:Ext w (w.alloc (.cells #[.slice a m.length cap,.int .i64 0,.int .i64 76001] 124)):=World.grownBy_alloc _ _ _;go_enter Tryz.func49,Tryz.ntmps49;go_wp2_with fail
 generalize w.alloc (.cells #[.slice a m.length cap,.int .i64 0,.int .i64 76001] 124)=w0 at *;go_loopw [4] (λJ wr=>∃(i e:Nat),J=.int .i64 i/\i<=m.length/\e<2147483647/\Ext w wr/\Box3 wr w.heap.size (.slice a m.length cap) (.int .i64 0) (.int .i64 e)) (λJ _=>m.length-(intOf J).toNat)
 case atStart=>exact⟨0,76001,rfl,by omega,by omega,C,B⟩
 case round=>
  clear B C;obtain⟨i,e,rfl,hi,hs,r,hB⟩:=hrel;by_cases l:i<m.length
  ·by_cases Q:i<64
   ·obtain ⟨b,off,rfl,hbS,hbl,u,K,L⟩:=Bytes.at A i l
    have y:=r.cell u (by simp);generalize gt m i=x at u y K L;have D:(i:Int)<(m.length:Nat):=by omega
    have M:(i:Int)<64:=by omega
    obtain⟨q,z⟩:∃q:Nat,((e:Int)*71+x)%2147483647=(q:Int)/\q<2147483647:=⟨(((e:Int)*71+x)%2147483647).toNat,by omega,by omega⟩;have E:=(hB.put (.int .i64 (q:Nat))).2.2;have F:=grown_set wr w.heap.size 2 (.int .i64 (q:Nat));have G:Ext w (wr.setCell ⟨w.heap.size,2,none⟩ (.int .i64 (q:Nat))):=grown_own r F (λj R l=>by have:=Option.some.inj R;omega);have H:=E.ext (grown_drew (wr.setCell ⟨w.heap.size,2,none⟩ (.int .i64 (q:Nat))) none);have I:=grown_trans G (grown_drew (wr.setCell ⟨w.heap.size,2,none⟩ (.int .i64 (q:Nat))) none);have T:IntKind.i64.wrap ((e:Int)*71)=(e:Int)*71:=IntWalk.i64_in _ (by omega);have U:IntKind.i64.wrap ((e:Int)*71+x)=(e:Int)*71+x:=IntWalk.i64_in _ (by omega);have V:IntKind.i64.wrap x=x:=IntWalk.i64_in _ (by omega);have N:((e:Int)*71+x).tmod 2147483647=(q:Int):=by rw[Int.tmod_eq_emod_of_nonneg (by omega)];exact z.1
    obtain⟨O,h1,h2,h3,h4⟩:=id hB;have c0:wr.drew.cell? ⟨w.heap.size,2,none⟩=some (.int .i64 e):=h3;have c1:wr.drew.cell? ⟨b,off+i,none⟩=some (.int .u8 x):=y;have c2:w.heap.size<wr.drew.heap.size:=O;have c3:=h4;have p:=Lib.hid (And.intro I (And.intro H (And.intro z.2 A)));clear I H z A G F E hB r O h1 h2 h3 u y;go_wp2;go_still_tail 15,(by kernel_rfl)
    change wpList _ _ _ _ _ wr.drew;go_wp2;go_roundw
    case rel=>exact⟨i+1,q,by go_num,by omega,p.out.2.2.1,p.out.1,p.out.2.1⟩
    case measure=>simp[intOf];omega
   ·have D:(i:Int)<(m.length:Nat):=by omega
    have M:¬(i:Int)<64:=by omega
    have p:=Lib.hid (And.intro r hB);clear r hB;go_wp2;go_ret;exact⟨_,rfl,p.out.1,rfl,_,0,e,m,p.out.2,Bytes.mono A (λk _ l=>⟨⟨by omega,by omega⟩,Nat.lt_of_lt_of_le l p.out.1.size,p.out.1.block k l (by simp)⟩),by omega,hs,by omega⟩
  ·have D:¬(i:Int)<(m.length:Nat):=by omega
   have p:=Lib.hid (And.intro r hB);clear r hB;go_wp2;go_ret;exact⟨_,rfl,p.out.1,rfl,_,0,e,m,p.out.2,Bytes.mono A (λk _ l=>⟨⟨by omega,by omega⟩,Nat.lt_of_lt_of_le l p.out.1.size,p.out.1.block k l (by simp)⟩),by omega,hs,by omega⟩
theorem big_ok (w:World) (cv:Value) (b:List Int) (S:Nat->Prop) (i:Bytes S w cv b) :
  Calls Tryz.prog 7 #[cv] w λe w'=>e=.returned (.bool (decide (4096<b.length)))/\w=w':=by
 obtain⟨a,cap,rfl,_,hlen⟩:=Sl.shape i;go_enter Tryz.func7,Tryz.ntmps7;by_cases h:4096<b.length
 ·have j:(4096:Int)<(b.length:Nat):=by omega
  go_wp2;go_ret;exact⟨ret_b (by simp[h]),rfl⟩
 ·have j:¬(4096:Int)<(b.length:Nat):=by omega
  go_wp2;go_ret;exact⟨ret_b (by simp),rfl⟩
theorem l18Draw_ok (A:Nat) (w:World) (sb:Nat) (B:A<=w.heap.size) (S:Src A w sb) :
  Calls Tryz.prog 175 #[.pointer (some ⟨sb,0,none⟩)] w (Mut w (some sb) (DrawR A sb (PresAL 7 (λ_=>True) w.heap.size))):=by
 have Y:=S.lt;have C:=Box3.made w 28 (.slice none 0 0) (.slice none 0 0) (.slice none 0 0);have y:Ext w (w.alloc (.cells #[.slice none 0 0,.slice none 0 0,.slice none 0 0] 28)):=World.grownBy_alloc _ _ _;have T:(w.alloc (.cells #[.slice none 0 0,.slice none 0 0,.slice none 0 0] 28)).heap.size=w.heap.size+1:=by simp
 have D:=Lib.hid (S.ext y);clear S;go_enter Tryz.func175,Tryz.ntmps175;go_wp2_with fail
 generalize w.alloc (.cells #[.slice none 0 0,.slice none 0 0,.slice none 0 0] 28)=w0 at *;have U:w.heap.size+1<=w0.heap.size:=by omega
 clear T;refine Calls.mono (l01Next_ok A w0 sb 15 D.out) ?_;rintro e3 Q ⟨v3,rfl,q,x,rfl,_,hx1,hs3⟩;have E:=C.moved q (by omega);have u:=grown_trans (grown_of_ext (some sb) y) q;have V:=q.size;have W:=Lib.hid hs3;clear hs3 q C y D hx1;by_cases z:x=0
 ·subst z
  go_wp2_with fail
  refine Calls.mono (l07DrawL_ok A Q sb 243 (by omega) W.out) ?_;rintro Z w4 ⟨v4,rfl,hg4,⟨uo,up,uc,R,rfl,j,l,hRo⟩,m⟩;obtain⟨F,G,H,hy1⟩:∃a n c,uo=.slice a n c:=by obtain⟨a,c,e,_⟩:=l.o.shape;exact⟨_,_,_,e⟩
  obtain⟨I,J,K,hy2⟩:∃a n c,up=.slice a n c:=by obtain⟨a,c,e,_⟩:=Sl.shape l.p;exact⟨_,_,_,e⟩
  obtain⟨L,M,N,hy3⟩:∃a n c,uc=.slice a n c:=by obtain⟨a,c,e,_⟩:=Sl.shape l.c;exact⟨_,_,_,e⟩
  subst hy1 hy2 hy3;have i:=E.moved hg4 (by omega);have b:=grown_trans u hg4;obtain⟨b0,b1,b2,b3,b4⟩:=id i;have O:=i.all (.slice F G H) (.slice I J K) (.slice L M N);obtain⟨-,z0,z1,z2,-⟩:=id O;have r:=Lib.hid (And.intro b (And.intro m (And.intro l j)));clear O b m l j i hg4 hRo;go_wp2_with fail
  refine bodyPost_ret (v := .agg #[.slice F G H,.slice I J K,.slice L M N]) (by simp[results,Tryz.results175,go_sem,z0,z1,z2]) rfl ?_;exact a_ret r.out.1 (br:=w.heap.size) (Nat.le_refl _) (λk hk _=>by have hk:Q.heap.size<=k:=hk;exact⟨by omega,by omega⟩) r.out.2.1 B r.out.2.2.2 r.out.2.2.1 trivial
 have X:(x == 0)=false:=by simp[z]
 clear z;go_wp2_with fail
 refine Calls.mono (l07DrawL_ok A Q sb 36 (by omega) W.out) ?_;rintro Z w4 ⟨v4,rfl,hg4,⟨uo,up,uc,R,rfl,j,l,hRo⟩,m⟩;obtain⟨F,G,H,hy1⟩:∃a n c,uo=.slice a n c:=by obtain⟨a,c,e,_⟩:=l.o.shape;exact⟨_,_,_,e⟩
 obtain⟨I,J,K,hy2⟩:∃a n c,up=.slice a n c:=by obtain⟨a,c,e,_⟩:=Sl.shape l.p;exact⟨_,_,_,e⟩
 obtain⟨L,M,N,hy3⟩:∃a n c,uc=.slice a n c:=by obtain⟨a,c,e,_⟩:=Sl.shape l.c;exact⟨_,_,_,e⟩
 subst hy1 hy2 hy3;have i:=E.moved hg4 (by omega);have b:=grown_trans u hg4;obtain⟨b0,b1,b2,b3,b4⟩:=id i;have O:=i.all (.slice F G H) (.slice I J K) (.slice L M N);obtain⟨-,z0,z1,z2,-⟩:=id O;have r:=Lib.hid (And.intro b (And.intro m (And.intro l j)));clear O b m l j i hg4 hRo;go_wp2_with fail
 refine bodyPost_ret (v := .agg #[.slice F G H,.slice I J K,.slice L M N]) (by simp[results,Tryz.results175,go_sem,z0,z1,z2]) rfl ?_;exact a_ret r.out.1 (br:=w.heap.size) (Nat.le_refl _) (λk hk _=>by have hk:Q.heap.size<=k:=hk;exact⟨by omega,by omega⟩) r.out.2.1 B r.out.2.2.2 r.out.2.2.1 trivial
end Go.Proofs.YtoakmefajbbggaaGreat
namespace Go.Proofs.YtoakmefajbbggaaGreat
open Go.RowKit
def dvs (n:Int):List Int:=([2,3,5,7]:List Int).filter (λq=>n%q == 0)
theorem wp_app_ints4 {k:Array Oper}{rest:List Oper}{o:Oper}{a:Act}{Q:Exit->Act->World->Prop}{w:World}(y:o.guard=none) (s x:Operand)
  (B:o.op=Op.call { callee:=Callee.builtin Builtin.append,args := #[s,x],argTypes := #[24,24] }) (base:Nat) (v:Value) (l:List Int) (C:a.eval s=v) (p:Own base w v l)
  (u:Value) (m:List Int) (hx:a.eval x=u) (S:Nat->Prop) (r:Ints S w u m) (q:l.length+m.length<=2147483648) (e:base<=w.heap.size)
  (h:∀i w',Own base w' i (l++m)->w.grownBy w' v.ownBlock->(i.ownBlock=v.ownBlock\/i.ownBlock=some w.heap.size)->wpList Tryz.prog k Q rest (a.put o.dst i) w') :
  wpList Tryz.prog k Q (o :: rest) a w:=by
 obtain⟨D,cap,rfl,⟨_,_,E⟩,hc⟩:=r;refine wp_app 24 2 (.int .i64 0) 8 und_ints Tryz.infoInt rfl (by decide) y s x B base v (l.map (Value.int .i64)) C p.v D m.length cap (m.map (Value.int .i64)) hx (by simp) E ?_ ?_ (by simpa using q) e ?_
 ·intro j A
  obtain⟨b,off,u,h1,_,_,z,h3⟩:=hc j A;exact⟨b,off,h1,by rw[z,h3];simp[gt,A]⟩
 ·intro u r
  simp at r
  obtain⟨x,_,rfl⟩:=r;rfl
 ·intro i w' h1 z _ F
  exact h i w' (Own.of (by rw[List.map_append];exact h1)) z F
def dvsK (n q:Int):List Int:=([2,3,5,7]:List Int).filter (λx=>decide (x<q) && n%x == 0)
theorem dvsK_step0 (n q:Int) (l:2<=q) (m:q<=7):dvsK n (q+1)=if (primeB q && n%q == 0)=true then dvsK n q++[q] else dvsK n q:=by
 have a:q=2\/q=3\/q=4\/q=5\/q=6\/q=7:=by omega
 unfold dvsK primeB;rcases a with rfl|rfl|rfl|rfl|rfl|rfl<;>simp only[List.filter_cons,List.filter_nil]<;>generalize (n%2 == 0)=b2<;>generalize (n%3 == 0)=b<;>generalize (n%4 == 0)=e<;>generalize (n%5 == 0)=i<;>generalize (n%6 == 0)=j<;>generalize (n%7 == 0)=k<;>revert b2 b e i j k<;>decide
theorem dvsK_step (n:Int) (q:Nat) (e:2<=q) (i:q<=7):dvsK n ((q+1:Nat):Int)=if primeB (q:Int)=true/\n%(q:Int)=0 then dvsK n q++[(q:Int)] else dvsK n q:=by
 have h:=dvsK_step0 n (q:Int) (by omega) (by omega);rw[show((q+1:Nat):Int)=(q:Int)+1 from rfl,h];by_cases h1:primeB (q:Int)=true
 ·by_cases b:n%(q:Int)=0
  ·rw[if_pos (by rw[h1,b];rfl),if_pos ⟨h1,b⟩]
  ·rw[if_neg (λa=>b (by simpa [h1] using a)),if_neg (λa=>b a.2)]
 ·rw[if_neg (λa=>h1 (Bool.and_eq_true_iff.1 a).1),if_neg (λa=>h1 a.1)]
theorem dvsK_all (n:Int):dvsK n 8=dvs n:=by
 unfold dvsK dvs;refine List.filter_congr (λx hx => ?_);simp only[List.mem_cons,List.not_mem_nil,or_false] at hx;rcases hx with rfl|rfl|rfl|rfl<;>simp
theorem dvsK_two (n:Int):dvsK n 2=[]:=by
 unfold dvsK;simp[List.filter]
theorem dvsK_len (n q:Int):(dvsK n q).length<=4:=List.length_filter_le _ _
theorem dvs_len (n:Int):(dvs n).length<=4:=List.length_filter_le _ _
section
variable {P:Pr}
end
theorem own_litI {B H:Nat}{w:World}(hB:B<=w.heap.size) (hH:w.heap.size=H):Own B (w.alloc (.cells #[] 2)) (.slice (some ⟨H,0,none⟩) 0 0) []:=by
 subst hH;exact World.ownsRow_lit w #[] 0 hB (by decide) rfl
theorem l20Divisors_ok (P:Pr) (hP:Valid P) (w:World) (pv:Value) (Sp:Nat->Prop) (N:PresV Sp w pv P) :
  Calls Tryz.prog 226 #[pv] w (Ret w λw' v=>Own w.heap.size w' v (dvs (ordP P))):=by
 have D:ordP P<=729:=hP.le729;have E:=hP.ordP_pos;obtain⟨vo,vp,vc,rfl,h3⟩:=N;have F:=PresP.box h3 28;have G:Ext w (w.alloc (.cells #[vo,vp,vc] 28)):=World.grownBy_alloc _ _ _;obtain⟨H,vp6,vc6,_,_,p,e,i,h36⟩:=F.at;simp only[Nat.zero_add] at e i;have I:∀w',Ext (w.alloc (.cells #[vo,vp,vc] 28)) w'->w'.cell? ⟨w.heap.size,0,none⟩=some H/\w'.cell? ⟨w.heap.size,1,none⟩=some vp6/\w'.cell? ⟨w.heap.size,2,none⟩=some vc6:=λw' h=>⟨h.cell p (by simp),h.cell e (by simp),h.cell i (by simp)⟩;have HB:=Lib.hid I;clear I F p e i;have J:(w.alloc (.cells #[vo,vp,vc] 28)).heap.size=w.heap.size+1:=by simp
 obtain⟨n,O⟩:∃n,n=ordP P:=⟨_,rfl⟩;rw[<-O] at D E ⊢;have HN:=Lib.hid O;clear O;go_enter Tryz.func226,Tryz.ntmps226;go_wp2_with fail
 generalize Q:w.alloc (.cells #[vo,vp,vc] 28)=w0 at *;clear Q;have K:=own_litI (B:=w0.heap.size) (Nat.le_refl _) J;have R:=Lib.hid K;clear K J;go_loopw [3,4] (λov S wr=>∃(q:Nat) (T:Value),T=ov/\S=.int .i64 (q:Int)/\2<=q/\q<=8/\Ext w0 wr/\Own w0.heap.size wr T (dvsK n q)) (λ_ S _=>8-(intOf S).toNat)
 case atStart=>exact⟨2,_,rfl,by go_num,Nat.le_refl _,by omega,World.grownBy_alloc _ _ _,by show Own _ _ _ (dvsK n 2);rw[dvsK_two];exact R.out⟩
 case round=>
  obtain⟨q,T,rfl,rfl,hq2,hq8,hg,hO⟩:=hrel;by_cases L:q<=7
  ·have Z:(q:Int)<=7:=by omega
   have r:=l01PrimeR_ok (q:Int) wr;have u:=dvsK_step n q hq2 L;obtain⟨b,hb⟩:∃b,b=primeB (q:Int):=⟨_,rfl⟩;rw[<-hb] at r u;have C:=Lib.hid u;clear u hb;have ah:=dvsK_len n q;go_wp2_with fail
   refine Calls.mono r ?_;rintro e1 w1 ⟨v1,rfl,y,rfl⟩;clear r;have a:=grown_trans hg y;cases b with
   | false=>
    have k:=C.out;rw[if_neg (λU=>by cases U.1)] at k;have l:=Lib.hid k;clear k C;go_wp2;go_roundw
    case rel=>exact⟨q+1,_,rfl,by go_num,by omega,by omega,a,by rw[l.out];exact hO.ext0 y⟩
    case measure=>simp[intOf];omega
   | true=>
    have z:=l10Order_ok w1 (.agg #[H,vp6,vc6]) P Any hP ⟨_,_,_,rfl,Pres3.ext h36 a⟩;rw[<-HN.out] at z;obtain⟨p,e,i⟩:=HB.out w1 a;go_wp2_with fail
    clear p e i;refine Calls.mono z ?_;rintro e2 w2 ⟨v2,rfl,M,rfl⟩;clear z;have m:=grown_trans a M;have A:=(hO.ext0 y).ext0 M;have aj:(0:Int)<(q:Int):=by omega
    have ak:((q:Int) == 0)=false:=by simp;omega
    by_cases hz:n%(q:Int)=0
    ·have k:=C.out
     rw[if_pos ⟨by first|rfl|trivial,hz⟩] at k;have l:=Lib.hid k;clear k C;go_wp2_with (at_builtin;go_must (refine wp_app_ints4 rfl _ _ rfl w0.heap.size _ (dvsK n q) rfl (A.ext0 (World.grownBy_alloc _ _ _)) _ [(q:Int)] rfl Any (Own.ints (World.ownsRow_lit w2 #[.int .i64 (q:Int)] 1 (Nat.zero_le _) (by decide) rfl) (by simp)) (by simp;omega) (by have:=m.size;simp;omega) ?_);intro v5 w5 V W _)
     have X:Ext w0 w5:=grown_own (grown_trans m (World.grownBy_alloc _ _ _)) W (λj hj L=>by have:=(A.lt j hj).1;omega);go_roundw
     case rel=>exact⟨q+1,_,rfl,by go_num,by omega,by omega,X,by rw[l.out];exact V⟩
     case measure=>simp[intOf];omega
    ·have k:=C.out
     rw[if_neg (λU=>hz U.2)] at k;have l:=Lib.hid k;clear k C;go_wp2;go_roundw
     case rel=>exact⟨q+1,_,rfl,by go_num,by omega,by omega,m,by rw[l.out];exact A⟩
     case measure=>simp[intOf];omega
  ·have Y:q=8:=by omega
   subst Y;have e8:dvsK n ((8:Nat):Int)=dvs n:=dvsK_all n;rw[e8] at hO;go_wp2;go_ret;exact⟨_,rfl,grown_trans G hg,hO.weak G.size⟩
end Go.Proofs.YtoakmefajbbggaaGreat
namespace Go.Proofs.YtoakmefajbbggaaGreat
open Go.RowKit
attribute [local go_sem ↓] Go.wp_at_zero Go.wp_at_succ
theorem l20Some_ok (P:Pr) (w:World) (pv:Value) (z:Nat->Prop) (l:PresV z w pv P) :
  Calls Tryz.prog 176 #[pv] w (Ret w λ_ v=>∃a n c,v=.slice a n c/\n<=4):=by
 obtain⟨vo,vp,vc,rfl,h3⟩:=l;have j:=PresP.box h3 28;have k:Ext w (w.alloc (.cells #[vo,vp,vc] 28)):=World.grownBy_alloc _ _ _;obtain⟨A,vp6,vc6,_,_,hc0,e,i,h36⟩:=j.at;simp only[Nat.zero_add] at e i;clear j;have y:=l08Group_ok P (w.alloc (.cells #[vo,vp,vc] 28)) _ Any ⟨_,_,_,rfl,h36⟩;go_enter Tryz.func176,Tryz.ntmps176;go_wp2_with fail
 generalize m:w.alloc (.cells #[vo,vp,vc] 28)=w0 at *;clear m;refine Calls.mono y ?_;rintro D B ⟨v1,rfl,b,rfl⟩;clear y;have p:=b.cell hc0 (by simp);have q:=b.cell e (by simp);have r:=b.cell i (by simp);clear hc0 e i;cases hr:rconsB P with
 | false=>
  clear hr;go_wp2;go_ret;exact⟨_,rfl,grown_trans k b,none,0,0,rfl,by omega⟩
 | true=>
  have G:=grp_of_r hr;clear hr;go_wp2_with fail
  clear p q r;refine Calls.mono (l20Divisors_ok P G.v B _ Any ⟨_,_,_,rfl,Pres3.ext h36 b⟩) ?_;rintro E F ⟨H,rfl,u,hO⟩;have C:=dvs_len (ordP P);obtain⟨a,c,hv,_,_⟩:=(hO.ints (by omega)).shape;subst hv;clear hO;generalize (dvs (ordP P)).length=n at *;go_wp2;go_ret;exact⟨_,rfl,grown_trans k (grown_trans b u),_,_,_,rfl,C⟩
theorem l20Draw_ok (B0:Nat) (w:World) (sb:Nat) (aG:B0<=w.heap.size) (hs:Src B0 w sb) :
  Calls Tryz.prog 100 #[.pointer (some ⟨sb,0,none⟩)] w (Mut w (some sb) (DrawR B0 sb (PresAL 18 (λ_=>True) w.heap.size))):=by
 have bG:=hs.lt;have aY:=Box3.made w 28 (.slice none 0 0) (.slice none 0 0) (.slice none 0 0);have aP:Ext w (w.alloc (.cells #[.slice none 0 0,.slice none 0 0,.slice none 0 0] 28)):=World.grownBy_alloc _ _ _;have bj:(w.alloc (.cells #[.slice none 0 0,.slice none 0 0,.slice none 0 0] 28)).heap.size=w.heap.size+1:=by simp
 have aZ:=Lib.hid (hs.ext aP);clear hs;go_enter Tryz.func100,Tryz.ntmps100;go_wp2_with fail
 generalize w.alloc (.cells #[.slice none 0 0,.slice none 0 0,.slice none 0 0] 28)=w0 at *;have bu:w.heap.size+1<=w0.heap.size:=by omega
 clear bj;refine Calls.mono (l18Draw_ok B0 w0 sb (by omega) aZ.out) ?_;rintro e1 w1 ⟨v1,rfl,aH,⟨vo,vp,vc,Q,rfl,hQl,hQ,-⟩,hs1⟩;obtain⟨a1,n1,c1,hy1⟩:∃a n c,vo=.slice a n c:=by obtain⟨a,c,e,_⟩:=hQ.o.shape;exact⟨_,_,_,e⟩
 obtain⟨a2,n2,c2,hy2⟩:∃a n c,vp=.slice a n c:=by obtain⟨a,c,e,_⟩:=Sl.shape hQ.p;exact⟨_,_,_,e⟩
 obtain⟨a3,n3,c3,hy3⟩:∃a n c,vc=.slice a n c:=by obtain⟨a,c,e,_⟩:=Sl.shape hQ.c;exact⟨_,_,_,e⟩
 subst hy1 hy2 hy3;have ad:Ext w1 (w1.alloc (.cells #[.slice a1 n1 c1,.slice a2 n2 c2,.slice a3 n3 c3] 28)):=World.grownBy_alloc _ _ _;have aI:=Box3.made w1 28 (.slice a1 n1 c1) (.slice a2 n2 c2) (.slice a3 n3 c3);obtain⟨pb,aQ⟩:∃pb,pb=w1.heap.size:=⟨_,rfl⟩;rw[<-aQ] at aI;have a0:=aH.size;have a4:Pres3 (λk=>w0.heap.size<=k/\k≠pb) (w1.alloc (.cells #[.slice a1 n1 c1,.slice a2 n2 c2,.slice a3 n3 c3] 28)) (.slice a1 n1 c1) (.slice a2 n2 c2) (.slice a3 n3 c3) Q:=hQ.mono (λk hk l=>⟨⟨hk,by omega⟩,Nat.lt_of_lt_of_le l ad.size,ad.block k l (by simp)⟩);have a5:=aY.moved aH (by omega);have a6:=a5.ext ad;have a7:=hs1.ext ad;have av:=grown_trans (grown_of_ext (some sb) aP) (grown_trans aH (grown_of_ext (some sb) ad));have HP:=Lib.hid aQ;have HQ:=Lib.hid (And.intro a4 (And.intro a7 (show Q.orders.length<=18 by omega)));clear hQ a4 a7 hs1 hQl aH aY aP aZ a5 ad;go_wp2_with fail
 rw[<-HP.out];generalize w1.alloc (.cells #[.slice a1 n1 c1,.slice a2 n2 c2,.slice a3 n3 c3] 28)=w2 at *;have bI:w0.heap.size<=pb:=by omega
 have bw:=av.size;clear aQ HP a0;obtain⟨q0,q1,q2,q3,q4⟩:=id aI;go_wp2_with fail
 clear q0 q1 q2 q3 q4;refine Calls.mono (l20Some_ok Q w2 _ _ ⟨_,_,_,rfl,HQ.out.1⟩) ?_;rintro eN wN ⟨vN,rfl,ae,sa,sn,sc,rfl,hsn⟩;have ax:=a6.ext ae;have X:=aI.ext ae;have D:=grown_trans av (grown_of_ext (some sb) ae);have bx:=D.size;have a8:=And.intro (HQ.out.1.ext ae) (And.intro (HQ.out.2.1.ext ae) HQ.out.2.2);have HQ:=Lib.hid a8;clear a8 a6 aI av ae;by_cases a9:sn<2
 case neg=>
  have bk:¬((sn:Int)<2):=by omega
  clear a9;obtain⟨q0,q1,q2,q3,q4⟩:=id X;obtain⟨b0,b1,b2,b3,b4⟩:=id ax;have hZ:=ax.all (.slice a1 n1 c1) (.slice a2 n2 c2) (.slice a3 n3 c3);obtain⟨-,z0,z1,z2,-⟩:=id hZ;have HF:=Lib.hid D;clear hZ D ax X;go_wp2_with fail
  refine bodyPost_ret (v := .agg #[.slice a1 n1 c1,.slice a2 n2 c2,.slice a3 n3 c3]) (by simp[results,Tryz.results100,go_sem,z0,z1,z2]) rfl ?_;exact a_ret HF.out (br:=w.heap.size) (Nat.le_refl _) (λk hk _=>⟨by omega,by omega⟩) HQ.out.2.1 aG HQ.out.2.2 HQ.out.1 trivial
 have bk:(sn:Int)<2:=by omega
 clear a9;go_wp2_with fail
 refine Calls.mono (l01Next_ok B0 wN sb 2 HQ.out.2.1) ?_;rintro e_ w4 ⟨v_,rfl,b,x,rfl,_,hx_,r⟩;have az:=ax.moved b (by omega);have Y:=X.moved b (by omega);have E:Pres3 (λk=>w0.heap.size<=k/\k≠pb) w4 (.slice a1 n1 c1) (.slice a2 n2 c2) (.slice a3 n3 c3) Q:=HQ.out.1.mono (λk hk l=>⟨hk,Nat.lt_of_lt_of_le l b.size,b.block k l (λe=>by have:=Option.some.inj e;omega)⟩);have F:=grown_trans D b;have aL:=F.size;have G:=HQ.out.2.2;have af:=Lib.hid (And.intro E (And.intro r G));clear E r G b ax X D;by_cases aS:x=0
 case neg=>
  have bK:(x == 0)=false:=by simp[aS]
  clear aS;obtain⟨q0,q1,q2,q3,q4⟩:=id Y;obtain⟨b0,b1,b2,b3,b4⟩:=id az;have hZ:=az.all (.slice a1 n1 c1) (.slice a2 n2 c2) (.slice a3 n3 c3);obtain⟨-,z0,z1,z2,-⟩:=id hZ;have HF:=Lib.hid F;clear hZ F az Y;go_wp2_with fail
  refine bodyPost_ret (v := .agg #[.slice a1 n1 c1,.slice a2 n2 c2,.slice a3 n3 c3]) (by simp[results,Tryz.results100,go_sem,z0,z1,z2]) rfl ?_;exact a_ret HF.out (br:=w.heap.size) (Nat.le_refl _) (λk hk _=>⟨by omega,by omega⟩) af.out.2.1 aG af.out.2.2 af.out.1 trivial
 subst aS;clear hx_;go_wp2_with fail
 refine Calls.mono (l01Next_ok B0 w4 sb 4 af.out.2.1) ?_;rintro e_ w5 ⟨v_,rfl,b,t,rfl,_,hx_,r⟩;have a':=az.moved b (by omega);have Z:=Y.moved b (by omega);have E:Pres3 (λk=>w0.heap.size<=k/\k≠pb) w5 (.slice a1 n1 c1) (.slice a2 n2 c2) (.slice a3 n3 c3) Q:=af.out.1.mono (λk hk l=>⟨hk,Nat.lt_of_lt_of_le l b.size,b.block k l (λe=>by have:=Option.some.inj e;omega)⟩);have aa:=grown_trans F b;have aL:=aa.size;have G:=af.out.2.2;have bn:=Lib.hid (And.intro E (And.intro r G));clear E r G b az Y F;have ht:=hx_ (by omega);clear hx_;have bA:=Z.1;go_wp2_with fail
 refine Calls.mono (l07Table_ok w5 (3+t) (by omega) (by omega)) ?_;rintro e_ w6 ⟨v_,rfl,b,hP_⟩;obtain⟨bp,vp_,vc_,rfl,hP3_⟩:=hP_;obtain⟨H,I,J,K,L,M,N,O,S,rfl,rfl,rfl⟩:=hP3_.shape;obtain⟨R,T,h3_⟩:=hP3_;have B:=a'.ext b;have A:=Z.ext b;have r:=bn.out.2.1.ext b;have U:=grown_trans aa (grown_of_ext (some sb) b);have ba:=Z.1;have bb:=aa.size;obtain⟨q0,q1,q2,q3,q4⟩:=id A;have u:=grown_set3 w6 pb (.slice H I J) (.slice K L M) (.slice N O S);have aM:=A.all (.slice H I J) (.slice K L M) (.slice N O S);have bc:=B.moved u (by omega);have aN:=grown_own U u (λj hj l=>by have:=Option.some.inj hj;omega);have V:=r.own u (λk hk=>by have:=Option.some.inj hk;omega)
 have W:Pres3 (λk=>w0.heap.size<=k/\k≠pb) (((w6.setCell ⟨pb,0,none⟩ (.slice H I J)).setCell ⟨pb,1,none⟩ (.slice K L M)).setCell ⟨pb,2,none⟩ (.slice N O S)) (.slice H I J) (.slice K L M) (.slice N O S) R:=h3_.mono (λk hk l=>by
  have hk:w5.heap.size<=k:=hk;exact⟨⟨by omega,by omega⟩,Nat.lt_of_lt_of_le l u.size,u.block k l (λe=>by have:=Option.some.inj e;omega)⟩)
 have aT:=Lib.hid (And.intro W (And.intro V (show R.orders.length<=18 from Nat.le_trans T.n (by decide))));clear W V r u U B A b h3_ T a' Z aa;go_wp2_with fail
 clear q0 q1 q2 q3 q4;generalize ((w6.setCell ⟨pb,0,none⟩ (.slice H I J)).setCell ⟨pb,1,none⟩ (.slice K L M)).setCell ⟨pb,2,none⟩ (.slice N O S)=w7 at *;refine Calls.mono (l01Next_ok B0 w7 sb 3 aT.out.2.1) ?_;rintro e_ w8 ⟨v_,rfl,b,z,rfl,_,hx_,r⟩;have aA:=bc.moved b (by omega);have ab:=aM.moved b (by omega);have E:Pres3 (λk=>w0.heap.size<=k/\k≠pb) w8 (.slice H I J) (.slice K L M) (.slice N O S) R:=aT.out.1.mono (λk hk l=>⟨hk,Nat.lt_of_lt_of_le l b.size,b.block k l (λe=>by have:=Option.some.inj e;omega)⟩);have C:=grown_trans aN b;have aL:=C.size;have G:=aT.out.2.2;have aJ:=Lib.hid (And.intro E (And.intro r G));clear E r G b bc aM aN;by_cases aU:z=0
 case neg=>
  have bM:(z == 0)=false:=by simp[aU]
  clear aU;obtain⟨q0,q1,q2,q3,q4⟩:=id ab;obtain⟨b0,b1,b2,b3,b4⟩:=id aA;have hZ:=aA.all (.slice H I J) (.slice K L M) (.slice N O S);obtain⟨-,z0,z1,z2,-⟩:=id hZ;have HF:=Lib.hid C;clear hZ C aA ab;go_wp2_with fail
  refine bodyPost_ret (v := .agg #[.slice H I J,.slice K L M,.slice N O S]) (by simp[results,Tryz.results100,go_sem,z0,z1,z2]) rfl ?_;exact a_ret HF.out (br:=w.heap.size) (Nat.le_refl _) (λk hk _=>⟨by omega,by omega⟩) aJ.out.2.1 aG aJ.out.2.2 aJ.out.1 trivial
 subst aU;clear hx_;go_wp2_with fail
 have aV:Ext w8 (w8.alloc (.cells #[.int .i64 2,.int .i64 4] 2)):=World.grownBy_alloc _ _ _;have hL:Ints (λk=>k=w8.heap.size) (w8.alloc (.cells #[.int .i64 2,.int .i64 4] 2)) (.slice (some ⟨w8.heap.size,0,none⟩) 2 2) [2,4]:=ints_litL w8 [2,4] (by simp);have bC:=C.size;generalize w8.alloc (.cells #[.int .i64 2,.int .i64 4] 2)=wL at *;refine Calls.mono (l01Pick_ok B0 wL sb _ [2,4] _ (aJ.out.2.1.ext aV) hL (λk hk=>by have hk:k=w8.heap.size:=hk;omega) (by simp) (by simp)) ?_;rintro eM wM ⟨vM,rfl,bd,i,hi,rfl,hsM⟩;have hm:∀y∈([2,4]:List Int),2<=y/\y<=4:=by simp
 have bO:=hm _ (gtMem hi);generalize gt ([2,4]:List Int) i=m at *;have ac:w8.grownBy wM (some sb):=grown_trans (grown_of_ext (some sb) aV) bd;have be:=aA.moved ac (by omega);have aB:=ab.moved ac (by omega);have aC:=grown_trans C ac;have bt:=Lib.hid hsM;clear hsM bd aV hL hm hi aA ab C ac;go_wp2_with fail
 refine Calls.mono (l07Meta_ok wM m 15 14 0 (by omega) (by omega) (by omega) (by omega)) ?_;rintro e_ bf ⟨v_,rfl,b,hP_⟩;obtain⟨bp,vp_,vc_,rfl,hP3_⟩:=hP_.q;obtain⟨ag,ah,ai,aj,ak,al,am,an,ao,rfl,rfl,rfl⟩:=hP3_.shape;obtain⟨R2,T,h3_⟩:=hP3_;have B:=be.ext b;have A:=aB.ext b;have r:=bt.out.ext b;have U:=grown_trans aC (grown_of_ext (some sb) b);have ba:=aB.1;have bb:=aC.size;obtain⟨q0,q1,q2,q3,q4⟩:=id A;have u:=grown_set3 bf pb (.slice ag ah ai) (.slice aj ak al) (.slice am an ao);have aW:=A.all (.slice ag ah ai) (.slice aj ak al) (.slice am an ao);have aO:=B.moved u (by omega);have aD:=grown_own U u (λj hj l=>by have:=Option.some.inj hj;omega);have V:=r.own u (λk hk=>by have:=Option.some.inj hk;omega)
 have W:Pres3 (λk=>w0.heap.size<=k/\k≠pb) (((bf.setCell ⟨pb,0,none⟩ (.slice ag ah ai)).setCell ⟨pb,1,none⟩ (.slice aj ak al)).setCell ⟨pb,2,none⟩ (.slice am an ao)) (.slice ag ah ai) (.slice aj ak al) (.slice am an ao) R2:=h3_.mono (λk hk l=>by
  have hk:wM.heap.size<=k:=hk;exact⟨⟨by omega,by omega⟩,Nat.lt_of_lt_of_le l u.size,u.block k l (λe=>by have:=Option.some.inj e;omega)⟩)
 obtain⟨b0,b1,b2,b3,b4⟩:=id B;have hZ:=aO.all (.slice ag ah ai) (.slice aj ak al) (.slice am an ao);obtain⟨-,z0,z1,z2,-⟩:=id hZ;have HF:=Lib.hid (And.intro aD (And.intro W (And.intro V (show R2.orders.length<=18 from Nat.le_trans T.n (by decide)))));clear hZ aD aO aW W V r u U B A b h3_ T be aB aC;go_wp2_with fail
 refine bodyPost_ret (v := .agg #[.slice ag ah ai,.slice aj ak al,.slice am an ao]) (by simp[results,Tryz.results100,go_sem,z0,z1,z2]) rfl ?_;exact a_ret HF.out.1 (br:=w.heap.size) (Nat.le_refl _) (λk hk _=>⟨by omega,by omega⟩) HF.out.2.2.1 aG HF.out.2.2.2 HF.out.2.1 trivial
end Go.Proofs.YtoakmefajbbggaaGreat
namespace Go.Proofs.YtoakmefajbbggaaGreat
open Go.RowKit
theorem own_nil0 {B H:Nat}{w:World}(hB:B<=w.heap.size) (hH:w.heap.size=H):Own B (w.alloc (.cells #[] 2)) (.slice (some ⟨H,0,none⟩) 0 0) []:=by
 subst hH;exact World.ownsRow_lit w #[] 0 hB (by decide) rfl
end Go.Proofs.YtoakmefajbbggaaGreat
namespace Go.Proofs.YtoakmefajbbggaaGreat
open Go.RowKit
attribute [local go_sem ↓] Go.wp_at_zero Go.wp_at_succ
def SetCut (w:World) (sb b n:Nat) (a:World) (v:Value):Prop:=w.grownBy a (some sb)/\Src b a sb/\∃L:List Int,L.length<=n/\Own w.heap.size a v L
theorem SetCut.moved {w:World}{sb a n:Nat}{i w':World}{v:Value}(h:SetCut w sb a n i v) (l:sb<w.heap.size) (j:i.grownBy w' (some sb)) (m:Src a w' sb):SetCut w sb a n w' v:=by
 obtain⟨h1,_,L,h3,k⟩:=h;refine⟨grown_trans h1 j,m,L,h3,k.ext j ?_⟩;cases e:v.ownBlock with
 | none=>exact .inl rfl
 | some b=>exact .inr (λp=>by have q:=(k.lt b e).1;have:=Option.some.inj p;omega)
theorem SetCut.more {w:World}{sb a n:Nat}{b:World}{v:Value}(h:SetCut w sb a n b v):SetCut w sb a (n+1) b v:=by
 obtain⟨h1,h2,L,h3,h4⟩:=h;exact⟨h1,h2,L,by omega,h4⟩
theorem SetCut.add {w:World}{sb k n:Nat}{e l:World}{v q:Value}{L:List Int}{y:Int}(r:w.grownBy e (some sb)) (u:Src k e sb) (z:k<=w.heap.size) (C:L.length<=n) (hO:Own w.heap.size e v L) (m:Own w.heap.size l q (L++[y])) (a:e.grownBy l v.ownBlock):SetCut w sb k (n+1) l q:=by
 have i:∀b,v.ownBlock=some b->w.heap.size<=b:=λb i=>(hO.lt b i).1;exact⟨grown_own r a (λj A B=>by have:=i j A;omega),u.own a (λb p=>by have:=i b p;omega),_,by rw[List.length_append,List.length_singleton];omega,m⟩
theorem l20Set_ok (F:Nat) (w:World) (sb:Nat) (I:F<=w.heap.size) (p:Src F w sb) :
  Calls Tryz.prog 101 #[.pointer (some ⟨sb,0,none⟩)] w (Mut w (some sb) (λw' v=>Src F w' sb/\∃L:List Int,L.length<=4/\Own w.heap.size w' v L)):=by
 have q:=p.lt.2;have J:Ext w (w.alloc (.cells #[] 2)):=World.grownBy_alloc _ _ _;have Z:SetCut w sb F 0 (w.alloc (.cells #[] 2)) (.slice (some ⟨w.heap.size,0,none⟩) 0 0):=⟨grown_of_ext (some sb) J,p.ext J,[],Nat.le_refl _,own_nil0 (Nat.le_refl _) rfl⟩;have b:=Lib.hid Z;clear Z J p;go_enter Tryz.func101,Tryz.ntmps101;go_wp2_with fail
 generalize w.alloc (.cells #[] 2)=w1 at *;refine Calls.mono (l01Next_ok F w1 sb 2 b.out.2.1) ?_;rintro Q R ⟨S,rfl,hg_,x0,rfl,-,-,hs_⟩;have j:=b.out.moved q hg_ hs_;clear b hg_ hs_;have b:=Lib.hid j;clear j;go_upto_if 7 with fail
 go_cut [3] (λv K=>SetCut w sb F 1 K v)
 case' rest=>
  clear b;have b:=Lib.hid hcut;clear hcut;go_wp2_with fail
  refine Calls.mono (l01Next_ok F wc sb 2 b.out.2.1) ?_;rintro Q T ⟨S,rfl,hg_,x1,rfl,-,-,hs_⟩;have j:=b.out.moved q hg_ hs_;clear b hg_ hs_;have b:=Lib.hid j;clear j;go_upto_if 13 with fail
  go_cut [3] (λv K=>SetCut w sb F 2 K v)
  case' rest=>
   clear b;have b:=Lib.hid hcut;clear hcut;go_wp2_with fail
   refine Calls.mono (l01Next_ok F wc sb 4 b.out.2.1) ?_;rintro Q r ⟨S,rfl,hg_,x2,rfl,-,-,hs_⟩;have j:=b.out.moved q hg_ hs_;clear b hg_ hs_;have b:=Lib.hid j;clear j;go_upto_if 19 with fail
   go_cut [3] (λv K=>SetCut w sb F 3 K v)
   case' rest=>
    clear b;have b:=Lib.hid hcut;clear hcut;go_wp2_with fail
    refine Calls.mono (l01Next_ok F wc sb 30 b.out.2.1) ?_;rintro Q u ⟨S,rfl,hg_,x3,rfl,-,-,hs_⟩;have j:=b.out.moved q hg_ hs_;clear b hg_ hs_;have b:=Lib.hid j;clear j;go_upto_if 28 with fail
    go_cut [3] (λv K=>SetCut w sb F 4 K v)
    case' rest=>
     clear b;have b:=Lib.hid hcut;clear hcut;go_wp2_with fail
     obtain⟨y,p,L,G,hO⟩:=b.out;obtain⟨a,n,c,hv⟩:∃a n c,u3=Value.slice a n c:=by obtain⟨a,c,e,_⟩:=(hO.ints (by omega)).shape;exact⟨_,_,_,e⟩
     go_ret;exact⟨_,rfl,y,p,L,G,hO⟩
    by_cases hx:x3=0
    ·subst hx
     have z:Ext u (u.alloc (.cells #[.int .i64 4,.int .i64 2,.int .i64 7,.int .i64 11,.int .i64 0] 2)):=World.grownBy_alloc _ _ _;have O:Ints (λk=>k=u.heap.size) (u.alloc (.cells #[.int .i64 4,.int .i64 2,.int .i64 7,.int .i64 11,.int .i64 0] 2)) (.slice (some ⟨u.heap.size,0,none⟩) 5 5) [4,2,7,11,0]:=ints_litL u [4,2,7,11,0] (by simp);have U:=b.out.1.size;have H:=b.out.moved q (grown_of_ext (some sb) z) (b.out.2.1.ext z);have A:=Lib.hid H;clear H z;go_wp2_with fail
     generalize u.alloc (.cells #[.int .i64 4,.int .i64 2,.int .i64 7,.int .i64 11,.int .i64 0] 2)=V at *;refine Calls.mono (l01Pick_ok F V sb _ [4,2,7,11,0] _ A.out.2.1 O (λk hk=>by have hk:k=u.heap.size:=hk;omega) (by simp) (by simp)) ?_;rintro eM W ⟨vM,rfl,hgM,i,hi,rfl,hsM⟩;generalize gt ([4,2,7,11,0]:List Int) i=m at *;have M:=A.out.moved q hgM hsM;clear hi O A hgM hsM;obtain⟨y,p,L,G,hO⟩:=M;have B:=y.size;have l:=Lib.hid (And.intro y (And.intro p (And.intro G hO)));clear y p hO;have C:L.length<=1000000:=by omega
     clear G;go_wp2_with (first|(at_builtin;refine wp_app_int rfl _ _ rfl w.heap.size _ L m rfl W l.out.2.2.2 rfl rfl C B ?_;intro X Y D E)|fail)
     go_meet;exact SetCut.add l.out.1 l.out.2.1 I l.out.2.2.1 l.out.2.2.2 D E
    ·have N:(x3 == 0)=false:=by simp[hx]
     clear hx;go_wp2_with fail
     go_meet;exact b.out.more
   by_cases hx:x2=0
   ·subst hx
    have z:Ext r (r.alloc (.cells #[.int .i64 5,.int .i64 7] 2)):=World.grownBy_alloc _ _ _;have O:Ints (λk=>k=r.heap.size) (r.alloc (.cells #[.int .i64 5,.int .i64 7] 2)) (.slice (some ⟨r.heap.size,0,none⟩) 2 2) [5,7]:=ints_litL r [5,7] (by simp);have U:=b.out.1.size;have H:=b.out.moved q (grown_of_ext (some sb) z) (b.out.2.1.ext z);have A:=Lib.hid H;clear H z;go_wp2_with fail
    generalize r.alloc (.cells #[.int .i64 5,.int .i64 7] 2)=V at *;refine Calls.mono (l01Pick_ok F V sb _ [5,7] _ A.out.2.1 O (λk hk=>by have hk:k=r.heap.size:=hk;omega) (by simp) (by simp)) ?_;rintro eM W ⟨vM,rfl,hgM,i,hi,rfl,hsM⟩;generalize gt ([5,7]:List Int) i=m at *;have M:=A.out.moved q hgM hsM;clear hi O A hgM hsM;obtain⟨y,p,L,G,hO⟩:=M;have B:=y.size;have l:=Lib.hid (And.intro y (And.intro p (And.intro G hO)));clear y p hO;have C:L.length<=1000000:=by omega
    clear G;go_wp2_with (first|(at_builtin;refine wp_app_int rfl _ _ rfl w.heap.size _ L m rfl W l.out.2.2.2 rfl rfl C B ?_;intro X Y D E)|fail)
    go_meet;exact SetCut.add l.out.1 l.out.2.1 I l.out.2.2.1 l.out.2.2.2 D E
   ·have N:(x2 == 0)=false:=by simp[hx]
    clear hx;go_wp2_with fail
    go_meet;exact b.out.more
  by_cases hx:x1=0
  ·subst hx
   obtain⟨y,p,L,G,hO⟩:=b.out;have B:=y.size;have l:=Lib.hid (And.intro y (And.intro p (And.intro G hO)));clear y p hO;have C:L.length<=1000000:=by omega
   clear G;go_wp2_with (first|(at_builtin;refine wp_app_int rfl _ _ rfl w.heap.size _ L 3 rfl T l.out.2.2.2 rfl rfl C B ?_;intro X Y D E)|fail)
   go_meet;exact SetCut.add l.out.1 l.out.2.1 I l.out.2.2.1 l.out.2.2.2 D E
  ·have N:(x1 == 0)=false:=by simp[hx]
   clear hx;go_wp2_with fail
   go_meet;exact b.out.more
 by_cases hx:x0=0
 ·subst hx
  obtain⟨y,p,L,G,hO⟩:=b.out;have B:=y.size;have l:=Lib.hid (And.intro y (And.intro p (And.intro G hO)));clear y p hO;have C:L.length<=1000000:=by omega
  clear G;go_wp2_with (first|(at_builtin;refine wp_app_int rfl _ _ rfl w.heap.size _ L 2 rfl R l.out.2.2.2 rfl rfl C B ?_;intro X Y D E)|fail)
  go_meet;exact SetCut.add l.out.1 l.out.2.1 I l.out.2.2.1 l.out.2.2.2 D E
 ·have N:(x0 == 0)=false:=by simp[hx]
  clear hx;go_wp2_with fail
  go_meet;exact b.out.more
def PairL (M n B:Nat) (w':World) (v:Value):Prop:=∃(vo vp vc a:Value) (Q:Pr),v=.tuple #[.agg #[vo,vp,vc],a]/\Q.orders.length<=M/\Pres3 (From B) w' vo vp vc Q/\∃L:List Int,L.length<=n/\Ints (From B) w' a L
theorem DrawHallSubgroups_ok (w:World) (cv:Value) (bs:List Int) (S:Nat->Prop) (hb:Bytes S w cv bs) :
  Calls Tryz.prog 38 #[cv] w (Ret w (PairL 18 4 w.heap.size)):=by
 obtain⟨a,cap,rfl,_,_⟩:=Sl.shape hb;have K:=Box3.made w 28 (.slice none 0 0) (.slice none 0 0) (.slice none 0 0);have E:Ext w (w.alloc (.cells #[.slice none 0 0,.slice none 0 0,.slice none 0 0] 28)):=World.grownBy_alloc _ _ _;have aj:(w.alloc (.cells #[.slice none 0 0,.slice none 0 0,.slice none 0 0] 28)).heap.size=w.heap.size+1:=by simp
 have L:=Bytes.ext hb E;go_enter Tryz.func38,Tryz.ntmps38;go_wp2_with fail
 generalize w.alloc (.cells #[.slice none 0 0,.slice none 0 0,.slice none 0 0] 28)=w0 at *;have M:w.heap.size+1<=w0.heap.size:=by omega
 clear aj;refine Calls.mono (l01From_ok w0 _ bs S L) ?_;rintro e0 wS ⟨v0,rfl,hgS,rfl,u⟩;have ak:w0.heap.size+1<=wS.heap.size:=by have:=u.lt;omega
 have N:=K.ext hgS;obtain⟨sb,F⟩:∃sb,sb=w0.heap.size:=⟨_,rfl⟩;rw[<-F] at u;have ap:w.heap.size+1<=sb/\sb+1<=wS.heap.size:=by omega
 have O:=grown_trans E hgS;have G:=Lib.hid F;clear K L E hgS ak M;go_wp2_with fail
 rw[<-G.out];refine Calls.mono (l20Draw_ok (sb+1) wS sb (by omega) (by rw[G.out];rw[G.out] at u;exact u)) ?_;rintro e1 z ⟨v1,rfl,y,⟨vo,vp,vc,Q,rfl,R,hQ,-⟩,hs1⟩;clear F;obtain⟨a1,i,c1,hy1⟩:∃a n c,vo=.slice a n c:=by obtain⟨a,c,e,_⟩:=hQ.o.shape;exact⟨_,_,_,e⟩
 obtain⟨a2,l,c2,hy2⟩:∃a n c,vp=.slice a n c:=by obtain⟨a,c,e,_⟩:=Sl.shape hQ.p;exact⟨_,_,_,e⟩
 obtain⟨m,q,c3,hy3⟩:∃a n c,vc=.slice a n c:=by obtain⟨a,c,e,_⟩:=Sl.shape hQ.c;exact⟨_,_,_,e⟩
 subst hy1 hy2 hy3;have b:Ext z (z.alloc (.cells #[.slice a1 i c1,.slice a2 l c2,.slice m q c3] 28)):=World.grownBy_alloc _ _ _;have H:=Box3.made z 28 (.slice a1 i c1) (.slice a2 l c2) (.slice m q c3);obtain⟨pb,I⟩:∃pb,pb=z.heap.size:=⟨_,rfl⟩;rw[<-I] at H;have ar:=y.size;have T:=hQ.ext b;have U:=N.moved y (by omega);have V:=U.ext b;have W:=hs1.ext b;have A:Ext w (z.alloc (.cells #[.slice a1 i c1,.slice a2 l c2,.slice m q c3] 28)):=grown_trans (grown_own O y (λj Y Z=>by have:=Option.some.inj Y;omega)) b;have aw:z.heap.size<=(z.alloc (.cells #[.slice a1 i c1,.slice a2 l c2,.slice m q c3] 28)).heap.size:=b.size;have HP:=Lib.hid I;have HQ:=Lib.hid (And.intro T (And.intro W (And.intro A R)));clear hQ T W hs1 y N U b A R;go_wp2_with fail
 rw[<-HP.out];generalize z.alloc (.cells #[.slice a1 i c1,.slice a2 l c2,.slice m q c3] 28)=B at *;have ax:wS.heap.size<=pb:=by omega
 clear I HP;obtain⟨q0,q1,q2,q3,q4⟩:=id H;have e0:∀w',NearS B sb w.heap.size w'->w'.cell? ⟨pb,0,none⟩=some (.slice a1 i c1):=λw' h=>h.cell q1 (by simp;omega) (by simp;omega);have e1:∀w',NearS B sb w.heap.size w'->w'.cell? ⟨pb,1,none⟩=some (.slice a2 l c2):=λw' h=>h.cell q2 (by simp;omega) (by simp;omega);have e2:∀w',NearS B sb w.heap.size w'->w'.cell? ⟨pb,2,none⟩=some (.slice m q c3):=λw' h=>h.cell q3 (by simp;omega) (by simp;omega);clear q0 q1 q2 q3 q4 H
 go_region_held3 (λw'=>NearS B sb w.heap.size w') (first|exact NearS.ext (grown_drew _ _)|exact NearS.of (by assumption)|exact NearS.two r (grown_set3 _ _ _ _ _)|assumption)
  (first
   | (go_at_call 101;refine Calls.mono (l20Set_ok (sb+1) B.drew sb (by have:=(grown_drew B none).size;omega) (HQ.out.2.1.ext (grown_drew _ _))) ?_;rintro e3 w3 ⟨sv,rfl,C,hs3,X,hXl,hX⟩;obtain⟨xa,xc,hsv,_,_⟩:=(hX.ints (by omega)).shape;subst hsv;have r:B.grownBy w3 (some sb):=grown_trans (grown_of_ext (some sb) (grown_drew _ _)) C;have J:=V.moved r (by omega);obtain⟨b0,b1,b2,b3,b4⟩:=id J))
 have aA:=(grown_drew B none).size;have hZ:=J.all (.slice a1 i c1) (.slice a2 l c2) (.slice m q c3);obtain⟨-,z0,z1,z2,-⟩:=id hZ;have ac:=HQ.out.1.keptB r (λk hk=>by have:=Option.some.inj hk;omega);have hT:=grown_set3 w3 w.heap.size (.slice a1 i c1) (.slice a2 l c2) (.slice m q c3);have al:∀k,some w.heap.size=some k->k<wS.heap.size:=λk hk=>by have:=Option.some.inj hk;omega
 have ad:Ints (From (w.heap.size+1)) w3 (.slice xa X.length xc) X:=ints_of_own hX (by omega) (λk hk=>by have:=(hX.lt k hk).1;show w.heap.size+1<=k;omega);have ae:Ints (From w.heap.size) (((w3.setCell ⟨w.heap.size,0,none⟩ (.slice a1 i c1)).setCell ⟨w.heap.size,1,none⟩ (.slice a2 l c2)).setCell ⟨w.heap.size,2,none⟩ (.slice m q c3)) (.slice xa X.length xc) X:=Ints.mono ad (frame_of hT (λk hk _=>⟨by have hk:w.heap.size+1<=k:=hk;show w.heap.size<=k;omega,λe=>by have:=Option.some.inj e;have hk:w.heap.size+1<=k:=hk;omega⟩))
 have D:Ret w (PairL 18 4 w.heap.size) (.returned (.tuple #[.agg #[.slice a1 i c1,.slice a2 l c2,.slice m q c3],.slice xa X.length xc])) (((w3.setCell ⟨w.heap.size,0,none⟩ (.slice a1 i c1)).setCell ⟨w.heap.size,1,none⟩ (.slice a2 l c2)).setCell ⟨w.heap.size,2,none⟩ (.slice m q c3)):=
  ⟨_,rfl,grown_own (grown_own HQ.out.2.2.1 r (λj Y Z=>by have:=Option.some.inj Y;omega)) hT (λj Y Z=>by have:=Option.some.inj Y;omega),_,_,_,_,Q,rfl,HQ.out.2.2.2,(ac.keptB hT al).low (by omega),X,hXl,ae⟩
 have HE:=Lib.hid D;clear D hT hZ ac ad ae HQ r C V J hX hs3 e0 e1 e2;go_wp2_with fail
 refine bodyPost_ret (v := .tuple #[.agg #[.slice a1 i c1,.slice a2 l c2,.slice m q c3],.slice xa X.length xc]) (by simp[results,Tryz.results38,go_sem,z0,z1,z2]) rfl ?_;exact HE.out
end Go.Proofs.YtoakmefajbbggaaGreat
namespace Go.Proofs.YtoakmefajbbggaaGreat
open Go.RowKit
section
variable {P:Pr}(G:Grp P)
include G
theorem Grp.subB_nil:SubB P []:=by
 have h:=G.subB_cseq G.sub_one;have k:=G.order_elems G.sub_one
 have e:cseq P (λx=>x=zeros P.orders.length)=[]:=by
  have a:=G.seq_facts G.sub_one;cases b:cseq P (λx=>x=zeros P.orders.length) with
  | nil=>rfl
  | cons z l=>
   exfalso
   have i:=a.2.1 z (by rw[b];exact List.mem_cons_self ..);have j:=(a.1.1 z (by rw[b];exact List.mem_cons_self ..)).2.2;rw[i] at j;have:gt (zeros P.orders.length) (dep (zeros P.orders.length))=0:=gt_replicate _ _;omega
 rw[e] at h;exact h
theorem Grp.ord_pos {u:List (List Int)}(a:SubB P u):1<=prodU P u u.length:=by
 have h:=(G.seq_facts (G.subB a)).1;rw[<-a.2] at h;exact(prodU_729 G.v h _ (Nat.le_refl _)).1
end
theorem step_shq_app2 {C:Array Oper}{o:Oper}{a:Act}{K:Act->World->Prop}{Q:Exit->Act->World->Prop}{M:Prop}{w:World}(D:o.guard=none) (s x:Operand)
  (N:o.op=Op.call { callee:=Callee.builtin Builtin.append,args := #[s,x],argTypes := #[25,25] }) (bad:Nat->Prop) (B H:Nat) (v u:Value) (xs:List (List Int)) (y:List Int) (O:a.eval s=v) (q:ShQ bad B w v xs)
  (F:Ints (λk=>¬bad k/\v.ownBlock≠some k) w u y) (hx:a.eval x=.slice (some ⟨H,0,none⟩) 1 1) (j:w.cell? ⟨H,0,none⟩=some u) (G:xs.length<=1000000) (l:B<=w.heap.size)
  (h:∀p w',ShQ bad B w' p (xs++[y])->w.grownBy w' v.ownBlock->K (a.put o.dst p) w') :
  if Region.wanted o (yielded C a.tmps)=true then Oper.wp Tryz.prog o a w K Q else M:=by
 obtain⟨I,J,L,R⟩:=q;have b:=L.lt;have r:u.oneCell'=true:=rdInts.one F;refine step_q_app 25 24 (.slice none 0 0) 24 und_rows Tryz.infoRow rfl (by decide) D s x N B v I O L H u hx j r (by omega) l ?_;intro p w' h1 m S
 have z:∀k,k<w.heap.size->p.ownBlock=some k->v.ownBlock=some k:=λk hk e=>by
  rcases S with h|h
  ·rw[<-h];exact e
  ·have:=h k e;omega
 refine h p w' ⟨I++[u],by simp[J],h1,λi T => ?_⟩ m;simp only[List.length_append,List.length_singleton] at T
 have A:∀k,(¬bad k/\v.ownBlock≠some k)->k<w.heap.size->(¬bad k/\p.ownBlock≠some k)/\k<w'.heap.size/\w'.heap[k]? = w.heap[k]? :=λk hk b=>
  ⟨⟨hk.1,λe=>hk.2 (z k b e)⟩,Nat.lt_of_lt_of_le b m.size,m.block k b (λe=>hk.2 e.symm)⟩
 by_cases b:i<xs.length
 ·rw [gt_append_left _ _ _ (by omega),gt_append_left _ _ _ b]
  exact Ints.mono (R i b) A
 ·have E:i=xs.length:=by omega
  subst E;rw[gt_concat,<-J,gt_concat];exact Ints.mono F A
end Go.Proofs.YtoakmefajbbggaaGreat
namespace Go.Proofs.YtoakmefajbbggaaGreat
open Go.Proofs Go.Shelf Go.RowKit Go.Lib Go.Sort
theorem hallCmp_ok (P:Pr) (hP:Valid P) (w:World) (bx pb l:Nat) (e i:Value) (U V:List (List Int)) (m p q:Nat->Prop) (b:w.cell? ⟨bx,0,none⟩=some (.pointer (some ⟨pb,l,none⟩))) (u:PresP m w (.pointer (some ⟨pb,l,none⟩)) P)
  (y:Rows2 p w e U) (z:Rows2 q w i V) (A:SeqOk P U) (B:SeqOk P V) (j:U.length<=100) (k:V.length<=100) :
  Calls Tryz.prog 181 #[e,i,.pointer (some ⟨bx,0,none⟩)] w (Ret w λw' v=>v=.int .i64 (cmpS P U V)/\w.drawn<=w'.drawn):=by
 go_enter Tryz.func181,Tryz.ntmps181;go_wp2_with fail
 refine Calls.mono (compareSubgroups_ok P hP w _ e i U V m p q u y z A B j k) ?_;rintro C D ⟨v1,rfl,hg1,rfl,a⟩;obtain⟨c,b⟩:∃c,c=cmpS P U V:=⟨_,rfl⟩;rw[<-b];have r:=Lib.hid (And.intro b a);clear b a;go_wp2;go_ret;exact⟨_,rfl,hg1,congrArg (Value.int .i64) r.out.1,r.out.2⟩
theorem sortHall_ok (P:Pr) (hP:Valid P) (w:World) (v:Value) (L:List (List (List Int))) (A:Nat->Prop) (B bx pb a:Nat) (E:SlOA (λF w u (x:List (List Int))=>RowsD F w u x) 25 B A w v L) (l:0<L.length) (b:L.length<=1000000)
  (G:∀u∈L,SeqOk P u/\u.length<=100) (H:w.cell? ⟨bx,0,none⟩=some (.pointer (some ⟨pb,a,none⟩))) (m:v.ownBlock≠some bx) (I:PresP (λk=>v.ownBlock≠some k) w (.pointer (some ⟨pb,a,none⟩)) P) :
  Calls Tryz.prog 139 #[v,.func (.func 181) #[] #[.pointer (some ⟨bx,0,none⟩)]] w λe w'=>e=.returned (.tuple #[]) /\
   ∃p,SlOA (λF w u (x:List (List Int))=>RowsD F w u x) 25 B A w' v p/\p.Perm L/\p.Pairwise (λx y=>0<=cmpS P y x)/\w.grownBy w' v.ownBlock:=by
 have J:∀args w,(callFunc 181 args).run Tryz.prog w=.ok (.enter 181 args) w:=enters_of Tryz.func181 (by kernel_rfl) rfl
 have h:=sortG Tryz.sortRows3 rdRows 25 B (cmpS P) (swo_cmpS P) 181 #[.pointer (some ⟨bx,0,none⟩)] J w v L A E l b (λW=>(SlO.nil OwnIn 24 0 W).toD (by simp) |> λh=>rdRows.mono h (λk hk q=>⟨trivial,q,rfl⟩)) (by
  intro W u1 u2 x y D hx hy h1 K;have r:PresP Any W (.pointer (some ⟨pb,a,none⟩)) P:=PresP.mono I (frame_of D (λk hk _=>⟨trivial,hk⟩));have C:W.cell? ⟨bx,0,none⟩=some (.pointer (some ⟨pb,a,none⟩)):=D.cell H (λe=>m e.symm)
  have j:∀z,(z∈L\/z=default)->SeqOk P z/\z.length<=100:=λz i=>by
   rcases i with i|i
   ·exact G z i
   ·rw[i];exact⟨seqOk_nil P,by decide⟩
  refine(hallCmp_ok P hP W bx pb a u1 u2 x y Any _ _ C r (RowsD.rows h1) (RowsD.rows K) (j x hx).1 (j y hy).1 (j x hx).2 (j y hy).2).mono ?_;rintro e w' ⟨v1,rfl,hg1,rfl,hd⟩;exact⟨rfl,hg1,hd⟩)
 exact h
end Go.Proofs.YtoakmefajbbggaaGreat
namespace Go.Proofs.YtoakmefajbbggaaGreat
open Go.RowKit
theorem seqOk_subB {P:Pr}(G:Grp P) {u:List (List Int)}(a:SubB P u):SeqOk P u:=by
 have h:=(G.seq_facts (G.subB a)).1;have e:cseq P (genP P λx=>x∈u)=u:=a.2.symm;rw[e] at h;exact h
set_option maxHeartbeats 16000000 in
set_option linter.unusedSimpArgs false in
theorem hallSubgroups_ok (P:Pr) (G:Grp P) (pr:List Int) (w:World) (p v:Value) (Sp S:Nat->Prop) (hp:PresP Sp w p P) (hv:Ints S w v pr) :
  Calls Tryz.prog 103 #[p,v] w (Ret w λw' r=>∃L,HallL P pr L/\SlO (λF w u (x:List (List Int))=>RowsD F w u x) 25 w.heap.size w' r L):=by
 have hP:=G.v;have c4:=hP.n6;have b4:ordP P<=729:=hP.le729;have b5:=hP.ordP_pos;obtain⟨pb,po,rfl⟩:=hp.shape;obtain⟨av,cv,rfl,_,_⟩:=hv.shape;have aD:Ext w (w.alloc (.cells #[.pointer (some ⟨pb,po,none⟩)] 78)):=World.grownBy_alloc _ _ _;have b6:∀w',Ext (w.alloc (.cells #[.pointer (some ⟨pb,po,none⟩)] 78)) w'->w'.cell? ⟨w.heap.size,0,none⟩=some (.pointer (some ⟨pb,po,none⟩)):=λw' h=>h.cell (by rw[World.cell?_alloc_at _ _ _ _ rfl];rfl) (by simp);have b7:w.heap.size<(w.alloc (.cells #[.pointer (some ⟨pb,po,none⟩)] 78)).heap.size:=by simp
 have W:=hp.ext aD;have bG:=hallOrder_ok P hP pr _ _ _ Sp S W (Ints.ext hv aD);have HB:=Lib.hid b6;clear b6 hv;have c5:=Lib.hid b7;clear b7;obtain⟨N,hN⟩:∃N,N=(ordP P).toNat:=⟨_,rfl⟩;have c6:N<=729:=by omega
 have HN:=Lib.hid hN;clear hN b5 b4;have bh:=hall_pos G pr;obtain⟨l,ak⟩:∃l,l=hallO P pr:=⟨_,rfl⟩;rw[<-ak] at bG bh;have HW:=Lib.hid ak;clear ak;go_enter Tryz.func103,Tryz.ntmps103;go_wp2_with fail
 generalize c7:w.alloc (.cells #[.pointer (some ⟨pb,po,none⟩)] 78)=w0 at *;clear c7;refine Calls.mono bG ?_;rintro e1 w1 ⟨v1,rfl,bI,rfl⟩;clear bG;have K:=HB.out w1 bI;go_wp2_with fail
 clear K;refine Calls.mono (allElements_ok P hP w1 _ Sp (W.ext bI)) ?_;rintro e2 w2 ⟨v2,rfl,aa,hA⟩;have aa:=grown_trans bI aa;have dw:=grown_trans aD aa;have bj:(allEl P).length=N:=by rw[allEl_len,HN.out]
 have bJ:=RowsD.rows (hA.toD (by omega));obtain⟨ea,ec,hev,_,_⟩:=Sl.shape bJ;subst hev;rw[bj];have bq:Rows2 Any w2 (.slice ea N ec) (allEl P):=by rw[<-bj];exact Rows2.sub bJ (λ_ _ _=>trivial)
 have HA:=Lib.hid (And.intro bj bq);clear bj bJ bq hA;have br:=G.subB_nil;have b8:=Lib.hid br;clear br;go_wp2;go_loopg [6] ((l-1).toNat) (λgk hv wr=>∃U:List (List Int),gk=(l-prodU P U U.length).toNat/\Ext w2 wr/\Rows2 Any wr hv U/\Hid (SubB P U/\prodU P U U.length∣hallO P pr))
 case atStart=>exact⟨[],rfl,Ext.refl _,⟨none,0,rfl,⟨by simp,by simp,λ_=>rfl⟩,λi hi=>by simp at hi⟩,Lib.hid ⟨b8.out,Int.one_dvd _⟩⟩
 case round=>
  obtain⟨U,bK,hg,hU,hS⟩:=hrel;have b9:=grown_trans aa hg;have dH:=G.sub_len hS.out.1;have aQ:=seqOk_subB G hS.out.1;have b':=G.ord_pos hS.out.1;have bu:prodU P U U.length<=l:=by rw[HW.out];exact dvd_le hS.out.2 (by rw[<-HW.out];exact bh.1)
  obtain⟨ua,uc,huv,_,_⟩:=Sl.shape hU;subst huv;have bL:=sizeOf_ok P hP wr _ _ U Sp Any (W.ext b9) hU aQ (by omega);obtain⟨s,hs⟩:∃s,s=prodU P U U.length:=⟨_,rfl⟩;rw[<-hs] at b' bu bL bK;have bM:=Lib.hid (And.intro hs aQ);clear hs aQ;have c':=Lib.hid bK;clear bK;have K:=HB.out wr b9;go_wp2_with fail
  clear K;refine Calls.mono bL ?_;rintro e3 V ⟨v3,rfl,hg3,rfl⟩;clear bL;have aR:=grown_trans hg hg3;have cb:=Rows2.ext hU hg3;clear hU;by_cases B:s<l
  ·have cd:=GrI.start (G:=G) hS.out.1 hS.out.2
   have db:=Lib.hid cd;clear cd;go_wp2;go_loopw [6,29] (λhv tv wr=>∃(t:Nat) (U':List (List Int)),tv=.int .i64 t/\t<=N/\Ext V wr/\Rows2 Any wr hv U'/\Hid (GrI G pr U U' t)) (λ_ tv _=>N-(intOf tv).toNat)
   case atStart=>exact⟨0,U,by go_num,by omega,Ext.refl _,cb,db⟩
   case round=>
    obtain⟨t,U',rfl,ht,O,hU,hI⟩:=hrel;have hg:=aR;have j:=grown_trans aa (grown_trans hg O);have dx:=G.sub_len hI.out.sub;obtain⟨xa,xc,hxv,_,_⟩:=Sl.shape hU;subst hxv;by_cases aS:t<N
    ·have ce:(t:Int)<N:=by omega
     have aF:t<(ordP P).toNat:=by rw[<-HN.out];exact aS
     have Q:Vec P.orders (elAt P (t:Int)):=G.elAtV aF;obtain⟨bt,ot,ax,cx,hbt,_,_,al,Y⟩:=Rows2.at (Rows2.ext HA.out.2 (grown_trans hg O)) t (by rw[HA.out.1];exact aS);cases hbt
     rw[gt_allEl aF] at al Y;have aT:=λ(h:¬Usable G pr U' t)=>hI.out.skip h;have ab:=λ(h1:¬gP P U' (elAt P (t:Int))) h2=>hI.out.take aF h1 h2;have cf:∀q:Prop,(Usable G pr U' t->q)->¬q->¬Usable G pr U' t:=λq h1 h2 h3=>h2 (h1 h3)
     have bk:Usable G pr U' t=(¬gP P U' (elAt P (t:Int))/\prodU P (cseq P (extP P (gP P U') (elAt P (t:Int)))) (cseq P (extP P (gP P U') (elAt P (t:Int)))).length∣hallO P pr /\
      ∀d,pv (toE G (cycP P (elAt P (t:Int)))) d->gt P.orders d∈pr):=rfl
     have hE:=ext_sub G hI.out.sub Q;have bO:=orderOfElement2_ok P G wr _ _ (elAt P (t:Int)) Sp Any (W.ext j) Y Q
     have am:=λ(w':World) (h:Ext wr w')=>isMember_ok P G w' (.pointer (some ⟨pb,po,none⟩)) _ _ (gP P U') (elAt P (t:Int)) Sp Any Any (G.subB hI.out.sub) (W.ext (grown_trans j h)) (by
      have e:cseq P (gP P U')=U':=hI.out.sub.2.symm;rw[e];exact Rows2.ext hU h) (Ints.ext Y h) Q
     obtain⟨X,aG⟩:∃X,X=elAt P (t:Int):=⟨_,rfl⟩;obtain⟨Z,aA⟩:∃Z,Z=cseq P (extP P (gP P U') X):=⟨_,rfl⟩;rw[<-aG] at al Y Q hE bO am ab bk;rw[<-aA] at ab bk;have cg:SubB P Z:=by rw[aA];exact G.subB_cseq hE
     have ch:cseq P (genP P (λz=>z∈U'++[X]))=Z:=by rw[genP_snoc,aA]
     have dJ:X.length<=6:=by rw[Q.1];exact c4
     have I:=Lib.hid (And.intro aT (And.intro ab (And.intro bk (And.intro cg (And.intro ch (And.intro am Q))))));clear aT ab bk cg ch am Q hE cf aG aA;have hX:=Y;clear Y;have K:=HB.out wr j;go_wp2_with fail
     clear al K;refine Calls.mono bO ?_;rintro e4 w4 ⟨v4,rfl,aH,m,rfl,hm1,hm2,bl⟩;clear bO;by_cases bm:l%m=0
     ·have K:=HB.out w4 (grown_trans j aH)
      have ck:=I.out.2.2.2.2.2.1 w4 aH;have HM:=Lib.hid bl;clear bl;go_wp2_with fail
      clear K;refine Calls.mono ck ?_;rintro e5 w5 ⟨v5,rfl,aI,r,rfl,hr⟩;clear ck bm;have af:=grown_trans aH aI;have aU:=grown_trans O af;have bQ:=Rows2.ext hU af;have cm:=Ints.ext hX af;have an:=grown_trans j af;clear hU hX;cases r with
      | true=>
       have y:=I.out.1 (by rw[I.out.2.2.1];intro h;exact h.1 (hr.1 rfl));have R:=Lib.hid y;clear y hr;go_wp2;go_roundw
       case rel=>exact⟨t+1,U',by go_num,by omega,aU,bQ,R⟩
       case measure=>simp[intOf];omega
      | false=>
       have cp:¬gP P U' X:=λh=>by have:=hr.2 h;cases this
       have df:=G.sub_len I.out.2.2.2.1;have cq:=seqOk_subB G I.out.2.2.2.1;have cr:=G.ord_pos I.out.2.2.2.1
       have aV:∀z∈U'++[X],Vec P.orders z:=λz hz=>by
        rcases List.mem_append.1 hz with h|h
        ·exact hI.out.sub.1 z h
        ·rw[List.mem_singleton.1 h];exact I.out.2.2.2.2.2.2
       have aW:(U'++[X]).length<=10000:=by rw[List.length_append,List.length_singleton];omega
       have cs:l%(prodU P Z Z.length)=0->GrI G pr U Z (t+1):=λh=>I.out.2.1 cp (by rw[<-HW.out];exact emod_dvd.1 h);have ct:¬l%(prodU P Z Z.length)=0->GrI G pr U U' (t+1):=λh=>I.out.1 (by rw[I.out.2.2.1];intro hh;exact h (emod_dvd.2 (by rw[HW.out];exact hh.2.1)));have HX:=Lib.hid (And.intro aV (And.intro aW (And.intro I.out.2.2.2.2.1 (And.intro (show Z.length<=100 by omega) (And.intro cq (And.intro cr (And.intro cs ct)))))));clear aV aW df cq cr cs ct hr cp;obtain⟨wo,hwo⟩:∃wo:World,wo=wr:=⟨_,rfl⟩;have e1:∀w',Ext w5 w'->w'.cell? ⟨w.heap.size,0,none⟩=some (.pointer (some ⟨pb,po,none⟩)):=λw' h=>HB.out w' (grown_trans an h);clear O j aH aI af hwo;clear I;go_wp2;generalize w5=wr at *;have O:=aU;have j:=an;have hU:=bQ;have hX:=cm;clear aU an bQ cm;refine wp_region_held_drew (S:=λw'=>Ext wr w') (by kernel_rfl) (grown_drew _ _) (λC => ?_);refine tk 0 ?_;refine tk 1 ?_;refine tk 3 ?_;refine rd2 2 4 (λKc A => ?_) (λKc A => ?_)
       ·go_simp
        go_at_call 180;refine Calls.mono (cloneRows_ok wr.drew _ U' Any (λ_=>False) (Rows2.ext hU (grown_drew wr none)) (λ_ _ _ h=>h) (by omega)) ?_;rintro eC wC ⟨vC,rfl,aJ,ac⟩;have H:Ext wr wC:=grown_trans (grown_drew wr none) aJ;obtain⟨ca,cc,hcv,_⟩:=ac.shape;subst hcv;go_wp2_with fail
        refine ko A ?_ (λC => ?_)
        ·exact H
        clear A Kc;refine rd1 4 (λKc A => ?_);go_simp;refine ko A ?_ (λC => ?_)
        ·exact grown_trans H (World.grownBy_alloc _ _ _)
        clear A Kc;refine rd1 5 (λKc A => ?_);have bR:Ints (λk=>¬(λ_:Nat=>False) k/\(Value.slice ca U'.length cc).ownBlock≠some k) (wC.alloc (.cells #[.slice ax X.length cx] 24)) (.slice ax X.length cx) X:=Ints.mono hX (λk _ B=>⟨⟨λh=>h,λe=>by have h1:=(ac.lt k e).1;have h2:wr.heap.size<=wr.drew.heap.size:=(grown_drew wr none).size;  omega⟩,Nat.lt_of_lt_of_le B ((grown_trans H (World.grownBy_alloc wC (.cells #[.slice ax X.length cx] 24) none):Ext wr (wC.alloc (.cells #[.slice ax X.length cx] 24)))).size,((grown_trans H (World.grownBy_alloc wC (.cells #[.slice ax X.length cx] 24) none):Ext wr (wC.alloc (.cells #[.slice ax X.length cx] 24)))).block k B (by simp)⟩);refine step_shq_app2 rfl _ _ rfl (λ_=>False) wr.drew.heap.size _ (Value.slice ca U'.length cc) _ U' X rfl (ac.ext (World.grownBy_alloc _ _ _)) bR rfl (by rw[World.cell?_alloc_at _ _ _ _ rfl];rfl) (by omega) (Nat.le_trans aJ.size (World.grownBy_alloc wC _ none).size) ?_;intro v5 w5 aX aI;have T:Ext wr w5:=grown_own ((grown_trans H (World.grownBy_alloc wC (.cells #[.slice ax X.length cx] 24) none):Ext wr (wC.alloc (.cells #[.slice ax X.length cx] 24)))) aI (λb hb B=>by have h1:=(ac.lt b hb).1;have h2:wr.heap.size<=wr.drew.heap.size:=(grown_drew wr none).size;  omega);have bS:=aX.rows;obtain⟨da,dc,J,_⟩:=aX.shape;have ag:(U'++[X]).length=U'.length+1:=by simp
        rw[ag] at J;clear ag;subst J;refine ko A ?_ (λC => ?_)
        ·exact T
        clear A Kc;refine rd1 6 (λKc A => ?_);go_simp;go_at_call 109;refine Calls.mono (generated_ok P G w5 _ _ (U'++[X]) Sp Any (W.ext (grown_trans j T)) bS HX.out.1 HX.out.2.1) ?_;rintro e6 w6 ⟨v6,rfl,hg6,aY⟩;have D:=grown_trans T hg6;rw[HX.out.2.2.1] at aY;have ap:Rows2 Any w6 v6 Z:=Rows2.sub (RowsD.rows (aY.toD (by have:=HX.out.2.2.2.1;omega))) (λ_ _ _=>trivial);obtain⟨ga,gc,hgv,_,_⟩:=Sl.shape ap;subst hgv;go_wp2_with fail
        refine ko A ?_ (λC => ?_)
        ·exact D
        clear A Kc;refine tk 7 ?_;refine wpAnyH_done (by kernel_rfl) ?_ _;clear e1;have aZ:=HB.out w6 (grown_trans (grown_trans aa (grown_trans hg O)) D);go_wp2_with fail
        clear aZ;refine Calls.mono (sizeOf_ok P hP w6 _ _ Z Sp Any (W.ext (grown_trans j D)) ap HX.out.2.2.2.2.1 HX.out.2.2.2.1) ?_;rintro e7 w7 ⟨v7,rfl,aq,rfl⟩;have ah:=grown_trans O (grown_trans D aq);have a0:=Rows2.ext ap aq;have aL:=HX.out.2.2.2.2.2.1;obtain⟨s2,E⟩:∃s2,s2=prodU P Z Z.length:=⟨_,rfl⟩;rw[<-E] at aL ⊢;by_cases J:l%s2=0
        ·have y:=HX.out.2.2.2.2.2.2.1 (by rw[<-E];exact J)
         have R:=Lib.hid y;clear y E;go_wp2;go_roundw
         case rel=>exact⟨t+1,Z,by go_num,by omega,ah,a0,R⟩
         case measure=>simp[intOf];omega
        ·have y:=HX.out.2.2.2.2.2.2.2 (by rw[<-E];exact J)
         have R:=Lib.hid y;clear y E;have bU:(l%s2 == 0)=false:=by simpa using J
         have bV:=Rows2.ext hU (grown_trans D aq);go_wp2;go_roundw
         case rel=>exact⟨t+1,U',by go_num,by omega,ah,bV,R⟩
         case measure=>simp[intOf];omega
       ·go_simp
        have a1:Ext wr (wr.drew.alloc (.cells #[.slice ax X.length cx] 24)):=grown_trans (grown_drew _ _) (World.grownBy_alloc _ _ _);have au:(wr.drew.alloc (.cells #[.slice ax X.length cx] 24)).cell? ⟨wr.drew.heap.size,0,none⟩=some (.slice ax X.length cx):=by rw[World.cell?_alloc_at _ _ _ _ rfl];rfl
        refine ko A ?_ (λC => ?_)
        ·exact a1
        clear A Kc;refine rd1 2 (λKc A => ?_);go_simp;go_at_call 180;refine Calls.mono (cloneRows_ok (wr.drew.alloc (.cells #[.slice ax X.length cx] 24)) _ U' Any (λ_=>False) (Rows2.ext hU a1) (λ_ _ _ h=>h) (by omega)) ?_;rintro eC wC ⟨vC,rfl,aJ,ac⟩;have H:Ext wr wC:=grown_trans a1 aJ;obtain⟨ca,cc,hcv,_⟩:=ac.shape;subst hcv;go_wp2_with fail
        refine ko A ?_ (λC => ?_)
        ·exact H
        clear A Kc;refine rd1 5 (λKc A => ?_);have bR:Ints (λk=>¬(λ_:Nat=>False) k/\(Value.slice ca U'.length cc).ownBlock≠some k) (wC) (.slice ax X.length cx) X:=Ints.mono hX (λk _ B=>⟨⟨λh=>h,λe=>by have h1:=(ac.lt k e).1;have h2:wr.heap.size<=wr.drew.heap.size:=(grown_drew wr none).size;have h3:=a1.size;omega⟩,Nat.lt_of_lt_of_le B (H).size,(H).block k B (by simp)⟩);refine step_shq_app2 rfl _ _ rfl (λ_=>False) (wr.drew.alloc (.cells #[.slice ax X.length cx] 24)).heap.size _ (Value.slice ca U'.length cc) _ U' X rfl ac bR rfl (aJ.cell au (by simp)) (by omega) (aJ.size) ?_;intro v5 w5 aX aI;have T:Ext wr w5:=grown_own (H) aI (λb hb B=>by have h1:=(ac.lt b hb).1;have h2:wr.heap.size<=wr.drew.heap.size:=(grown_drew wr none).size;have h3:=a1.size;omega);have bS:=aX.rows;obtain⟨da,dc,J,_⟩:=aX.shape;have ag:(U'++[X]).length=U'.length+1:=by simp
        rw[ag] at J;clear ag;subst J;refine ko A ?_ (λC => ?_)
        ·exact T
        clear A Kc;refine rd1 6 (λKc A => ?_);go_simp;go_at_call 109;refine Calls.mono (generated_ok P G w5 _ _ (U'++[X]) Sp Any (W.ext (grown_trans j T)) bS HX.out.1 HX.out.2.1) ?_;rintro e6 w6 ⟨v6,rfl,hg6,aY⟩;have D:=grown_trans T hg6;rw[HX.out.2.2.1] at aY;have ap:Rows2 Any w6 v6 Z:=Rows2.sub (RowsD.rows (aY.toD (by have:=HX.out.2.2.2.1;omega))) (λ_ _ _=>trivial);obtain⟨ga,gc,hgv,_,_⟩:=Sl.shape ap;subst hgv;go_wp2_with fail
        refine ko A ?_ (λC => ?_)
        ·exact D
        clear A Kc;refine tk 7 ?_;refine wpAnyH_done (by kernel_rfl) ?_ _;clear e1;have aZ:=HB.out w6 (grown_trans (grown_trans aa (grown_trans hg O)) D);go_wp2_with fail
        clear aZ;refine Calls.mono (sizeOf_ok P hP w6 _ _ Z Sp Any (W.ext (grown_trans j D)) ap HX.out.2.2.2.2.1 HX.out.2.2.2.1) ?_;rintro e7 w7 ⟨v7,rfl,aq,rfl⟩;have ah:=grown_trans O (grown_trans D aq);have a0:=Rows2.ext ap aq;have aL:=HX.out.2.2.2.2.2.1;obtain⟨s2,E⟩:∃s2,s2=prodU P Z Z.length:=⟨_,rfl⟩;rw[<-E] at aL ⊢;by_cases J:l%s2=0
        ·have y:=HX.out.2.2.2.2.2.2.1 (by rw[<-E];exact J)
         have R:=Lib.hid y;clear y E;go_wp2;go_roundw
         case rel=>exact⟨t+1,Z,by go_num,by omega,ah,a0,R⟩
         case measure=>simp[intOf];omega
        ·have y:=HX.out.2.2.2.2.2.2.2 (by rw[<-E];exact J)
         have R:=Lib.hid y;clear y E;have bU:(l%s2 == 0)=false:=by simpa using J
         have bV:=Rows2.ext hU (grown_trans D aq);go_wp2;go_roundw
         case rel=>exact⟨t+1,U',by go_num,by omega,ah,bV,R⟩
         case measure=>simp[intOf];omega
     ·have bU:(l%m != 0)=true:=by simpa using bm
      have y:=I.out.1 (by
       rw[I.out.2.2.1];intro h;apply bm;rw[HW.out];exact emod_dvd.2 (bl pr h.2.2))
      have R:=Lib.hid y;clear y bl;have cy:=grown_trans O aH;have dg:=Rows2.ext hU aH;go_wp2;clear bU bm;go_roundw
      case rel=>exact⟨t+1,U',by go_num,by omega,cy,dg,R⟩
      case measure=>simp[intOf];omega
    ·have a3:t=N:=by omega
     have y:=hI.out;rw[a3,HN.out] at y;have bW:=y.fin hS.out.1 hS.out.2 (by rw[<-bM.out.1,<-HW.out];omega);rw[<-bM.out.1] at bW;have bx:prodU P U' U'.length<=l:=by rw[HW.out];exact dvd_le y.dv (by rw[<-HW.out];exact bh.1)
     have HE:=Lib.hid (And.intro bW (And.intro bx (And.intro y.sub y.dv)));clear y bW bx a3;have dh:¬(t:Int)<N:=by omega
     go_wp2;go_roundg ((l-prodU P U' U'.length).toNat)
     case rel=>exact⟨U',rfl,grown_trans hg O,hU,Lib.hid ⟨HE.out.2.2.1,HE.out.2.2.2⟩⟩
     case measure=>have:=HE.out.1;have:=HE.out.2.1;have:=c'.out;omega
  ·have cz:s=l:=by omega
   have a4:HallP P pr U:=⟨hS.out.1,by rw[<-bM.out.1,cz,HW.out]⟩;have bz:=cjTo_facts G hS.out.1;have HH:=Lib.hid (And.intro a4 bz);clear a4 bz cz bh b' bu;have cA:=MapAt.made mapSB V;have dj:=makeSB V;have cB:Ext V (V.alloc (.map #[] 0)):=World.grownBy_alloc _ _ _;have bA:MapAt mapSB (V.alloc (.map #[] 0)) V.heap.size (keyIn []) 0:=cA;have cC:=Lib.hid (And.intro cB bA);clear cB cA bA
   have dU:1<=N:=by
    have:=hP.ordP_pos;have:=HN.out;omega
   go_wp2;clear dj
   go_loopw [11,63] (λov tv wr=>∃(t:Nat) (v11:Value),v11=ov/\tv=.int .i64 t/\t<=N/\Ext V wr/\SlOA (λF w u (x:List (List Int))=>RowsD F w u x) 25 V.heap.size (λb=>b=V.heap.size) wr v11 (cjTo P U t) /\
    MapAt mapSB wr V.heap.size (keyIn (cjTo P U t)) (cjTo P U t).length) (λ_ tv _=>N-(intOf tv).toNat)
   case atStart=>exact⟨0,_,rfl,by go_num,by omega,cC.out.1,⟨[],λ_ _=>False,rfl,World.ownsRow_nil _ _ _ _,by simp,by simp,by simp[cjTo,cnS],by simp,by simp[Value.ownBlock]⟩,cC.out.2⟩
   case round=>
    obtain⟨t,v11,rfl,rfl,ht,a5,hO,hM⟩:=hrel;have bB:=grown_trans aR a5;have j:=grown_trans aa bB;have bX:=cjTo_facts G hS.out.1 t (by rw[<-HN.out];exact ht);have dk:=cjTo_len P U t;have a6:¬cjU P U (elAt P (t:Int))∈cjTo P U t->cjTo P U (t+1)=cjTo P U t++[cjU P U (elAt P (t:Int))]:=λh=>by unfold cjTo at *;rw[cnS_yes h]
    have bY:cjU P U (elAt P (t:Int))∈cjTo P U t->cjTo P U (t+1)=cjTo P U t:=λh=>by unfold cjTo at *;rw[cnS_no h]
    obtain⟨cn,ai⟩:∃cn,cn=cjTo P U t:=⟨_,rfl⟩;rw[<-ai] at hO hM bX dk a6 bY;have HY:=Lib.hid (And.intro a6 (And.intro bY (And.intro ai bX)));clear a6 bY bX ai;have a7:=hO.avoids;have cF:=hM.lt;by_cases aS:t<N
    ·have ce:(t:Int)<N:=by omega
     have aF:t<(ordP P).toNat:=by rw[<-HN.out];exact aS
     have Q:Vec P.orders (elAt P (t:Int)):=G.elAtV aF;obtain⟨bt,ot,a2,cap2,hbt,_,_,al,Y⟩:=Rows2.at (Rows2.ext HA.out.2 bB) t (by rw[HA.out.1];exact aS);cases hbt
     rw[gt_allEl aF] at al Y;have dl:=HB.out wr j;have bn:=conjugateSubgroup_ok P G wr _ _ _ U (elAt P (t:Int)) Sp _ _ (W.ext j) (Rows2.ext cb a5) hS.out.1.1 (by omega) Y Q;have au:=G.cjU_subB hS.out.1 Q;obtain⟨X,aG⟩:∃X,X=elAt P (t:Int):=⟨_,rfl⟩;rw[<-aG] at al bn au;obtain⟨cj,aB⟩:∃cj,cj=cjU P U X:=⟨_,rfl⟩;have a8:cseq P (genP P (λz=>z∈conjL P U X))=cj:=by rw[aB];rfl
     rw[a8] at bn;rw[<-aB] at au;have aM:=Lib.hid (And.intro aG aB);clear aG aB a8 Q Y;go_wp2_with fail
     clear al dl;refine Calls.mono bn ?_;rintro e9 w9 ⟨v9,rfl,hg9,hR9⟩;clear bn;obtain⟨K,cG,cH,cI⟩:=subB_bytes G au;have aC:RowsD (From wr.heap.size) w9 v9 cj:=hR9.toD (by omega);obtain⟨ja,jc,hjv,_,_⟩:=SlD.shape aC;subst hjv;have a9:=keyOf_ok cj w9 _ _ (RowsD.rows aC) cG cH cI;have bZ:=hM.ext hg9;have M:∀w',Ext w9 w'->(Instr.lookup 157 (.map (some V.heap.size)) (.string (keyS cj)) false).run Tryz.prog w'=.ok (.bool (keyIn cn (keyS cj))) w':=λw' h=>(bZ.ext h).look _ K;have bo:=keyIn_iff hP HY.out.2.2.2.sub au;have a':=keyIn_app cn cj;obtain⟨s2,aL⟩:∃s2,s2=keyS cj:=⟨_,rfl⟩;rw[<-aL] at a9 M bo a' K;obtain⟨r,hr⟩:∃r,r=keyIn cn s2:=⟨_,rfl⟩;rw[<-hr] at M bo;have HK:=Lib.hid (And.intro bo (And.intro a' K));clear bo a' aL hr K cG cH cI hR9 au;go_wp2_with fail
     refine Calls.mono a9 ?_;rintro eA wA ⟨vA,rfl,hgA,rfl⟩;clear a9;have ba:=M wA hgA;clear M;have bp:=bZ.ext hgA;have bb:=grown_trans hg9 hgA;have cJ:=grown_trans a5 bb;have bc:RowsD (From wr.heap.size) wA (.slice ja cj.length jc) cj:=rdRows.mono aC (λk hk B=>⟨hk,Nat.lt_of_lt_of_le B hgA.size,hgA.block k B (by simp)⟩);clear hM bZ aC;cases r with
     | true=>
      have bd:cj∈cn:=of_decide_eq_true HK.out.1.symm;have aN:=HY.out.2.1 (by rw[<-aM.out.1,<-aM.out.2];exact bd);have cK:=hO.ext rdRows bb;have ad:=Lib.hid (And.intro aN (And.intro cK bp));clear bd aN bp cK hO bc;go_wp2;clear ba;go_roundw
      case rel=>exact⟨t+1,v11,rfl,by go_num,by omega,cJ,by rw[ad.out.1];exact ad.out.2.1,by rw[ad.out.1];exact ad.out.2.2⟩
      case measure=>simp[intOf];omega
     | false=>
      have bd:¬cj∈cn:=λh=>by
       have:=HK.out.1;rw[decide_eq_true h] at this;cases this
      have aN:=HY.out.1 (by rw[<-aM.out.1,<-aM.out.2];exact bd);rw[<-aM.out.1,<-aM.out.2] at aN;obtain⟨wU,hrun,hMU,b0⟩:=bp.update s2 HK.out.2.2 true trivial (by omega);have b1:(Instr.mapUpdate 157 (.map (some V.heap.size)) (.string s2) (.bool true)).run Tryz.prog wA=.ok () wU:=hrun
      have bC:MapAt mapSB wU V.heap.size (keyIn (cn++[cj])) (cn++[cj]).length:=by
       rw[List.length_append,List.length_singleton];exact hMU.congr (λs=>HK.out.2.1 s)
      have bD:wr.grownBy wU (some V.heap.size):=grown_trans (grown_of_ext _ bb) b0
      have bE:RowsD (From wr.heap.size) wU (.slice ja cj.length jc) cj:=rdRows.mono bc (λk hk B=>⟨hk,Nat.lt_of_lt_of_le B b0.size,b0.block k B (λe=>by
       have h1:wr.heap.size<=k:=hk;cases e;omega)⟩)
      have dp:cn.length<=1000000:=by omega
      have b2:=a5.size;have cL:Ext V wU:=grown_own a5 bD (λb hb B=>by cases hb;omega);have ad:=Lib.hid (And.intro aN (And.intro bC bE));clear bd aN bp hMU bC hrun bc bE;go_wp2_with (first|(at_builtin;refine wp_app_oneA rdRows 26 25 (.slice none 0 0) 24 und_r3 Tryz.infoR3 rfl (by decide) rfl _ _ rfl V.heap.size _ wr wU _ _ cn cj rfl hO (λb hb=>by subst hb;exact cF) (some V.heap.size) bD (λb hb=>by cases hb;rfl) ad.out.2.2 rfl rfl dp b2 ?_;intro v8 w8 cM cN)|fail)
      have cO:Ext V w8:=grown_own cL cN (λb hb B=>by have:=(a7 b hb).2.1;omega);have cP:=ad.out.2.1.kept cN (λe=>(a7 _ e.symm).1 rfl);have cQ:=Lib.hid (And.intro cM cP);clear cM cP hO;clear ba b1;go_roundw
      case rel=>exact⟨t+1,v8,rfl,by go_num,by omega,cO,by rw[ad.out.1];exact cQ.out.1,by rw[ad.out.1];exact cQ.out.2⟩
      case measure=>simp[intOf];omega
    ·have a3:t=N:=by omega
     have dh:¬(t:Int)<N:=by omega
     have ai:=HY.out.2.2.1;rw[a3,HN.out] at ai;have be:U∈cn:=by rw[ai];exact(cjTo_hall G HH.out.1 U).2 HH.out.1
     have dq:0<cn.length:=List.length_pos_of_mem be
     have cR:∀u∈cn,SeqOk P u/\u.length<=100:=λu hu=>by
      have h1:=HY.out.2.2.2.sub u hu;have:=G.sub_len h1;exact⟨seqOk_subB G h1,by omega⟩
     have d':w.heap.size<V.heap.size:=by
      have:=c5.out;have:=(grown_trans aa aR).size;omega
     have cS:v11.ownBlock≠some w.heap.size:=λe=>by have:=(a7 _ e).2.1;omega
     have cT:PresP (λk=>v11.ownBlock≠some k) wr (.pointer (some ⟨pb,po,none⟩)) P:=hp.mono (λk _ B=>⟨λe=>by have:=(a7 _ e).2.1;omega,Nat.lt_of_lt_of_le B (grown_trans aD j).size,(grown_trans aD j).block k B (by simp)⟩);have bf:=sortHall_ok P hP wr v11 cn _ V.heap.size w.heap.size pb po hO dq (by omega) cR (HB.out wr j) cS cT
     obtain ⟨eb,lvn,lvc,hlv⟩:∃a n c,v11=.slice a n c:=by
      obtain⟨a,c,h,_⟩:=SlD.shape (hO.o.toD (by omega));exact⟨_,_,_,h⟩
     subst hlv;have dr:=Lib.hid ai;clear ai be cR cT cS hO hM;clear a3;go_wp2_with fail
     refine Calls.mono bf ?_;rintro eZ wZ ⟨rfl,L',cU,hperm,hsorted,cV⟩;clear bf;have cW:HallL P pr L':=hallL_of G HH.out.1 (by rw[<-dr.out];exact hperm) hsorted;have cX:Ext w wZ:=grown_own (grown_trans aD j) cV (λb hb B=>by have:=(a7 b hb).2.1;omega);have HF:=Lib.hid (And.intro cW (cU.o.weak (show w.heap.size<=V.heap.size by omega)));clear cW cU hperm hsorted cV;go_wp2;go_ret;exact⟨_,rfl,cX,L',HF.out.1,HF.out.2⟩
theorem iHs_ok (P:Pr) (w:World) (pv v:Value) (pr:List Int) (I S:Nat->Prop) (A:PresV I w pv P) (D:Ints S w v pr) :
  Calls Tryz.prog 39 #[pv,v] w (Ret w λw' r=>∃a n c,r=.tuple #[.slice a n c,.int .i64 (hcC P pr)]/\SlO (λF w u (x:List (List Int))=>RowsD F w u x) 25 w.heap.size w' (.slice a n c) (hlL P pr)):=by
 obtain⟨vo,vp,vc,rfl,h3⟩:=A;have m:=PresP.box h3 28;have p:Ext w (w.alloc (.cells #[vo,vp,vc] 28)):=World.grownBy_alloc _ _ _;have q:=Ints.ext D p;have b:=hallCode_ok P pr _ _ _ Any S m q;obtain⟨M,cv,rfl,_,_⟩:=D.shape;go_enter Tryz.func39,Tryz.ntmps39;go_wp2_with fail
 generalize B:w.alloc (.cells #[vo,vp,vc] 28)=w0 at *;clear B;refine Calls.mono b ?_;rintro N J ⟨v1,rfl,j,rfl⟩;clear b;have e:=grown_trans p j;obtain⟨c,l⟩:∃c,c=hcC P pr:=⟨_,rfl⟩;rw[<-l];by_cases z:c=0
 ·have k:hcC P pr=0:=by rw[<-l];exact z
  have G:=grp_of_r (hc_zero k).1;have y:=Lib.hid (And.intro l k);clear l k;subst z;have E:=hallSubgroups_ok P G pr J _ _ Any S (m.ext j) (Ints.ext q j);go_wp2_with fail
  refine Calls.mono E ?_;rintro O Q ⟨R,rfl,hg2,L,hL,hO⟩;clear E;have i:=hl_ok y.out.2 hL;have C:=hL.len G;obtain⟨T,rc,hrv,_,_⟩:=SlD.shape (hO.toD (by omega));subst hrv;have H:=Lib.hid (And.intro i hO);clear i hO hL C;go_wp2;go_ret2
  exact⟨_,rfl,grown_trans e hg2,_,_,_,by rw[<-y.out.1];rfl,by rw[H.out.1];exact H.out.2.weak e.size⟩
 ·have K:(c != 0)=true:=by simpa using z
  have y:=Lib.hid l;clear l;go_wp2;go_ret2
  exact⟨_,rfl,e,none,0,0,by rw[<-y.out];rfl,by rw[hl_no (by rw[<-y.out];exact z)];exact SlO.nil _ _ _ _⟩
theorem ints_one (w:World) (x:Int):Ints Any (w.alloc (.cells #[.int .i64 x] 2)) (.slice (some ⟨w.heap.size,0,none⟩) 1 1) [x]:=by
 refine⟨_,1,rfl,⟨by simp,by simp,λh=>by cases h⟩,λi a => ?_⟩;have:i=0:=by simpa using a
 subst this;exact⟨w.heap.size,0,_,rfl,trivial,by simp,by rw[World.cell?_alloc_at _ _ _ _ rfl];rfl,rfl⟩
theorem iSy_ok (P:Pr) (w:World) (pv:Value) (q:Int) (K:Nat->Prop) (B:PresV K w pv P) :
  Calls Tryz.prog 48 #[pv,.int .i64 q] w (Ret w λ_ r=>r=.tuple #[.int .i64 (syN P q),.int .i64 (syC P q)]):=by
 obtain⟨vo,vp,vc,rfl,h3⟩:=B;have k:=PresP.box h3 28;have p:Ext w (w.alloc (.cells #[vo,vp,vc] 28)):=World.grownBy_alloc _ _ _;have u:(w.alloc (.cells #[vo,vp,vc] 28)).heap.size=w.heap.size+1:=by simp
 have b:Ext (w.alloc (.cells #[vo,vp,vc] 28)) ((w.alloc (.cells #[vo,vp,vc] 28)).alloc (.cells #[.int .i64 q] 2)):=World.grownBy_alloc _ _ _;have C:=ints_one (w.alloc (.cells #[vo,vp,vc] 28)) q;rw[u] at C;have e:=hallCode_ok P [q] _ _ _ Any Any (k.ext b) C;have y:=grown_trans p b;have I:=Lib.hid (And.intro y (k.ext b));clear p b u k C;go_enter Tryz.func48,Tryz.ntmps48;go_wp2_with fail
 generalize D:(w.alloc (.cells #[vo,vp,vc] 28)).alloc (.cells #[.int .i64 q] 2)=w0 at *;clear D;refine Calls.mono e ?_;rintro Q E ⟨v1,rfl,b,rfl⟩;clear e;have j:=grown_trans I.out.1 b;obtain⟨c,l⟩:∃c,c=hcC P [q]:=⟨_,rfl⟩;rw[<-l];by_cases A:c=0
 ·have m:hcC P [q]=0:=by rw[<-l];exact A
  have G:=grp_of_r (hc_zero m).1;have z:=Lib.hid (And.intro l m);clear l m;subst A;have i:Ext E (E.alloc (.cells #[.int .i64 q] 2)):=World.grownBy_alloc _ _ _;have J:=hallSubgroups_ok P G [q] _ _ _ Any Any (I.out.2.ext (grown_trans b i)) (ints_one E q);have F:=Lib.hid i;clear i;go_wp2_with fail
  refine Calls.mono J ?_;rintro R S ⟨T,rfl,i,L,H,hO⟩;clear J;have a:syN P q=(L.length:Int):=by unfold syN;rw[hl_ok z.out.2 H]
  have M:=H.len G;obtain⟨U,rc,hrv,_,_⟩:=SlD.shape (hO.toD (by omega));subst hrv;have N:=Lib.hid a;clear a hO H;go_wp2;go_ret2
  exact⟨_,rfl,grown_trans j (grown_trans F.out i),by rw[N.out,show syC P q=0 from z.out.1.symm];rfl⟩
 ·have O:(c != 0)=true:=by simpa using A
  have a:syN P q=0:=by unfold syN;rw[hl_no (by rw[<-l];exact A)];rfl
  have z:=Lib.hid (And.intro l a);clear l a;go_wp2;go_ret2
  exact⟨_,rfl,j,by rw[z.out.2,show syC P q=c from z.out.1.symm];rfl⟩
end Go.Proofs.YtoakmefajbbggaaGreat
