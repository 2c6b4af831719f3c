/- Merged from templates. -/
import Derived.Test.YtdcobapnlpeaaaaGreatY7
import Derived.Laws.BytesArg
set_option maxRecDepth 100000
set_option maxHeartbeats 8000000
namespace Go.Proofs.YtdcobapnlpeaaaaGreat
open Go.RowKit
theorem l02Lead_ok (v:Value) (X:List Int) (w:World) (S:Nat->Prop) (h:Ints S w v X) :
  Calls Tryz.prog 317 #[v] w λe w'=>e=.returned (.int .i64 (dep X))/\w=w':=by
 obtain⟨a,cap,rfl,_,_⟩:=h.shape;go_enter Tryz.func317,Tryz.ntmps317;go_wp2;go_loop [3] (λi=>∃k:Nat,i=.int .i64 k/\k<=X.length/\∀j,j<k->gt X j=0) (λi=>X.length-(intOf i).toNat)
 case atStart=>exact⟨0,rfl,by omega,λj m=>by omega⟩
 case round=>
  obtain⟨k,rfl,hk,hz⟩:=hrel;have n:=Lib.hid hz;clear hz;by_cases g:k<X.length
  ·obtain ⟨b,off,rfl,_,_,hc⟩:=Ints.at h k g
   by_cases hx:gt X k=0
   ·have q:(gt X k != 0)=false:=by simp[hx]
    have r:=Lib.hid hx;clear hx;go_wp2;go_round
    case rel=>exact⟨k+1,by go_num,by omega,λj m=>by
     rcases Nat.lt_succ_iff_lt_or_eq.1 m with h1|h1
     ·exact n.out j h1
     ·rw[h1];exact r.out⟩
    case measure=>simp[intOf];omega
   ·have q:(gt X k != 0)=true:=by simp[hx]
    have l:dep X=k:=dep_eq g n.out hx;have p:=Lib.hid l;clear l hx;go_wp2;go_ret;exact⟨by rw[p.out];rfl,rfl⟩
  ·have u:k=X.length:=by omega
   have l:dep X=X.length:=dep_all (λj m=>n.out j (by omega));have p:=Lib.hid l;clear l;go_wp2;go_ret;exact⟨by rw[p.out];rfl,rfl⟩
theorem l12Depth_ok (v:Value) (X:List Int) (w:World) (S:Nat->Prop) (h:Ints S w v X) :
  Calls Tryz.prog 289 #[v] w (Ret w λ_ r=>r=.int .i64 (dep X)):=by
 have b:=l02Lead_ok v X w S h;obtain⟨a,cap,rfl,_,_⟩:=h.shape;go_enter Tryz.func289,Tryz.ntmps289;go_wp2_with fail
 refine Calls.mono b ?_;rintro e g ⟨rfl,rfl⟩;clear b;go_wp2;go_ret;exact⟨_,rfl,Ext.refl _,rfl⟩
theorem TabAt.rows {B gb n:Nat}{bad:Nat->Prop}{w:World}{b:List (List Int)}(h:TabAt B bad w gb n b) (q:n<=1000000):Rows2 (λk=>k=gb\/(k≠gb/\¬bad k)) w (.slice (some ⟨gb,0,none⟩) n n) b:=by
 have l:=h.len;have e:=h.lt;refine⟨_,_,by rw[l],⟨by omega,by omega,λh=>by cases h⟩,λi r => ?_⟩;obtain⟨_,g⟩:=h.at i (by omega);rcases g with⟨m,g⟩|⟨_,a,cap,g,hI⟩
 ·refine ⟨gb,0,_,rfl,.inl rfl,e.2,by rw[Nat.zero_add];exact g,?_⟩
  rw[m];exact⟨none,0,rfl,⟨by simp,by simp,λ_=>rfl⟩,λj p=>by simp at p⟩
 ·exact⟨gb,0,_,rfl,.inl rfl,e.2,by rw[Nat.zero_add];exact g,Ints.sub hI (λk hk _ => .inr hk)⟩
theorem l12Table_ok (P:Pr) (hP:Valid P) (w:World) (pv X:Value) (U:List (List Int)) (Sp Su:Nat->Prop) (K:PresV Sp w pv P) (Y:Rows2 Su w X U) (Z:SeqOk P U) (hl:U.length<=6) :
  Calls Tryz.prog 226 #[pv,X] w (Ret w λw' v=>Rows2 Any w' v (tabTo U P.orders.length U.length)):=by
 have ah:=hP.n6;obtain⟨vo,vp,vc,rfl,h3⟩:=K;have D:=PresP.box h3 28;have L:Ext w (w.alloc (.cells #[vo,vp,vc] 28)):=World.grownBy_alloc _ _ _;obtain⟨ao,capo,dL,hoi⟩:=D.ordAt;obtain⟨au,capu,rfl,_,_⟩:=Sl.shape Y;have HU:=Lib.hid Z;clear Z;go_enter Tryz.func226,Tryz.ntmps226;go_wp2_with (first|(at_make;refine wp_make_tab rfl _ _ rfl w.heap.size P.orders.length (w.heap.size+1) (by simp) _ rfl rfl rfl (by omega) (by omega) ?_;intro w1 E M aa)|fail)
 have F:=grown_trans L M;have A:=E (λ_=>False);clear E dL hoi D;go_loopw [6] (λN wr=>∃i:Nat,N=.int .i64 i/\i<=U.length/\Ext w wr/\TabAt w.heap.size (λ_=>False) wr (w.heap.size+1) P.orders.length (tabTo U P.orders.length i)) (λN _=>U.length-(intOf N).toNat)
 case atStart=>exact⟨0,rfl,by omega,F,A⟩
 case round=>
  clear A F;obtain⟨i,rfl,hi,C,A⟩:=hrel;by_cases g:i<U.length
  ·have ab:(i:Int)<U.length:=by omega
   obtain⟨b,off,a2,a,rfl,_,xJ,hc0,O⟩:=Rows2.at Y i g;have hc:=C.cell hc0 (by simp);clear hc0;obtain⟨m,n,p⟩:=HU.out.1 _ (gtMem g);have q:tabTo U P.orders.length (i+1)=(tabTo U P.orders.length i).set (dep (gt U i)) (gt U i):=rfl;obtain⟨z,hz⟩:∃z,z=gt U i:=⟨_,rfl⟩;rw[<-hz] at hc O m n p q;clear hz;obtain⟨d,Q⟩:∃d,d=dep z:=⟨_,rfl⟩;rw[<-Q] at n q p;have HD:=Lib.hid Q;clear Q;have ak:b<w.heap.size:=xJ;have R:=Ints.ext O C;have r:z≠[]:=λe=>by have:=m.1;rw[e] at this;simp at this;omega
   have S:Ints (λk=>k≠w.heap.size+1/\¬False) wr (.slice a2 z.length a) z:=by
    have h1:Ints (λk=>k<w.heap.size) w (.slice a2 z.length a) z:=Ints.sub O (λ_ _ h=>h);exact h1.mono (λk hk g=>⟨⟨by omega,id⟩,Nat.lt_of_lt_of_le g C.size,C.block k g (by simp)⟩)
   obtain⟨al,G⟩:=A.at d n;have HS:=Lib.hid (And.intro q (And.intro r (And.intro m p)));clear q r m p;have am:(d:Int)<P.orders.length:=by omega
   obtain⟨u0,lY⟩:∃u0,wr.cell? ⟨w.heap.size+1,d,none⟩=some u0:=by rcases G with⟨_,h⟩|⟨_,_,_,h,_⟩<;>exact⟨_,h⟩
   clear G xJ;have e1:∀w',Near wr (w.heap.size+1) w'->w'.cell? ⟨b,off+i,none⟩=some (.slice a2 z.length a):=λw' h=>h.cell hc (by simp;omega);go_wp2
   go_region_held3 (λw'=>Near wr (w.heap.size+1) w') (first|exact Near.of (grown_drew _ _)|exact Near.of (by assumption)|exact Near.store (by assumption)|assumption)
    (first
     | (go_at_call 289;refine Calls.mono (Calls.rel (w0:=wr) (by first|exact grown_drew _ _|assumption) (l12Depth_ok _ z _ Any (Ints.sub (Ints.ext R (by first|exact grown_drew _ _|assumption)) (λ_ _ _=>trivial)))) ?_;rintro eE wE ⟨vE,rfl,l,gF,H⟩;rw[<-HD.out] at H;subst H;have B:=l.cell lY (by simp);have I:=((A.ext l).at d n).1))
   clear e1;obtain⟨T,J⟩:=(A.ext l).put d (u := .slice a2 z.length a) (y:=z) (Ints.ext S l) HS.out.2.1;have V:Ext w (wE.setCell ⟨w.heap.size+1,d,none⟩ (.slice a2 z.length a)):=grown_own (grown_trans C l) J (λj hj g=>by cases hj;omega);clear B I J;go_wp2;go_roundw
   case rel=>exact⟨i+1,by go_num,by omega,V,by rw[HS.out.1];exact T⟩
   case measure=>simp[intOf];omega
  ·have W:i=U.length:=by omega
   subst W;go_wp2;go_ret;exact⟨_,rfl,C,Rows2.sub (A.rows (by omega)) (λ_ _ _=>trivial)⟩
theorem seqOf_succ (n:Nat) (r:Nat->List Int):seqOf (n+1) r=seqOf n r++(if r n=[] then [] else [r n]):=by
 unfold seqOf;rw[List.range_succ,List.filterMap_append];congr 1
 by_cases h:r n=[]<;>simp[h]
theorem seqOf_len (n:Nat) (r:Nat->List Int):(seqOf n r).length<=n:=by rw[sq_all];exact sq_len _ _ _
theorem ShQ.rows {bad:Nat->Prop}{B:Nat}{w:World}{v:Value}{xs:List (List Int)}(h:ShQ bad B w v xs):Rows2 Any w v xs:=by
 obtain⟨j,b,k,l⟩:=h;rcases k with⟨rfl,rfl⟩|⟨g,off,cap,cur,rfl,hb,e,hnc,hcm,hsz,hc⟩
 ·have:xs=[]:=List.eq_nil_of_length_eq_zero (by simpa using b.symm)
  subst this;exact⟨none,0,rfl,⟨by simp,by simp,λ_=>rfl⟩,λi a=>by simp at a⟩
 ·refine ⟨_,cap,by rw[b],⟨by omega,by unfold maxLen at hcm;omega,λh=>by cases h⟩,λi a=>⟨g,off,gt j i,rfl,trivial,(Array.getElem?_eq_some_iff.1 e).1,?_,Ints.sub (l i a) (λ_ _ _=>trivial)⟩⟩
  simp only[World.cell?,e,Option.isSome_none,Bool.false_eq_true,if_false];exact hc i (by omega)
theorem ShQ.lit (bad:Nat->Prop) (B:Nat) (w:World) (hB:B<=w.heap.size):ShQ bad B (w.alloc (.cells #[] 24)) (.slice (some ⟨w.heap.size,0,none⟩) 0 0) []:=
 ⟨[],rfl,QOwn.of (World.ownsRow_lit w #[] 0 hB (by decide) rfl),λi a=>by simp at a⟩
theorem CanInv.congr {P:Pr}{H:List Int->Prop}{b r j:Nat->List Int}{m:Nat}(h:CanInv P H b r m) (i:∀e,m<=e->e<P.orders.length->j e=r e):CanInv P H b j m:=
 ⟨λe h1 a=>by rw[i e h1 a];exact h.nil e h1 a,λe h1 a g=>by rw[i e h1 a] at g ⊢;exact h.mem e h1 a g,
  λe e' h1 a g k l=>by rw[i e h1 (by omega)] at k ⊢;rw[i e' (by omega) g] at l;exact h.red e e' h1 a g k l⟩
theorem ShQ.weak {bad:Nat->Prop}{B B':Nat}{w:World}{v:Value}{xs:List (List Int)}(h:ShQ bad B w v xs) (a:B'<=B):ShQ bad B' w v xs:=by
 obtain⟨b,hl,hq,hr⟩:=h;exact⟨b,hl,hq.weak a,hr⟩
theorem l12FullF_ok (P:Pr) (G:Grp P) (w:World) (pv tv:Value) (b:List (List Int)) (H:List Int->Prop) (Sp Sb:Nat->Prop) (aN:PresV Sp w pv P) (ht:Rows2 Sb w tv b) (Q:b.length=P.orders.length) (hI:Ind P H (gt b)) (I:Nat->Prop) (ah:∀k,I k->k<w.heap.size/\¬Sb k) :
  Calls Tryz.prog 217 #[pv,tv] w (Ret w λw' v=>ShQ I w.heap.size w' v (cseq P H)):=by
 have hP:=G.v;have bh:=hP.n6;obtain⟨vo,vp,vc,rfl,h3⟩:=aN;have ai:=PresP.box h3 28;have J:Ext w (w.alloc (.cells #[vo,vp,vc] 28)):=World.grownBy_alloc _ _ _;have aj:(w.alloc (.cells #[vo,vp,vc] 28)).heap.size=w.heap.size+1:=by simp
 obtain⟨at_,capt,ak,_,_⟩:=Sl.shape ht;rw[Q] at ak;subst ak;have HI:=Lib.hid (And.intro hI Q);clear hI Q;obtain⟨aO,dI,dG,_,_,aP,al,am,an⟩:=ai.at;simp only[Nat.zero_add] at al am;clear ai;have ao:IntKind.i64.wrap ((P.orders.length:Int)-1)=(P.orders.length:Int)-1:=IntWalk.i64_in _ (by omega);go_enter Tryz.func217,Tryz.ntmps217;go_wp2_with (first|(at_make;refine wp_make_tab rfl _ _ rfl w.heap.size P.orders.length (w.heap.size+1) (by simp) _ rfl rfl rfl (by omega) (by omega) ?_;intro w1 ap aQ bc)|fail)
 clear ao;have HS:=Lib.hid aj;clear aj;generalize aR:w.alloc (.cells #[vo,vp,vc] 28)=w0 at *;clear aR;have C:=ap I;clear ap;go_loopw [6] (λdv wr=>∃(m:Nat) (dl:List (List Int)),dv=.int .i64 ((m:Int)-1)/\m<=P.orders.length/\Ext w0 wr/\TabAt w.heap.size I wr (w.heap.size+1) P.orders.length dl/\Hid (CanInv P H (gt b) (gt dl) m/\∀e,e<m->gt dl e=[])) (λdv _=>(intOf dv+1).toNat)
 case atStart=>exact⟨P.orders.length,_,rfl,Nat.le_refl _,aQ,C,Lib.hid ⟨⟨λe h1 h2=>by omega,λe h1 h2=>by omega,λe e' h1 h2 h3=>by omega⟩,λe he=>by simp[gt,he]⟩⟩
 case round =>
  clear C;obtain⟨m,dl,rfl,hm,R,C,K⟩:=hrel;by_cases aq:m=0
  ·subst aq
   have ar:((0:Nat):Int)-1 = -1:=rfl;rw[ar];have D:=G.can_end HI.out.1 K.out.1;rw[<-sq_all] at D;have HE:=Lib.hid D;clear D;have bk:=C.len;have aS:=C.rows (by omega);obtain⟨L,rfl⟩:∃L:World,L=wr:=⟨_,rfl⟩;go_wp2;go_loopw [9,10] (λov iv wr=>∃(i:Nat) (v4:Value),v4=ov/\iv=.int .i64 i/\i<=P.orders.length/\Ext L wr/\ShQ I L.heap.size wr v4 (seqOf i (gt dl))) (λ_ iv _=>P.orders.length-(intOf iv).toNat)
   case atStart=>exact⟨0,_,rfl,rfl,by omega,World.grownBy_alloc _ _ _,ShQ.lit _ _ _ (Nat.le_refl _)⟩
   case round=>
    obtain⟨i,v4,rfl,rfl,hi,p,S⟩:=hrel;by_cases g:i<P.orders.length
    ·have av:(i:Int)<P.orders.length:=by omega
     have l:=seqOf_succ i (gt dl);obtain⟨_,A⟩:=C.at i g;rcases A with⟨h0,hcell⟩|⟨n,ab,E,hcell,T⟩
     ·rw [if_pos h0,List.append_nil] at l
      have U:=Lib.hid l;clear l h0;have r:=p.cell hcell (by simp);go_wp2;go_roundw
      case rel=>exact⟨i+1,v4,rfl,by go_num,by omega,p,by rw[U.out];exact S⟩
      case measure=>simp[intOf];omega
     ·rw [if_neg n] at l
      have aU:(0:Int)<(gt dl i).length:=by
       have:0<(gt dl i).length:=List.length_pos_iff.2 n;omega
      have bm:=seqOf_len i (gt dl);have U:=Lib.hid l;clear l n;have r:=p.cell hcell (by simp);have aV:Ints (λk=>¬I k/\v4.ownBlock≠some k) wr (.slice (some ab) (gt dl i).length E) (gt dl i):=Ints.mono T (λk aW hk=>⟨⟨aW.2,λe=>by have:=(S.lt k e).1;omega⟩,Nat.lt_of_lt_of_le hk p.size,p.block k hk (by simp)⟩);go_wp2_with (first|(at_builtin;refine wp_shq_app rfl _ _ rfl I L.heap.size v4 _ (seqOf i (gt dl)) (gt dl i) rfl wr S rfl aV rfl (by omega) p.size ?_;intro v5 w5 aX M bo;have ax:=grown_own p M (λj hj g=>by have:=(S.lt j hj).1;omega))|fail)
      go_roundw
      case rel=>exact⟨i+1,v5,rfl,by go_num,by omega,ax,by rw[U.out];exact aX⟩
      case measure=>simp[intOf];omega
    ·have aZ:i=P.orders.length:=by omega
     subst aZ;rw[HE.out] at S;obtain⟨az,capz,fk,_⟩:=S.shape;subst fk;go_wp2;go_ret;exact⟨_,rfl,grown_trans J (grown_trans R p),S.weak (grown_trans J R).size⟩
  ·obtain ⟨d,rfl⟩:∃d,m=d+1:=⟨m-1,by omega⟩
   rw[show(((d+1:Nat)):Int)-1=d by omega];have V:d<P.orders.length:=by omega
   have bd:(d:Int)<P.orders.length:=by omega
   have bp:(0:Int)<=d:=by omega
   have bq:IntKind.i64.wrap ((d:Int)-1)=(d:Int)-1:=IntWalk.i64_in _ (by omega);obtain⟨bb,off,a2,aA,hat,_,_,hc,hr⟩:=Rows2.at ht d (by rw[HI.out.2];exact V);subst hat;have W:=grown_trans J R;have r:=W.cell hc (by simp);clear hc aq;by_cases X:gt b d=[]
   ·have aB:((((gt b d).length:Nat):Int) == 0)=true:=by rw[X];rfl
    have F:CanInv P H (gt b) (gt dl) d:=(can_skip (k:=P.orders.length-(d+1)) K.out.1 X).1.congr (λe h1 h2=>by
     by_cases he:e=d
     ·subst he;rw[if_pos rfl];exact K.out.2 e (by omega)
     ·rw[if_neg he])
    have Z:Hid (CanInv P H (gt b) (gt dl) d/\∀e,e<d->gt dl e=[]):=Lib.hid ⟨F,λe he=>K.out.2 e (by omega)⟩;clear F X;go_wp2;go_roundw
    case rel=>exact⟨d,dl,rfl,by omega,R,C,Z⟩
    case measure=>simp[intOf]
   ·have aB:((((gt b d).length:Nat):Int) == 0)=false:=by
     have:0<(gt b d).length:=List.length_pos_iff.2 X;simp;omega
    have aC:Vec P.orders (gt b d):=(HI.out.1.mem d V X).2.1.1;have N:Ints (λk=>k≠w.heap.size+1/\¬I k) wr (.slice a2 (gt b d).length aA) (gt b d):=Ints.mono hr (λk a0 hk=>⟨⟨by omega,λh=>(ah k h).2 a0⟩,Nat.lt_of_lt_of_le hk W.size,W.block k hk (by simp)⟩);have HB:=Lib.hid (And.intro X aC);clear X aC;obtain⟨L,rfl⟩:∃L:World,L=wr:=⟨_,rfl⟩;go_wp2;clear aB r;go_loopw [7,8] (λxv ev wr=>∃(e:Nat) (Y:List Int),ev=.int .i64 e/\d+1<=e/\e<=P.orders.length/\Ext L wr/\Ints (λk=>k≠w.heap.size+1/\¬I k) wr xv Y/\Hid (FullTo P (gt dl) (d+1) (gt b d) e Y)) (λ_ ev _=>P.orders.length-(intOf ev).toNat)
    case atStart=>exact⟨d+1,_,by go_num,Nat.le_refl _,by omega,Ext.refl _,N,Lib.hid (G.fullTo_zero HB.out.2)⟩
    case round=>
     clear N;obtain⟨e,Y,rfl,hde,he,a,hY,hF⟩:=hrel;have z:=hF.out.vec;have aa:Y.length=P.orders.length:=z.1;obtain⟨ay,O,aD,_,_⟩:=hY.shape;rw[aa] at aD;subst aD;by_cases g:e<P.orders.length
     ·have av:(e:Int)<P.orders.length:=by omega
      have bs:(0:Int)<=e:=by omega
      obtain⟨a3,oy,rfl,_,_,j5⟩:=Ints.at hY e (by omega);obtain⟨_,A⟩:=C.at e g;rcases A with⟨h0,hcell⟩|⟨n,ab,E,hcell,T⟩
      ·have B:=Lib.hid (hF.out.skip (.inl h0));clear h0 z
       have r:=a.cell hcell (by simp);go_wp2;go_roundw
       case rel=>exact⟨e+1,Y,by go_num,by omega,by omega,a,hY,B⟩
       case measure=>simp[intOf];omega
      ·have aU:(0:Int)<(gt dl e).length:=by
        have:0<(gt dl e).length:=List.length_pos_iff.2 n;omega
       have r:=a.cell hcell (by simp);by_cases hy:gt Y e=0
       ·have a4:(gt Y e != 0)=false:=by simp[hy]
        have B:=Lib.hid (hF.out.skip (.inr hy));clear z hy n;go_wp2;go_roundw
        case rel=>exact⟨e+1,Y,by go_num,by omega,by omega,a,hY,B⟩
        case measure=>simp[intOf];omega
       ·have a4:(gt Y e != 0)=true:=by simp[hy]
        have aE:=z.2 e g;have ho:=hP.ord7 e g;have ao:IntKind.i64.wrap (-(gt Y e)) = -(gt Y e):=IntWalk.i64_in _ (by omega);obtain⟨_,m2,m3⟩:=K.out.1.mem e (by omega) g n;have B:=Lib.hid (G.fullTo_step HB.out.2 (by omega) g n ⟨m2,m3⟩ hF.out);have ac:=G.pwZ_vec m2.1 (-(gt Y e));have aF:(pwZ P (gt dl e) (-(gt Y e))).length<=6:=by rw[ac.1];omega
        have HD:=Lib.hid (And.intro m2.1 (And.intro ac (And.intro aF (And.intro z (And.intro aE ho)))));clear m2 m3 ac aF z aE ho n hy;have q:=grown_trans R a;have e1:∀w',Ext wr w'->w'.cell? ⟨w.heap.size,0,none⟩=some aO:=λw' h=>(grown_trans q h).cell aP (by simp);have e2:∀w',Ext wr w'->w'.cell? ⟨w.heap.size,1,none⟩=some dI:=λw' h=>(grown_trans q h).cell al (by simp);have e3:∀w',Ext wr w'->w'.cell? ⟨w.heap.size,2,none⟩=some dG:=λw' h=>(grown_trans q h).cell am (by simp);have e4:∀w',Ext wr w'->w'.cell? ⟨w.heap.size+1,e,none⟩=some (.slice (some ab) (gt dl e).length E):=λw' h=>h.cell r (by simp);have e5:∀w',Ext wr w'->w'.cell? ⟨a3,oy+e,none⟩=some (.int .i64 (gt Y e)):=λw' h=>h.cell j5 (by simp);go_wp2;clear r j5 hcell
        go_region_held3 (λw'=>Ext wr w') (first|exact grown_drew _ _|assumption)
         (first
          | (go_at_call 106;refine Calls.mono (Calls.rel (w0:=wr) (by assumption) (l10Pow_ok P G _ _ _ (gt dl e) _ Any Any ⟨_,_,_,rfl,Pres3.ext (Pres3.ext an q) (by assumption)⟩ (Ints.sub (Ints.ext (Ints.ext T a) (by assumption)) (λ_ _ _=>trivial)) HD.out.1 (by have:=HD.out.2.2.2.2.1;have:=HD.out.2.2.2.2.2;omega))) ?_;rintro eA wA ⟨vA,rfl,dR,eW,gw⟩;have aG:=gw.ints (by have:=HD.out.2.2.1;omega))
          | (go_at_call 240;refine Calls.mono (Calls.rel (w0:=wr) (by assumption) (l08Mul_ok P hP _ _ _ _ Y _ Any Any Any ⟨_,_,_,rfl,Pres3.ext (Pres3.ext an q) (by assumption)⟩ (Ints.sub (Ints.ext hY (by assumption)) (λ_ _ _=>trivial)) aG HD.out.2.2.2.1 HD.out.2.1)) ?_;rintro eB wB ⟨vB,rfl,hgB,hsB,aH⟩))
        clear e1 e2 e3 e4 e5;have a5:Ints (λk=>k≠w.heap.size+1/\¬I k) wB vB (rMul P Y (pwZ P (gt dl e) (-(gt Y e)))):=ints_of_own aH (by rw[B.out.vec.1];omega) (λk hk=>by have h1:=(aH.lt k hk).1;have:=C.lt;have:=a.size;exact⟨by omega,λh=>by have:=(ah k h).1;have:=J.size;have:=R.size;omega⟩);go_wp2;go_roundw
        case rel=>exact⟨e+1,_,by go_num,by omega,by omega,grown_trans a hgB,a5,B⟩
        case measure=>simp[intOf];omega
     ·have a6:e=P.orders.length:=by omega
      subst a6;have aI:Y≠[]:=λh=>by rw[h] at aa;simp at aa;omega
      have ad:=C.ext a;obtain⟨a7,M⟩:=ad.put d (u := .slice ay P.orders.length O) (y:=Y) (Ints.sub hY (λk hk _=>hk)) aI;obtain⟨bB,A⟩:=ad.at d V;have bC:wr.cell? ⟨w.heap.size+1,d,none⟩=some (.slice none 0 0):=A.elim (λh=>h.2) (λh=>absurd (K.out.2 d (by omega)) h.1);have l:=(G.can_step (k:=P.orders.length-(d+1)) HI.out.1 K.out.1 (by omega) HB.out.1 (hF.out.repTo K.out.1 (by omega))).1
      have F:CanInv P H (gt b) (gt (dl.set d Y)) d:=l.congr (λi h1 h2=>by
       by_cases hi:i=d
       ·subst hi;rw[if_pos rfl,gt_set_eq _ _ _ (by rw[C.len];omega)]
       ·rw[if_neg hi,gt_set_ne _ _ _ _ (λh=>hi h.symm)])
      have Z:Hid (CanInv P H (gt b) (gt (dl.set d Y)) d/\∀i,i<d->gt (dl.set d Y) i=[]):=Lib.hid ⟨F,λi hi=>by rw[gt_set_ne _ _ _ _ (by omega)];exact K.out.2 i (by omega)⟩;have aJ:Ext w0 (wr.setCell ⟨w.heap.size+1,d,none⟩ (.slice ay P.orders.length O)):=grown_own (grown_trans R a) M (λj hj g=>by cases hj;have:=HS.out;omega);clear A l F z ad M;go_wp2;go_roundw
      case rel=>exact⟨d,dl.set d Y,rfl,by omega,aJ,a7,Z⟩
      case measure=>simp[intOf]
theorem l12Strip_ok (P:Pr) (G:Grp P) (w:World) (pv tv L:Value) (b:List (List Int)) (X:List Int) (Sp Sb Sx:Nat->Prop) (M:PresV Sp w pv P) (ht:Rows2 Sb w tv b) (hx:Ints Sx w L X) (N:Vec P.orders X)
  (l:b.length=P.orders.length) (k:∀d,d<P.orders.length->gt b d≠[]->T P d (gt b d)/\gt (gt b d) d=1) :
  Calls Tryz.prog 214 #[pv,tv,L] w (Ret w λw' v=>∃(d:Nat) (r:Value) (Y:List Int),v=.tuple #[.int .i64 d,r]/\Own w.heap.size w' r Y/\StripTo P b X d Y/\d<=P.orders.length/\(d<P.orders.length->gt Y d≠0/\gt b d=[])):=by
 have hP:=G.v;have an:=hP.n6;obtain⟨vo,vp,vc,rfl,h3⟩:=M;have u:=PresP.box h3 28;have i:Ext w (w.alloc (.cells #[vo,vp,vc] 28)):=World.grownBy_alloc _ _ _;have O:=hx.ext i;have Q:=Rows2.ext ht i;have ao:X.length<=6:=by rw[N.1];omega
 have y:(w.alloc (.cells #[vo,vp,vc] 28)).heap.size=w.heap.size+1:=by simp
 obtain⟨at_,capt,z,_,_⟩:=Sl.shape ht;rw[l] at z;subst z;have R:=Lib.hid (And.intro k (And.intro N l));clear k N l;obtain⟨S,dI,dG,_,_,U,A,B,C⟩:=u.at;simp only[Nat.zero_add] at A B;clear u;go_enter Tryz.func214,Tryz.ntmps214;go_wp2_with fail
 have HS:=Lib.hid y;clear y;generalize V:w.alloc (.cells #[vo,vp,vc] 28)=w0 at *;clear V;refine Calls.mono (l01Own_ok w0 L X Sx O (by omega)) ?_;rintro e1 w1 ⟨ov,rfl,hg1,gi⟩;go_wp2;go_loopw [8,9] (λov W wr=>∃(d:Nat) (Y:List Int),W=.int .i64 d/\d<=P.orders.length/\Ext w0 wr/\Own w.heap.size wr ov Y/\Hid (StripTo P b X d Y)) (λ_ W _=>P.orders.length-(intOf W).toNat)
 case atStart=>exact⟨0,X,rfl,by omega,hg1,gi.weak (by have:=HS.out;omega),Lib.hid (stripTo_zero R.out.2.1)⟩
 case round=>
  clear gi;obtain⟨d,Y,rfl,hd,e,hO,D⟩:=hrel;have a:=D.out.vec.1;have Z:Y.length=P.orders.length:=a.1;have m:=hO.ints (by omega);obtain⟨ay,capy,E,_,_⟩:=m.shape;rw[Z] at E;subst E;by_cases g:d<P.orders.length
  ·have aj:(d:Int)<P.orders.length:=by omega
   obtain⟨bb,off,a2,F,rfl,_,_,hc,hr⟩:=Rows2.at (Rows2.ext Q e) d (by rw[R.out.2.2];exact g);obtain⟨aa,oy,rfl,_,_,j5⟩:=Ints.at m d (by omega);by_cases hy:gt Y d=0
   ·have ab:(gt Y d == 0)=true:=by simp[hy]
    have n:=Lib.hid (D.out.skip hy);clear a hy;go_wp2;go_roundw
    case rel=>exact⟨d+1,Y,by go_num,by omega,e,hO,n⟩
    case measure=>simp[intOf];omega
   ·have ab:(gt Y d == 0)=false:=by simp[hy]
    by_cases p:gt b d=[]
    ·have ac:((((gt b d).length:Nat):Int) == 0)=true:=by rw[p];rfl
     have j:=Lib.hid (And.intro p hy);clear p a hy;go_wp2;go_ret2
     exact⟨_,rfl,grown_trans i e,d,_,Y,rfl,hO,D.out,by omega,λ_=>⟨j.out.2,j.out.1⟩⟩
    ·have ac:((((gt b d).length:Nat):Int) == 0)=false:=by
      have:0<(gt b d).length:=List.length_pos_iff.2 p;simp;omega
     have H:=a.2 d g;have ho:=hP.ord7 d g;have ar:IntKind.i64.wrap (-(gt Y d)) = -(gt Y d):=IntWalk.i64_in _ (by omega);obtain⟨K,m3⟩:=R.out.1 d g p;have n:=Lib.hid (G.stripTo_step g p ⟨K,m3⟩ hy D.out);have q:=G.pwZ_vec K.1 (-(gt Y d));have I:(pwZ P (gt b d) (-(gt Y d))).length<=6:=by rw[q.1];omega
     have j:=Lib.hid (And.intro K.1 (And.intro q (And.intro I (And.intro a (And.intro H ho)))));clear K m3 q I a H ho p hy;have e1:∀w',Ext wr w'->w'.cell? ⟨w.heap.size,0,none⟩=some S:=λw' h=>(grown_trans e h).cell U (by simp);have e2:∀w',Ext wr w'->w'.cell? ⟨w.heap.size,1,none⟩=some dI:=λw' h=>(grown_trans e h).cell A (by simp);have e3:∀w',Ext wr w'->w'.cell? ⟨w.heap.size,2,none⟩=some dG:=λw' h=>(grown_trans e h).cell B (by simp);have e4:∀w',Ext wr w'->w'.cell? ⟨bb,off+d,none⟩=some (.slice a2 (gt b d).length F):=λw' h=>h.cell hc (by simp);have e5:∀w',Ext wr w'->w'.cell? ⟨aa,oy+d,none⟩=some (.int .i64 (gt Y d)):=λw' h=>h.cell j5 (by simp);go_wp2;clear hc j5
     go_region_held3 (λw'=>Ext wr w') (first|exact grown_drew _ _|assumption)
      (first
       | (go_at_call 106;refine Calls.mono (Calls.rel (w0:=wr) (by assumption) (l10Pow_ok P G _ _ _ (gt b d) _ Any Any ⟨_,_,_,rfl,Pres3.ext (Pres3.ext C e) (by assumption)⟩ (Ints.sub (Ints.ext hr (by assumption)) (λ_ _ _=>trivial)) j.out.1 (by have:=j.out.2.2.2.2.1;have:=j.out.2.2.2.2.2;omega))) ?_;rintro eA wA ⟨vA,rfl,dR,eW,gw⟩;have J:=gw.ints (by have:=j.out.2.2.1;omega))
       | (go_at_call 240;refine Calls.mono (Calls.rel (w0:=wr) (by assumption) (l08Mul_ok P hP _ _ _ _ Y _ Any Any Any ⟨_,_,_,rfl,Pres3.ext (Pres3.ext C e) (by assumption)⟩ (Ints.sub (Ints.ext m (by assumption)) (λ_ _ _=>trivial)) J j.out.2.2.2.1 j.out.2.1)) ?_;rintro eB wB ⟨vB,rfl,hgB,hsB,gX⟩))
     clear e1 e2 e3 e4 e5;go_wp2;go_roundw
     case rel=>exact⟨d+1,_,by go_num,by omega,grown_trans e hgB,gX.weak (by have:=e.size;have:=HS.out;omega),n⟩
     case measure=>simp[intOf];omega
  ·have ad:d=P.orders.length:=by omega
   subst ad;go_wp2;go_ret2
   exact⟨_,rfl,grown_trans i e,_,_,Y,rfl,hO,D.out,by omega,λh=>absurd h (by omega)⟩
end Go.Proofs.YtdcobapnlpeaaaaGreat
namespace Go.Proofs.YtdcobapnlpeaaaaGreat
theorem genP_self {P:Pr}{H:List Int->Prop}(S:Sub P H):genP P H=H:=
 funext λ_=>propext ⟨λh=>h H S (λ_ hy=>hy),λh=>genP_mem h⟩
theorem genP_or (P:Pr) (Q L:List Int->Prop):genP P (λx=>genP P Q x\/L x)=genP P (λx=>Q x\/L x):=
 funext λ_=>propext ⟨λh K S a=>h K S (λy hy=>hy.elim (λh=>h K S (λz b=>a z (.inl b))) (λh=>a y (.inr h))),
  λh K S a=>h K S (λy hy=>hy.elim (λh=>a y (.inl (genP_mem h))) (λh=>a y (.inr h)))⟩
theorem Sub.and {P:Pr}{H K:List Int->Prop}(S:Sub P H) (R:Sub P K):Sub P (λx=>H x/\K x):=
 ⟨λ_ h=>S.vec _ h.1,⟨S.one,R.one⟩,λ_ _ h k=>⟨S.mul _ _ h.1 k.1,R.mul _ _ h.2 k.2⟩,λ_ h=>⟨S.inv _ h.1,R.inv _ h.2⟩⟩
theorem Grp.genP_none {P:Pr}(G:Grp P):genP P (λ_=>False)=λx=>x=zeros P.orders.length:=
 funext λ_=>propext ⟨λh=>h _ G.sub_one (λ_ h=>h.elim),λh K S _=>by rw[h];exact S.one⟩
theorem genP_list {P:Pr}{H:List Int->Prop}(S:Sub P H) {L:List (List Int)}(h:∀x,x∈L↔H x):genP P (λx=>x∈L)=H:=by
 have:(λx=>x∈L)=H:=funext λx=>propext (h x);rw[this];exact genP_self S
theorem Grp.genP_cseq {P:Pr}(G:Grp P) {H:List Int->Prop}(S:Sub P H):genP P (λx=>x∈cseq P H)=H:=by
 have a:=G.seq_facts S;have b:∀y,y∈cseq P H->Vec P.orders y:=λy hy=>S.vec y (a.2.1 y hy);refine funext λx=>propext ⟨λh=>h H S a.2.1,λh => ?_⟩;exact elsP_sub (G.genP_sub b) (λz e=>genP_mem e) _ (Nat.le_refl _) x ((G.elsP_mem S a.1 a.2.1 a.2.2 x).2 h)
theorem Grp.subB {P:Pr}(G:Grp P) {u:List (List Int)}(h:SubB P u):Sub P (genP P (λx=>x∈u)):=G.genP_sub h.1
theorem Grp.subB_cseq {P:Pr}(G:Grp P) {H:List Int->Prop}(S:Sub P H):SubB P (cseq P H):=
 ⟨λx hx=>S.vec x ((G.seq_facts S).2.1 x hx),by rw[G.genP_cseq S]⟩
end Go.Proofs.YtdcobapnlpeaaaaGreat
namespace Go.Proofs.YtdcobapnlpeaaaaGreat
open Go.RowKit
theorem run_head_rows (w:World) (a:Option Addr) (n cap:Nat) (k:Int) (b:0<=k) (h1:k<=cap) :
  (Instr.slice 25 (.slice a n cap) none (some (.int .i64 k)) none).run Tryz.prog w=.ok (.slice a k.toNat cap) w:=by
 rw[run_slice_h w 25 a n cap (by kernel_rfl) .i64 k b h1];have:(sizeOf (Tryz.prog.elem 25)).run Tryz.prog w=.ok 1 w:=by kernel_rfl
 rw[this];cases a with
 | none=>simp[Result.andThen,sliced]
 | some a=>simp[Result.andThen,sliced,Addr.add]
theorem QOwn.init {B E n cap:Nat}{w:World}{a:Option Addr}{x:Value}{b:List Value}(h:QOwn B E w (.slice a n cap) (b++[x])):QOwn B E w (.slice a b.length cap) b:=by
 rcases h with⟨_,h⟩|⟨g,off,cap',cur,e,hb,hg,h1,h2,h3,j⟩
 ·simp at h
 ·simp only[Value.slice.injEq] at e
  obtain⟨rfl,rfl,rfl⟩:=e;simp only[List.length_append,List.length_singleton] at h1 j;exact .inr ⟨g,off,cap,cur,rfl,hb,hg,by omega,h2,h3,λi k=>by rw[j i (by omega),gt_append_left _ _ _ k]⟩
theorem ShQ.init {bad:Nat->Prop}{B n cap:Nat}{w:World}{a:Option Addr}{x:List Int}{xs:List (List Int)}(h:ShQ bad B w (.slice a n cap) (xs++[x])):ShQ bad B w (.slice a xs.length cap) xs:=by
 obtain⟨j,l,hq,hr⟩:=h
 obtain ⟨g,u,rfl⟩:∃g u,j=g++[u]:=by
  refine⟨j.dropLast,j.getLast (λe=>by rw[e] at l;simp at l),(List.dropLast_concat_getLast _).symm⟩
 have b:g.length=xs.length:=by simpa using l
 refine⟨g,b,by rw[<-b];exact hq.init,λi p => ?_⟩;have m:=hr i (by simp;omega);rw[gt_append_left _ _ _ (by omega),gt_append_left _ _ _ p] at m;exact Ints.sub m (λk hk _=>⟨hk.1,λe=>hk.2 (by cases a<;>exact e)⟩)
theorem l01Own2_ok (w:World) (v:Value) (L:List (List Int)) (S:Nat->Prop) (C:Rows2 S w v L) (D:∀x∈L,x.length<=1000000) (E:L.length<=1000000) :
  Calls Tryz.prog 213 #[v] w (Ret w λw' r=>RowsO w.heap.size w' r L):=by
 obtain⟨a,cap,rfl,_,_⟩:=Sl.shape C;have H:=Lib.hid D;clear D;go_enter Tryz.func213,Tryz.ntmps213;go_wp2;go_loopw [3,4] (λI q wr=>∃(i:Nat) (v4:Value),v4=I/\q=.int .i64 i/\i<=L.length/\Ext w wr/\RowsO w.heap.size wr v4 (L.take i)) (λ_ q _=>L.length-(intOf q).toNat)
 case atStart=>exact⟨0,_,rfl,rfl,by omega,World.grownBy_alloc _ _ _,[],λ_ _=>False,rfl,World.ownsRow_lit w #[] 0 (Nat.le_refl _) (by decide) rfl,by simp,by simp,by simp⟩
 case round=>
  obtain⟨i,v4,rfl,rfl,hi,p,hO⟩:=hrel;by_cases g:i<L.length
  ·have F:(i:Int)<L.length:=by omega
   obtain⟨b,off,a2,cap2,rfl,_,_,hc,J⟩:=Rows2.at (Rows2.ext C p) i g;have e:=take_succ_gt L i g;have l:=H.out _ (gtMem g);have u:(L.take i).length<=1000000:=by rw[List.length_take];omega
   have k:=Lib.hid (And.intro e l);clear e l;go_wp2_with fail
   refine Calls.mono (l01Own_ok wr _ (gt L i) _ J (by have:=k.out.2;omega)) ?_;rintro O G ⟨K,rfl,y,gz⟩;have m:OwnIn (From wr.heap.size) G K (gt L i):=OwnIn.of gz (by have:=k.out.2;omega) (λj h1 _=>h1);obtain⟨P,capy,gK,_,_⟩:=m.ints.shape;subst gK;clear hc;go_wp2_with (first|(at_builtin;refine wp_app_row rfl _ _ rfl w.heap.size wr G v4 _ (L.take i) (gt L i) rfl hO y m rfl rfl u p.size ?_;intro M Q z A N;have n:=hO.extw p (Nat.le_refl _) A)|fail)
   go_roundw
   case rel=>exact⟨i+1,M,rfl,by go_num,by omega,n,by rw[k.out.1];exact z⟩
   case measure=>simp[intOf];omega
  ·have B:i=L.length:=by omega
   subst B;rw[List.take_length] at hO;obtain⟨R,capz,fk,_,_⟩:=SlD.shape (hO.toD (by omega));subst fk;go_wp2;go_ret;exact⟨_,rfl,p,hO⟩
theorem l10Comm_ok (P:Pr) (G:Grp P) (w:World) (pv a b:Value) (A B:List Int) (L E F:Nat->Prop) (M:PresV L w pv P) (ha:Ints E w a A) (K:Ints F w b B) (D:Vec P.orders A) (hB:Vec P.orders B) :
  Calls Tryz.prog 216 #[pv,a,b] w (Ret w λw' v=>Own w.heap.size w' v (comR P A B)):=by
 have hP:=G.v;obtain⟨vo,vp,vc,rfl,h3⟩:=M;have N:=hP.n6;have g:=G.mulV hB D;have l:=G.invV g;have m:=G.mulV D hB;have k:=Lib.hid (And.intro g (And.intro l m));clear g l m;have i:Ext w (w.alloc (.cells #[vo,vp,vc] 28)):=World.grownBy_alloc _ _ _;have H:=PresP.box h3 28;have n:=ha.ext i;have p:=K.ext i;have q:(w.alloc (.cells #[vo,vp,vc] 28)).heap.size=w.heap.size+1:=by simp
 have O:=Lib.hid q;clear q ha K;go_enter Tryz.func216,Tryz.ntmps216;go_wp2;generalize I:w.alloc (.cells #[vo,vp,vc] 28)=w0 at *;clear I;obtain⟨J,dI,dG,_,_,hc0,r,u,dy⟩:=H.at;have Q:∀w',Ext w0 w'->w'.cell? ⟨w.heap.size,0,none⟩=some J:=λw' h=>h.cell hc0 (by simp);have R:∀w',Ext w0 w'->w'.cell? ⟨w.heap.size,1,none⟩=some dI:=λw' h=>h.cell (by simpa using r) (by simp);have S:∀w',Ext w0 w'->w'.cell? ⟨w.heap.size,2,none⟩=some dG:=λw' h=>h.cell (by simpa using u) (by simp);clear hc0 r u
 go_region_held3 (λw'=>Ext w0 w') (first|exact grown_drew _ _|assumption)
  (first
   | (revert e;intro e;go_at_call 240;refine Calls.mono (Calls.rel (w0:=w0) (by assumption) (l08Mul_ok P hP _ _ _ _ _ _ Any Any Any ⟨_,_,_,rfl,Pres3.ext dy (by assumption)⟩ y e k.out.2.1 k.out.2.2)) ?_;rintro T U ⟨V,rfl,gN,hsC,gz⟩)
   | (revert j;intro j;go_at_call 240;refine Calls.mono (Calls.rel2 (w0:=w0) (by assumption) (l08Mul_ok P hP _ _ _ _ A B Any E F ⟨_,_,_,rfl,Pres3.ext dy (by assumption)⟩ (Ints.ext n (by assumption)) (Ints.ext p (by assumption)) D hB)) ?_;rintro W X ⟨Y,rfl,iX,z,iL,fP⟩;have y:=(j.ext0 z).ints (by rw[k.out.2.1.1];omega);have e:=fP.ints (by rw[k.out.2.2.1];omega))
   | (go_at_call 211;refine Calls.mono (Calls.rel (w0:=w0) (by assumption) (l10Inv_ok P hP _ _ _ _ Any Any ⟨_,_,_,rfl,Pres3.ext dy (by assumption)⟩ C k.out.1)) ?_;rintro Z wB ⟨vB,rfl,hgB,hsB,j⟩)
   | (go_at_call 240;refine Calls.mono (Calls.rel (w0:=w0) (by assumption) (l08Mul_ok P hP _ _ _ _ B A Any F E ⟨_,_,_,rfl,Pres3.ext dy (by assumption)⟩ (Ints.ext p (by assumption)) (Ints.ext n (by assumption)) hB D)) ?_;rintro eA wA ⟨vA,rfl,dR,eW,gw⟩;have C:=gw.ints (by rw[k.out.1.1];omega)))
 clear Q R S;go_wp2;go_ret;exact⟨_,rfl,grown_trans i gN,gz.weak (by have:=O.out;omega)⟩
theorem l01Mod_ok (a m:Int) (w:World) (h1:0<=a) (b:a<m) :
  Calls Tryz.prog 283 #[.int .i64 a,.int .i64 m] w λe w'=>e=.returned (.int .i64 a)/\w=w':=by
 have j:a.tmod m=a:=Int.tmod_eq_of_lt h1 b;have g:m≠0:=by omega
 have i:(m == 0)=false:=by simp;omega
 go_enter Tryz.func283,Tryz.ntmps283;go_wp2;go_ret;exact⟨rfl,rfl⟩
theorem inv_ex {a m:Int}(b:m=2\/m=3\/m=5\/m=7) (h1:1<=a) (e:a<m):∃y:Int,1<=y/\y<m/\(a*y)%m=1:=by
 rcases b with rfl|rfl|rfl|rfl
 ·have:a=1:=by omega
  subst this;exact⟨1,by decide,by decide,by decide⟩
 ·rcases (show a=1\/a=2 by omega) with rfl|rfl
  ·exact⟨1,by decide,by decide,by decide⟩
  ·exact⟨2,by decide,by decide,by decide⟩
 ·rcases (show a=1\/a=2\/a=3\/a=4 by omega) with rfl|rfl|rfl|rfl
  ·exact⟨1,by decide,by decide,by decide⟩
  ·exact⟨3,by decide,by decide,by decide⟩
  ·exact⟨2,by decide,by decide,by decide⟩
  ·exact⟨4,by decide,by decide,by decide⟩
 ·rcases (show a=1\/a=2\/a=3\/a=4\/a=5\/a=6 by omega) with rfl|rfl|rfl|rfl|rfl|rfl
  ·exact⟨1,by decide,by decide,by decide⟩
  ·exact⟨4,by decide,by decide,by decide⟩
  ·exact⟨5,by decide,by decide,by decide⟩
  ·exact⟨2,by decide,by decide,by decide⟩
  ·exact⟨3,by decide,by decide,by decide⟩
  ·exact⟨6,by decide,by decide,by decide⟩
theorem l01Inv_ok (a m:Int) (w:World) (u:m=2\/m=3\/m=5\/m=7) (h1:1<=a) (g:a<m) :
  Calls Tryz.prog 215 #[.int .i64 a,.int .i64 m] w (Ret w λ_ v=>∃k:Int,v=.int .i64 k/\0<=k/\k<m/\(k*a)%m=1):=by
 have i:=inv_ex u h1 g;have A:=Lib.hid i;clear i;have j:2<=m/\m<=7:=by omega
 obtain⟨B,j⟩:=j;clear u;have b:=l01Mod_ok a m w (by omega) g;go_enter Tryz.func215,Tryz.ntmps215;go_wp2;go_loopw [5] (λp wr=>∃x:Int,p=.int .i64 x/\1<=x/\x<=m/\w=wr/\Hid (∀y,1<=y->y<x->(a*y)%m≠1)) (λp _=>(m-intOf p).toNat)
 case atStart=>exact⟨1,rfl,by omega,by omega,rfl,Lib.hid (λy h1 g=>by omega)⟩
 case round=>
  obtain⟨x,rfl,hx1,hxm,rfl,z⟩:=hrel;by_cases q:x<m
  ·have l:0<=a*x:=Int.mul_nonneg (by omega) (by omega)
   have C:a*x<=7*7:=Int.mul_le_mul (by omega) (by omega) (by omega) (by omega);have H:IntKind.i64.wrap (a*x)=a*x:=IntWalk.i64_in _ (by omega);have I:(a*x).tmod m=(a*x)%m:=Int.tmod_eq_emod_of_nonneg l;have D:(m == 0)=false:=by simp;omega
   by_cases e:(a*x)%m=1
   ·have E:((a*x)%m == 1)=true:=by simp[e]
    have n:(x*a)%m=1:=by rw[Int.mul_comm];exact e
    have r:=Lib.hid n;clear e n;go_wp2_with fail
    refine Calls.mono b ?_;rintro F G ⟨rfl,rfl⟩;clear b;go_wp2;go_ret;exact⟨_,rfl,Ext.refl _,x,rfl,by omega,q,r.out⟩
   ·have E:((a*x)%m == 1)=false:=by simp[e]
    have r:=Lib.hid e;clear e;go_wp2_with fail
    refine Calls.mono b ?_;rintro F G ⟨rfl,rfl⟩;clear b;go_wp2;go_roundw
    case rel=>exact⟨x+1,by go_num,by omega,by omega,trivial,Lib.hid (λy h1 g=>by
     by_cases hy:y=x
     ·rw[hy];exact r.out
     ·exact z.out y h1 (by omega))⟩
    case measure=>simp[intOf];omega
  ·obtain ⟨y,h1,g,h3⟩:=A.out
   exact absurd h3 (z.out y h1 (by omega))
end Go.Proofs.YtdcobapnlpeaaaaGreat
namespace Go.Proofs.YtdcobapnlpeaaaaGreat
open Go.RowKit
attribute [local go_sem ↓] Go.wp_at_zero Go.wp_at_succ
theorem Dl {P:Pr}{N:Nat}(h:Shp N P) (b:N<=1000):(∀x∈P.powers,x.length<=1000000)/\P.powers.length<=1000000/\P.conj.length<=1000000/\(∀i,i<P.conj.length->(∀x∈gt P.conj i,x.length<=1000000)/\(gt P.conj i).length<=1000000):=by
 have e:=h.n;refine⟨λx hx=>by have:=h.pv x hx;omega,by rw[h.p];omega,by rw[h.c];omega,λi a=>⟨λx hx => ?_,?_⟩⟩
 ·have:=h.cv _ (by rw[gt_eq _ i a];exact List.getElem_mem a) x hx
  omega
 ·rw[h.cl i (by rw[<-h.c];exact a)];omega
def xK (w0:World) (P:Pr) (q:Value) (e:World):Prop:=∃b a n c a2 g c2,q=.pointer (some ⟨b,0,none⟩)/\w0.heap.size<=b/\Ext w0 e/\Box3 e b (.slice a n c) (.slice a2 g c2) (.slice none 0 0) /\
 PresX (λk=>w0.heap.size<=k/\k≠b) e (.slice a n c) (.slice a2 g c2) (.slice none 0 0) ⟨P.orders,P.powers,[]⟩
theorem rQ {w0 g:World}{P:Pr}{b n c i c2 a1 a2 b1 b2:Nat}{a a':Option Addr}(j:w0.heap.size<=b) (l:Ext w0 g) (hB:Box3 g b (.slice a n c) (.slice a' i c2) (.slice none 0 0))
  (m:OwnIn (λk=>a1<=k/\k<a2) g (.slice a n c) P.orders) (p:RowsI (λk=>b1<=k/\k<b2) g (.slice a' i c2) P.powers)
  (h1:w0.heap.size<=a1) (u:w0.heap.size<=b1) (v:a2<=b1\/b2<=a1) (q:¬(a1<=b/\b<a2)) (r:¬(b1<=b/\b<b2)):xK w0 P (.pointer (some ⟨b,0,none⟩)) g:=
 ⟨b,a,n,c,a',i,c2,rfl,j,l,hB,λk=>a1<=k/\k<a2,λk=>b1<=k/\k<b2,λ_=>False,m,p,⟨[],λ_ _=>False,rfl,by simp,World.ownsRow_nil _ _ _ _,by simp[Value.ownBlock],by simp,by simp,by simp⟩,
  λk hk=>⟨⟨by omega,λe=>q (e▸hk)⟩,λe=>by omega,λe=>e⟩,λk hk=>⟨⟨by omega,λe=>r (e▸hk)⟩,λe=>e⟩,λk hk=>hk.elim⟩
theorem pZ (w:World) (pv:Value) (P:Pr) (S:Nat->Prop) (N:Nat) (hp:PresV S w pv P) (hS:Shp N P) (hN:N<=1000) :
  Calls Tryz.prog 293 #[pv] w (Ret w (PresR w.heap.size P)):=by
 obtain⟨vo,vp,vc,rfl,h3⟩:=hp;obtain⟨O,l,ig,_,_⟩:=h3.o.shape;obtain⟨ap,m,hvp,_,_⟩:=Sl.shape h3.p;obtain⟨Q,g,fM,_,_⟩:=Sl.shape h3.c;subst ig hvp fM;have ai:Ext w ((w.alloc (.cells #[.slice O P.orders.length l,.slice ap P.powers.length m,.slice Q P.conj.length g] 28)).alloc (.cells #[.slice none 0 0,.slice none 0 0,.slice none 0 0] 28)):=grown_trans (World.grownBy_alloc _ _ _) (World.grownBy_alloc _ _ _);have aj:=(Box3.made w 28 (.slice O P.orders.length l) (.slice ap P.powers.length m) (.slice Q P.conj.length g)).ext (World.grownBy_alloc _ (.cells #[.slice none 0 0,.slice none 0 0,.slice none 0 0] 28) _);have R:=Box3.made (w.alloc (.cells #[.slice O P.orders.length l,.slice ap P.powers.length m,.slice Q P.conj.length g] 28)) 28 (.slice none 0 0) (.slice none 0 0) (.slice none 0 0);have ak:(w.alloc (.cells #[.slice O P.orders.length l,.slice ap P.powers.length m,.slice Q P.conj.length g] 28)).heap.size=w.heap.size+1:=by simp
 have T:((w.alloc (.cells #[.slice O P.orders.length l,.slice ap P.powers.length m,.slice Q P.conj.length g] 28)).alloc (.cells #[.slice none 0 0,.slice none 0 0,.slice none 0 0] 28)).heap.size=w.heap.size+2:=by simp
 rw[ak] at R;have hb:=Dl hS hN;have hn:=hS.n;have y:=Lib.hid (And.intro aj (And.intro R (And.intro T (And.intro hb (And.intro hS hn)))));clear aj R ak T hb hn;go_enter Tryz.func293,Tryz.ntmps293;go_wp2_with fail
 generalize (w.alloc (.cells #[.slice O P.orders.length l,.slice ap P.powers.length m,.slice Q P.conj.length g] 28)).alloc (.cells #[.slice none 0 0,.slice none 0 0,.slice none 0 0] 28)=w0 at *;have U:=h3.ext ai;have e0:∀w',Ext w0 w'->w'.cell? ⟨w.heap.size,0,none⟩=some (.slice O P.orders.length l):=λw' h=>(y.out.1.ext h).2.1;have e1:∀w',Ext w0 w'->w'.cell? ⟨w.heap.size,1,none⟩=some (.slice ap P.powers.length m):=λw' h=>(y.out.1.ext h).2.2.1;go_cut [3] (λqv wx=>xK w0 P qv wx)
 case first=>
  go_region_held3 (λw'=>Ext w0 w') (first|exact grown_drew _ _|assumption|exact grown_trans (by assumption) (World.grownBy_alloc _ _ _)|exact grown_own (by assumption) (grown_set3 _ _ _ _ _) (λj V a=>by cases V;first|(have:=dR.size;omega)|(have:=hgB.size;omega)|(simp at a)))
   (first
    | (go_at_call 213;refine Calls.mono (Calls.rel2 (w0:=w0) (by assumption) (l01Own2_ok _ _ P.powers S (Rows2.ext U.p (by assumption)) y.out.2.2.2.1.1 y.out.2.2.2.1.2.1)) ?_;rintro eB W ⟨vB,rfl,hgB,q,hsB,H⟩;obtain⟨aB,r,mR,_,_⟩:=SlD.shape (H.toD (by have:=y.out.2.2.2.1.2.1;omega));subst mR;(try have B:=Box3.ext B q);(first|(have B:Box3 _ w0.heap.size _ _ _:=Box3.ext (Box3.made w0.drew _ _ _ _) q)|(have B:=Box3.ext (Box3.made _ _ _ _ _) q)|skip);(try obtain⟨f0,f1,f2,f3,f4⟩:=id B))
    | (go_at_call 199;refine Calls.mono (Calls.rel2 (w0:=w0) (by assumption) (l01Own_ok _ _ P.orders S (Ints.ext U.o (by assumption)) (by have:=y.out.2.2.2.2.2;omega))) ?_;rintro eA F ⟨vA,rfl,dR,C,eW,I⟩;obtain⟨aA,u,rR,_⟩:=(I.ints (by have:=y.out.2.2.2.2.2;omega)).shape;subst rR;(try have B:=Box3.ext B C);(first|(have B:Box3 _ w0.heap.size _ _ _:=Box3.ext (Box3.made w0.drew _ _ _ _) C)|(have B:=Box3.ext (Box3.made _ _ _ _ _) C)|skip);(try obtain⟨f0,f1,f2,f3,f4⟩:=id B)))
  all_goals (try go_wp2_with fail)
  all_goals go_meet
  all_goals
   have bf:=dR.size;have bg:=q.size;have bh:=y.out.2.2.2.2.2;have bi:=y.out.2.2.2.1.2.1
  ·have D:=Box3.made W 28 (.slice aA P.orders.length u) (.slice aB P.powers.length r) (.slice none 0 0)
   have b:=World.grownBy_alloc W (.cells #[.slice aA P.orders.length u,.slice aB P.powers.length r,.slice none 0 0] 28) none
   refine rQ (a1:=w0.heap.size) (a2:=F.heap.size) (b1:=F.heap.size) (b2:=W.heap.size) (by omega) (grown_trans (by assumption) b) D
       (rdOwn.mono (OwnIn.of I (by omega) (λk h1 A=>⟨h1,A⟩)) (λk hk a=>⟨hk,by have:=b.size;omega,(b.block k (by omega) (by simp)).trans (q.block k a (by simp))⟩))
       (rdRowsI.mono (SlI.of H (by omega) (λk h1 A=>⟨h1,A⟩)) (λk hk a=>⟨hk,by have:=b.size;omega,b.block k a (by simp)⟩)) (by omega) (by omega) (by omega) (by omega) (by omega)
  ·have D:=B.all (.slice aA P.orders.length u) (.slice aB P.powers.length r) (.slice none 0 0)
   have b:=grown_set3 W F.heap.size (.slice aA P.orders.length u) (.slice aB P.powers.length r) (.slice none 0 0);have aN:=grown_trans (World.grownBy_alloc F (.cells #[.slice none 0 0,.slice none 0 0,.slice none 0 0] 28) none) q;have aO:(F.alloc (.cells #[.slice none 0 0,.slice none 0 0,.slice none 0 0] 28)).heap.size=F.heap.size+1:=by simp
   refine rQ (a1:=w0.heap.size) (a2:=F.heap.size) (b1:=F.heap.size+1) (b2:=W.heap.size) (by omega) (by assumption) D
       (rdOwn.mono (OwnIn.of I (by omega) (λk h1 A=>⟨h1,A⟩)) (λk hk a=>⟨hk,by have:=b.size;omega,(b.block k (by omega) (λe=>by cases e;omega)).trans (aN.block k (by omega) (by simp))⟩))
       (rdRowsI.mono (SlI.of H (by omega) (λk h1 A=>⟨by rw[<-aO];exact h1,A⟩)) (λk hk a=>⟨hk,by have:=b.size;omega,b.block k a (λe=>by cases e;omega)⟩)) (by omega) (by omega) (by omega) (by omega) (by omega)
  ·have D:=B.all (.slice aA P.orders.length u) (.slice aB P.powers.length r) (.slice none 0 0)
   have b:=grown_set3 W w0.heap.size (.slice aA P.orders.length u) (.slice aB P.powers.length r) (.slice none 0 0);have bj:=B.1
   refine rQ (a1:=w0.heap.size+1) (a2:=F.heap.size) (b1:=F.heap.size) (b2:=W.heap.size) (by omega) (by assumption) D
       (rdOwn.mono (OwnIn.of I (by omega) (λk h1 A=>⟨by simpa using h1,A⟩)) (λk hk a=>⟨hk,by have:=b.size;omega,(b.block k (by omega) (λe=>by cases e;omega)).trans (q.block k a (by simp))⟩))
       (rdRowsI.mono (SlI.of H (by omega) (λk h1 A=>⟨h1,A⟩)) (λk hk a=>⟨hk,by have:=b.size;omega,b.block k a (λe=>by cases e;omega)⟩)) (by omega) (by omega) (by omega) (by omega) (by omega)
 case rest=>
  obtain⟨J,a1,n1,c1,a2,n2,c2,rfl,EO,hg1,xL,hX1⟩:=hcut;clear e0 e1;go_wp2
  go_loopw [4] (λiv wr=>∃(i:Nat) (vc:Value),iv=.int .i64 i/\i<=P.conj.length/\Ext w0 wr/\Box3 wr J (.slice a1 n1 c1) (.slice a2 n2 c2) vc /\
   PresX (λk=>w0.heap.size<=k/\k≠J) wr (.slice a1 n1 c1) (.slice a2 n2 c2) vc ⟨P.orders,P.powers,P.conj.take i⟩) (λiv _=>P.conj.length-(intOf iv).toNat)
  case atStart=>exact⟨0,_,rfl,by omega,hg1,xL,hX1⟩
  case round=>
   clear xL hX1 hg1;obtain⟨i,vc,rfl,hi,M,hB,hX⟩:=hrel;have e2:∀w',Ext wr w'->w'.cell? ⟨w.heap.size,2,none⟩=some (.slice Q P.conj.length g):=λw' h=>(y.out.1.ext (grown_trans M h)).2.2.2.1;have e3:=e2 wr (grown_refl _ _);by_cases a:i<P.conj.length
   ·have aX:(i:Int)<P.conj.length:=by omega
    obtain⟨Fo,Fp,Fc,hP⟩:=hX.part;obtain⟨_,_,_,X,Y,c3,_,rfl,_,rS⟩:=hX.sh2
    have am:(Value.slice X Y c3).ownBlock≠some J:=by
     obtain⟨_,_,_,_,_,q1,_⟩:=hP.c;exact λe=>(hP.dc _ (q1 _ e)).2 rfl
    obtain⟨bc,oc,ag,an,rfl,_,EP,Z,lQ⟩:=Rows3.at U.c i a;have aq:=Z;have aa:=Rows2.ext lQ M;clear lQ
    have ar:∀k,(Value.slice X Y c3).ownBlock=some k->w0.heap.size<=k:=by
     obtain⟨_,_,_,_,_,q1,_⟩:=hP.c;exact λk e=>(hP.dc _ (q1 _ e)).1
    have ab:=y.out.2.2.2.1.2.2.2 i a;have z:=take_succ_gt P.conj i a;have au:(P.conj.take i).length<=1000000:=by rw[List.length_take];have:=y.out.2.2.2.1.2.2.1;omega
    obtain⟨G,hG⟩:∃G,G=gt P.conj i:=⟨_,rfl⟩;rw[<-hG] at aa ab z aq Z;have K:=Lib.hid (And.intro z (And.intro au (And.intro am (And.intro ab (And.intro aa ar)))));clear z au ab aa hG rS ar am aq;have r2:∀w',Ext w0 w'->w'.cell? ⟨bc,oc+i,none⟩=some (.slice ag G.length an):=λw' h=>h.cell Z (by simp);have r4:∀w',Ext w0 w'->w'.cell? ⟨w.heap.size,2,none⟩=some (.slice (some ⟨bc,oc,none⟩) P.conj.length g):=λw' h=>(y.out.1.ext h).2.2.2.1;have r3:∀w',Ext wr w'->w'.cell? ⟨J,2,none⟩=some (.slice X Y c3):=λw' h=>(hB.ext h).2.2.2.1;have f3:=r3 wr.drew (grown_drew _ _);clear e2;go_wp2;clear e3;have f2:=r2 wr.drew (grown_trans M (grown_drew _ _));have f4:=r4 wr.drew (grown_trans M (grown_drew _ _));clear r2 r4
    go_region_law (first
      | (go_simp;go_at_call 213;refine Calls.mono (l01Own2_ok _ _ G S (Rows2.ext K.out.2.2.2.2.1 (grown_drew _ _)) K.out.2.2.2.1.1 K.out.2.2.2.1.2) ?_;rintro eG wG ⟨vG,rfl,aS,av⟩;obtain⟨aG,aw,rP,_,_⟩:=SlD.shape (av.toD (by have:=K.out.2.2.2.1.2;omega));subst rP;have E:Ext wr wG:=grown_trans (grown_drew _ _) aS;have g3:=r3 wG E;have g4:=r3 (wG.alloc (.cells #[.slice aG G.length aw] 25)) (grown_trans E (World.grownBy_alloc _ _ _)))
      | (refine step_app_I (rdI rdOwn) 26 (.slice none 0 0) 24 und_rows3 Tryz.infoRows rfl (by decide) (by rfl) _ _ (by rfl) Fc wr wG _ _ (P.conj.take i) G (by rfl) hP.c E (SlI.of av (by have:=K.out.2.2.2.1.2;omega) (λk h _=>h)) (by rfl) (by rfl) K.out.2.1 ?_;intro v8 w8 ax L bp;obtain⟨g8,m8,k8,rfl,rM⟩:=SlI.sl ax;clear rM;have aD:=Box3.keep hB L.size (L.block _ hB.1 (λe=>K.out.2.2.1 e.symm));have aE:Ext w0 w8:=grown_own M L (λj V a=>by have:=K.out.2.2.2.2.2 _ V;omega);obtain⟨f80,f81,f82,f83,f84⟩:=id aD))
    all_goals
     have aF:Ext w0 (w8.setCell ⟨J,2,none⟩ (.slice g8 m8 k8)):=grown_own aE (grown_set1 _ _ _ _) (λj V a=>by cases V;omega);have aT:=(aD.put (.slice g8 m8 k8)).2.2;have aH:=hP.newC ax L;rw[<-K.out.1] at aH
     have aI:PresX (λk=>w0.heap.size<=k/\k≠J) (w8.setCell ⟨J,2,none⟩ (.slice g8 m8 k8)) (.slice a1 n1 c1) (.slice a2 n2 c2) (.slice g8 m8 k8) ⟨P.orders,P.powers,P.conj.take (i+1)⟩:=
      aH.mono (frame_of (grown_set w8 J 2 (.slice g8 m8 k8)) (λk hk a=>by
       have bq:(w0.heap.size<=k/\k≠J)\/wr.heap.size<=k:=hk;have h1:=hB.1;have A:=M.size;exact⟨by omega,λe=>by cases e;omega⟩))
     clear f80 f81 f82 f83 f84 f3 g3 g4 f2 f4 r3;go_wp2;go_roundw
     case rel=>exact⟨i+1,_,by go_num,by omega,aF,aT,aI⟩
     case measure=>simp[intOf];omega
   ·have aU:i=P.conj.length:=by omega
    subst aU;rw[List.take_length] at hX;clear e2;obtain⟨_,_,_,X,Y,c3,_,rfl,hn2,rS⟩:=hX.sh2;clear hn2 rS;have hz:=y.out.2.1.ext M;obtain⟨h0,h1,A,h3',h4⟩:=id hB;obtain⟨k0,k1,k2,k3,k4⟩:=id hz;have hZ:=hz.all (.slice a1 n1 c1) (.slice a2 n2 c2) (.slice X Y c3);have hT:=grown_set3 wr (w.heap.size+1) (.slice a1 n1 c1) (.slice a2 n2 c2) (.slice X Y c3);obtain⟨_,z0,z1,z2,_⟩:=id hZ;have HT:=Lib.hid hT;clear hT hZ;go_wp2;refine bodyPost_ret (v := .agg #[.slice a1 n1 c1,.slice a2 n2 c2,.slice X Y c3]) (by simp[results,Tryz.results293,go_sem,z0,z1,z2]) rfl ?_;have T:=y.out.2.2.1;exact⟨_,rfl,grown_own (grown_trans ai M) HT.out (λj V a=>by cases V;omega),_,_,_,rfl,hX.mono (frame_of HT.out (λk hk _=>⟨by show w.heap.size<=k;omega,λe=>by cases e;omega⟩))⟩
def Sm (l:List Int):Prop:=∀x∈l,0<=x/\x<=7
theorem Sm.at {l:List Int}(h:Sm l) {i:Nat}(a:i<l.length):0<=gt l i/\gt l i<=7:=h _ (by rw[gt_eq l i a];exact List.getElem_mem a)
theorem Sm.set {l:List Int}(h:Sm l) (i:Nat) {x:Int}(hx:0<=x/\x<=7):Sm (l.set i x):=λy hy=>by
 rcases List.mem_or_eq_of_mem_set hy with a|a
 ·exact h y a
 ·rw[a];exact hx
theorem pS (x:Int) (h:0<=x/\x<=1000):wrap64 x=x:=IntWalk.wrap64_in _ (by omega)
theorem pT (x:Int) (h:0<=x/\x<=1000):IntKind.i64.wrap x=x:=IntWalk.i64_in _ (by omega)
theorem Dm {a b:Int}(ha:0<=a/\a<=7) (e:0<=b/\b<=7):0<=a*b/\a*b<=49:=
 ⟨Int.mul_nonneg ha.1 e.1,Int.le_trans (Int.mul_le_mul ha.2 e.2 e.1 (by decide)) (by decide)⟩
theorem Dn (w:World) (p:Int) (vv rv:Value) (v:List Int) (R:List (List Int)) (c:Nat) (S S':Nat->Prop) (hv:Ints S w vv v) (hr:Rows2 S' w rv R) (hp:1<=p/\p<=7) (L:Sm v) (M:∀x∈R,Sm x) (hc:c<=100) :
  Calls Tryz.prog 366 #[.int .i64 p,vv,rv,.int .i64 c] w (Ret w λw' r=>∃l,l.length=c/\Sm l/\Own w.heap.size w' r l):=by
 obtain⟨av,capv,rfl,_,_⟩:=hv.shape;obtain⟨ar,capr,rfl,_,_⟩:=Sl.shape hr;have HV:=Lib.hid (And.intro L M);clear L M;go_enter Tryz.func366,Tryz.ntmps366;go_wp2_with (at_make;refine wp_make_ints rfl _ _ rfl w.heap.size c w.heap.size rfl _ rfl rfl rfl (by omega) (Nat.le_refl _) ?_;intro w1 N O ay)
 go_loopw [10] (λiv wr=>∃(i:Nat) (l:List Int),iv=.int .i64 i/\i<=v.length/\l.length=c/\Sm l/\Ext w wr/\Own w.heap.size wr (.slice (some ⟨w.heap.size,0,none⟩) c c) l) (λiv _=>v.length-(intOf iv).toNat)
 case atStart=>exact⟨0,_,rfl,by omega,by simp,by intro x hx;rw[List.eq_of_mem_replicate hx];omega,O,N⟩
 case round=>
  clear N O;obtain⟨i,l,rfl,hi,g,e,q,hO⟩:=hrel;by_cases B:i<v.length
  ·have P:(i:Int)<v.length:=by omega
   by_cases C:i<R.length
   ·have Q:(i:Int)<R.length:=by omega
    obtain⟨br,or,a2,cap2,rfl,_,_,u,D⟩:=Rows2.at hr i C;have T:=HV.out.1.at B;have E:Sm (gt R i):=HV.out.2 _ (by rw[gt_eq R i C];exact List.getElem_mem C);obtain⟨z,hz⟩:∃z,z=gt R i:=⟨_,rfl⟩;rw[<-hz] at u D E;have HR:=Lib.hid (And.intro E (And.intro T hz));clear E T hz;have HL:=Lib.hid (And.intro g e);clear g e;have m:=q.cell u (by simp);go_wp2;clear m;go_loopw [11] (λjv wx=>∃(j:Nat) (l:List Int),jv=.int .i64 j/\j<=z.length/\l.length=c/\Sm l/\Ext w wx/\Own w.heap.size wx (.slice (some ⟨w.heap.size,0,none⟩) c c) l) (λjv _=>z.length-(intOf jv).toNat)
    case atStart=>exact⟨0,l,rfl,by omega,HL.out.1,HL.out.2,q,hO⟩
    case round=>
     clear hO q HL;obtain⟨j,l,rfl,hj,g,e,q,hO⟩:=hrel;have m:=q.cell u (by simp);by_cases aB:j<c
     ·have F:(j:Int)<c:=by omega
      by_cases y:j<z.length
      ·have G:(j:Int)<z.length:=by omega
       obtain⟨bz,oz,rfl,_,_,H⟩:=Ints.at (Ints.ext D q) j y;obtain⟨bv,ov,rfl,_,_,I⟩:=Ints.at (Ints.ext hv q) i B;have J:=hO.cell j (by omega);have U:=hO.frozen j;have ha:=HR.out.2.1;have hb:=HR.out.1.at y;have hx:=e.at (show j<l.length by omega);obtain⟨a,V⟩:∃a,a=gt v i:=⟨_,rfl⟩;obtain⟨b,W⟩:∃b,b=gt z j:=⟨_,rfl⟩;obtain⟨x,X⟩:∃x,x=gt l j:=⟨_,rfl⟩;rw[<-V] at ha I;rw[<-W] at hb H;rw[<-X] at hx J;have aj:=Dm ha hb;obtain⟨ab,n⟩:∃ab,ab=a*b:=⟨_,rfl⟩;rw[<-n] at aj;have ak:0<=(x+ab)%p:=Int.emod_nonneg _ (by omega);have aF:(x+ab)%p<p:=Int.emod_lt_of_pos _ (by omega);obtain⟨Y,hgs⟩:=hO.store j ((x+ab)%p);have A:=e.set j (x:=(x+ab)%p) ⟨ak,by omega⟩;have Z:=grown_own q hgs (λk hk B=>by cases hk;omega);clear V W X;have aG:p≠0:=by omega
       have aa:(l.set j ((x+ab)%p)).length=c:=by rw[List.length_set];exact g
       have al:=pT (x+ab) (by omega);have am:IntKind.i64.wrap (a*b)=ab:=by rw[<-n];exact pT ab (by omega)
       have an:wrap64 (a*b)=ab:=by rw[<-n];exact pS ab (by omega)
       have ao:=pS (x+ab) (by omega);have c1:wr.drew.cell? ⟨w.heap.size,j,none⟩=some (.int .i64 x):=J;have c2:wr.drew.cell? ⟨bv,ov+i,none⟩=some (.int .i64 a):=I;have c3:wr.drew.cell? ⟨br,or+i,none⟩=some (.slice (some ⟨bz,oz,none⟩) z.length cap2):=m;have c4:wr.drew.cell? ⟨bz,oz+j,none⟩=some (.int .i64 b):=H;have c5:wr.drew.frozen? ⟨w.heap.size,j,none⟩=false:=U;clear J I H U n hO;have ac:=Y.ext0 (grown_drew (wr.setCell ⟨w.heap.size,j,none⟩ (.int .i64 ((x+ab)%p))) none);have ad:=grown_trans Z (grown_drew (wr.setCell ⟨w.heap.size,j,none⟩ (.int .i64 ((x+ab)%p))) none);have HQ:=Lib.hid (And.intro ac (And.intro ad (And.intro A aa)));clear Y hgs Z A aa ac ad;go_wp2;clear m;go_still_tail 22,(by kernel_rfl)
       change wpList _ _ _ _ _ wr.drew;clear u D;go_wp2;clear am al an ao;go_roundw
       case rel=>exact⟨j+1,_,by go_num,by omega,HQ.out.2.2.2,HQ.out.2.2.1,HQ.out.2.1,HQ.out.1⟩
       case measure=>simp[intOf];omega
      ·have G:¬((j:Int)<z.length):=by omega
       have K:=q;go_wp2;go_roundw
       case rel=>exact⟨i+1,l,by go_num,by omega,g,e,K,hO⟩
       case measure=>simp[intOf];omega
     ·have F:¬((j:Int)<c):=by omega
      have K:=q;go_wp2;go_roundw
      case rel=>exact⟨i+1,l,by go_num,by omega,g,e,K,hO⟩
      case measure=>simp[intOf];omega
   ·have Q:¬((i:Int)<R.length):=by omega
    go_wp2;go_ret;exact⟨_,rfl,q,l,g,e,hO⟩
  ·have P:¬((i:Int)<v.length):=by omega
   go_wp2;go_ret;exact⟨_,rfl,q,l,g,e,hO⟩
def iD (c:Nat) (R:List (List Int)):Prop:=∀x∈R,x.length=c/\Sm x
theorem yt (w:World) (p:Int) (J K:Value) (A R:List (List Int)) (c:Nat) (S S':Nat->Prop) (ha:Rows2 S w J A) (M:Rows2 S' w K R) (T:1<=p/\p<=7) (N:iD c A) (O:iD c R) (U:c<=100) (hl:A.length<=100) :
  Calls Tryz.prog 350 #[.int .i64 p,J,K,.int .i64 c] w (Ret w λw' r=>∃L,L.length=A.length/\iD c L/\RowsO w.heap.size w' r L):=by
 obtain⟨aa,capa,rfl,_,_⟩:=Sl.shape ha;obtain⟨ar,capr,rfl,_,_⟩:=Sl.shape M;have P:=Lib.hid (And.intro N O);clear N O;go_enter Tryz.func350,Tryz.ntmps350;go_wp2;go_loopw [9,10] (λV F wr=>∃(i:Nat) (v4:Value) (L:List (List Int)),v4=V/\F=.int .i64 i/\i<=A.length/\L.length=i/\iD c L/\Ext w wr/\RowsO w.heap.size wr v4 L) (λ_ F _=>A.length-(intOf F).toNat)
 case atStart=>exact⟨0,_,[],rfl,rfl,by omega,rfl,(λx hx=>by cases hx),World.grownBy_alloc _ _ _,[],λ_ _=>False,rfl,World.ownsRow_lit w #[] 0 (Nat.le_refl _) (by decide) rfl,by simp,by simp,by simp⟩
 case round=>
  obtain⟨i,v4,L,rfl,rfl,hi,a,e,m,hO⟩:=hrel;by_cases n:i<A.length
  ·have q:(i:Int)<A.length:=by omega
   obtain⟨b,off,a2,cap2,rfl,_,_,hcc,G⟩:=Rows2.at (Rows2.ext ha m) i n;have u:=P.out.1 _ (gtMem n);have v:∀x∈R,Sm x:=λx hx=>(P.out.2 x hx).2;have g:=Dn wr p _ _ (gt A i) R c _ _ G (Rows2.ext M m) T u.2 v U;have y:L.length<=1000000:=by omega
   have k:=Lib.hid (And.intro a (And.intro e y));clear a e y u v;go_wp2_with fail
   refine Calls.mono g ?_;rintro eC Q ⟨W,rfl,gN,l,z,B,gz⟩;clear g;have C:OwnIn (From wr.heap.size) Q W l:=OwnIn.of gz (by omega) (λj h1 _=>h1);obtain⟨ay,capy,gK,_,_⟩:=C.ints.shape;subst gK;have X:=Lib.hid (And.intro z B);clear hcc z B;go_wp2_with (first|(at_builtin;refine wp_app_row rfl _ _ rfl w.heap.size wr Q v4 _ L l rfl hO gN C rfl rfl k.out.2.2 m.size ?_;intro Y w5 H I Z;have D:=hO.extw m (Nat.le_refl _) I)|fail)
   go_roundw
   case rel=>exact⟨i+1,Y,L++[l],rfl,by go_num,by omega,by rw[List.length_append,k.out.1];rfl,λx hx=>by
    rcases List.mem_append.1 hx with h|h
    ·exact k.out.2.1 x h
    ·rw[List.mem_singleton.1 h];exact X.out,D,H⟩
   case measure=>simp[intOf];omega
  ·have E:i=A.length:=by omega
   obtain⟨az,capz,fk,_,_⟩:=SlD.shape (hO.toD (by omega));subst fk;have q:¬((i:Int)<A.length):=by omega
   have k:=Lib.hid (And.intro a (And.intro e E));clear a e E;go_wp2;go_ret;exact⟨_,rfl,m,L,by rw[k.out.1,k.out.2.2],k.out.2.1,hO⟩
def rT (n:Nat) (w:List Int):Prop:=∀x∈w,x≠0 /\ -n<=x/\x<=n
def Dp (n M B:Nat) (w':World) (v:Value):Prop:=∃(a:Option Addr) (k c:Nat) (r:Bool),v=.tuple #[.slice a k c,.bool r]/\(r=true->∃l,l.length=n/\k=n/\(∀x∈l,0<=x/\x<=(M:Int))/\Own B w' (.slice a k c) l)
theorem xM (x:Int) (h:0<=x/\x<=100000):IntKind.i64.wrap x=x:=IntWalk.i64_in _ (by omega)
theorem xN (x:Int) (h:0<=x/\x<=100000):wrap64 x=x:=IntWalk.wrap64_in _ (by omega)
theorem Dq (w:World) (n:Nat) (T:Value) (L:List Int) (S:Nat->Prop) (U:Ints S w T L) (V:rT n L) (hn:n<=100) (hl:L.length<=1000) :
  Calls Tryz.prog 361 #[.int .i64 n,T] w (Ret w (Dp n L.length w.heap.size)):=by
 obtain⟨al,capl,rfl,_,_⟩:=U.shape;have Z:=Lib.hid V;clear V;go_enter Tryz.func361,Tryz.ntmps361;go_wp2_with (at_make;refine wp_make_ints rfl _ _ rfl w.heap.size n w.heap.size rfl _ rfl rfl rfl (by omega) (Nat.le_refl _) ?_;intro w1 A B W)
 go_loopw [7] (λO wr=>∃(i:Nat) (l:List Int),O=.int .i64 i/\i<=L.length/\l.length=n/\(∀x∈l,0<=x/\x<=i)/\Ext w wr/\Own w.heap.size wr (.slice (some ⟨w.heap.size,0,none⟩) n n) l) (λO _=>L.length-(intOf O).toNat)
 case atStart=>exact⟨0,_,rfl,by omega,by simp,(λx hx=>by rw[List.eq_of_mem_replicate hx];omega),B,A⟩
 case round=>
  clear A B;obtain⟨i,l,rfl,hi,g,a,N,hO⟩:=hrel;by_cases r:i<L.length
  ·have X:(i:Int)<L.length:=by omega
   obtain⟨b,off,rfl,_,_,P⟩:=Ints.at (Ints.ext U N) i r;have hx:=Z.out _ (gtMem r);obtain⟨x,C⟩:∃x,x=gt L i:=⟨_,rfl⟩;rw[<-C] at P hx;clear C;by_cases Y:x<0
   ·have Q:=Lib.hid (And.intro g (And.intro a hx));clear g a hx
    go_wp2;exact bodyPost_ret (v := .tuple #[.slice none 0 0,.bool false]) (by simp[results,Tryz.results361,go_sem]) rfl ⟨_,rfl,N,none,0,0,false,rfl,λh=>by cases h⟩
   ·obtain ⟨J,Ds⟩:=Int.eq_ofNat_of_zero_le (show 0<=x-1 by omega)
    obtain rfl:x=(J:Int)+1:=by omega
    clear Ds;have hJ:J<n:=by omega
    have aa:(J:Int)<n:=by omega
    have hy:=a _ (gtMem (show J<l.length by omega));have u:=hO.cell J (by omega);have D:=hO.frozen J;obtain⟨y,E⟩:∃y,y=gt l J:=⟨_,rfl⟩;rw[<-E] at hy u;obtain⟨F,hgs⟩:=hO.store J (y+1);have G:=grown_own N hgs (λk hk r=>by cases hk;omega);have H:(l.set J (y+1)).length=n:=by rw[List.length_set];exact g
    have I:∀z∈l.set J (y+1),0<=z/\z<=((i+1:Nat):Int):=λz hz=>by
     rcases List.mem_or_eq_of_mem_set hz with h|h
     ·have:=a z h;omega
     ·omega
    have K:=F.ext0 (grown_drew (wr.setCell ⟨w.heap.size,J,none⟩ (.int .i64 (y+1))) none);have M:=grown_trans G (grown_drew (wr.setCell ⟨w.heap.size,J,none⟩ (.int .i64 (y+1))) none);have e:=xM (J:Int) (by omega);have j:=xM (y+1) (by clear e;omega);have m:=xN (J:Int) (by clear e j;omega);have p:=xN (y+1) (by clear e j m;omega);have q:=Lib.hid (And.intro K (And.intro M (And.intro H (And.intro I (And.intro e (And.intro j (And.intro m p)))))));clear K M H I e j m p hgs G F E g a hx;have c1:wr.drew.cell? ⟨w.heap.size,J,none⟩=some (.int .i64 y):=u;have c2:wr.drew.cell? ⟨b,off+i,none⟩=some (.int .i64 ((J:Int)+1)):=P;have c3:wr.drew.frozen? ⟨w.heap.size,J,none⟩=false:=D;clear u D hO;go_wp2;clear P;have e:=q.out.2.2.2.2.1;have j:=q.out.2.2.2.2.2.1;have m:=q.out.2.2.2.2.2.2.1;have p:=q.out.2.2.2.2.2.2.2;go_still_tail 16,(by kernel_rfl)
    change wpList _ _ _ _ _ wr.drew;go_wp2;clear e j m p;go_roundw
    case rel=>exact⟨i+1,_,by go_num,by omega,q.out.2.2.1,q.out.2.2.2.1,q.out.2.1,q.out.1⟩
    case measure=>simp[intOf];omega
  ·have R:i=L.length:=by omega
   subst R;have Q:=Lib.hid (And.intro g a);clear g a;go_wp2;exact bodyPost_ret (v := .tuple #[.slice (some ⟨w.heap.size,0,none⟩) n n,.bool true]) (by simp[results,Tryz.results361,go_sem]) rfl ⟨_,rfl,N,_,_,_,true,rfl,λ_=>⟨l,Q.out.1,rfl,Q.out.2,hO⟩⟩
def Dt (k M B:Nat) (w':World) (v:Value):Prop:=∃(a:Option Addr) (n c:Nat) (r:Bool),v=.tuple #[.slice a n c,.bool r]/\(r=true->∃l,l.length<=M/\n=l.length/\rT k l/\Own B w' (.slice a n c) l)
theorem Du (w:World) (k:Nat) (s:ByteArray) (hk:k<=100) (Q:s.size<=1000) :
  Calls Tryz.prog 360 #[.int .i64 k,.string s] w (Ret w (Dt k s.size w.heap.size)):=by
 rcases h1:(s.toList == [49]) with _|_
 case' true=>
  go_enter Tryz.func360,Tryz.ntmps360;go_wp2;exact bodyPost_ret (v := .tuple #[.slice (some ⟨w.heap.size,0,none⟩) 0 0,.bool true]) (by simp[results,Tryz.results360,go_sem]) rfl ⟨_,rfl,World.grownBy_alloc _ _ _,_,_,_,true,rfl,λ_=>⟨[],by simp,rfl,(λx hx=>by cases hx),World.ownsRow_lit w #[] 0 (Nat.le_refl _) (by decide) rfl⟩⟩
 go_enter Tryz.func360,Tryz.ntmps360;go_wp2;go_loopw [6,7] (λO I wr=>∃(i:Nat) (l:List Int) (v4:Value),v4=O/\I=.int .i64 i/\i<=s.size/\l.length=i/\rT k l/\Ext w wr/\Own w.heap.size wr v4 l) (λ_ I _=>s.size-(intOf I).toNat)
 case atStart=>exact⟨0,[],_,rfl,rfl,by omega,rfl,(λx hx=>by cases hx),World.grownBy_alloc _ _ _,World.ownsRow_lit w #[] 0 (Nat.le_refl _) (by decide) rfl⟩
 case round=>
  obtain⟨i,l,v4,rfl,rfl,hi,g,m,hg,hO⟩:=hrel;by_cases B:i<s.size
  ·have C:(i:Int)<s.size:=by omega
   have p:=Lib.hid (And.intro g m);clear g m;go_wp2;go_quiet (fail)
   rename_i nq;generalize wrap64 (wrap64 (wrap64 (s[i].toNat:Int)-97)+1)=sm;generalize wrap64 (wrap64 (wrap64 (s[i].toNat:Int)-65)+1)=q;obtain⟨r,u⟩:∃r,r=wr.drewN nq:=⟨_,rfl⟩;have a:Ext wr r:=by rw[u];exact grown_drewN _ _ _
   rw[<-u];have b:=grown_trans hg a;have n:=hO.ext0 a;clear u a hO hg;have D:l.length<=1000000:=by have:=p.out.1;omega
   go_wp2_with fail
   refine Calls.mono (l01In_ok sm 1 k r) ?_;rintro _ _ ⟨rfl,rfl⟩;rcases y:inB sm 1 k with _|_
   ·go_wp2_with fail
    refine Calls.mono (l01In_ok q 1 k r) ?_;rintro _ _ ⟨rfl,rfl⟩;rcases E:inB q 1 k with _|_
    ·go_wp2
     exact bodyPost_ret (v := .tuple #[.slice none 0 0,.bool false]) (by simp[results,Tryz.results360,go_sem]) rfl ⟨_,rfl,b,none,0,0,false,rfl,λh=>by cases h⟩
    ·have F:1<=q/\q<=k:=by simpa [inB] using E
     have G:wrap64 (-q) = -q:=IntWalk.wrap64_in _ (by omega);have J:=Lib.hid F;clear F y E;go_wp2_with (first|(at_builtin;refine wp_app_int rfl _ _ rfl w.heap.size v4 l (-q) rfl r n rfl rfl D b.size ?_;intro K P z A;have e:=grown_own b A (λj L B=>by have:=(n.lt j L).1;omega))|fail)
     clear G;go_roundw
     case rel=>exact⟨i+1,_,K,rfl,by go_num,by omega,by rw[List.length_append,p.out.1];rfl,(λx hx=>by
      rcases List.mem_append.1 hx with h|h
      ·exact p.out.2 x h
      ·rw[List.mem_singleton.1 h];have:=J.out;omega),e,z⟩
     case measure=>simp[intOf];omega
   ·have H:1<=sm/\sm<=k:=by simpa [inB] using y
    have J:=Lib.hid H;clear H y;go_wp2_with (first|(at_builtin;refine wp_app_int rfl _ _ rfl w.heap.size v4 l sm rfl r n rfl rfl D b.size ?_;intro K P z A;have e:=grown_own b A (λj L B=>by have:=(n.lt j L).1;omega))|fail)
    go_roundw
    case rel=>exact⟨i+1,_,K,rfl,by go_num,by omega,by rw[List.length_append,p.out.1];rfl,(λx hx=>by
     rcases List.mem_append.1 hx with h|h
     ·exact p.out.2 x h
     ·rw[List.mem_singleton.1 h];have:=J.out;omega),e,z⟩
    case measure=>simp[intOf];omega
  ·have M:i=s.size:=by omega
   have C:¬((i:Int)<s.size):=by omega
   obtain⟨N,c8,j7,_⟩:=(hO.ints (by omega)).shape;subst j7;have p:=Lib.hid (And.intro g m);clear g m M;go_wp2;exact bodyPost_ret (v := .tuple #[.slice N l.length c8,.bool (decide ((0:Int)<l.length))]) (by simp[results,Tryz.results360,go_sem]) rfl ⟨_,rfl,hg,N,l.length,c8,_,rfl,λ_=>⟨l,by have:=p.out.1;omega,rfl,p.out.2,hO⟩⟩
end Go.Proofs.YtdcobapnlpeaaaaGreat
namespace Go.Proofs.YtdcobapnlpeaaaaGreat
open Go.RowKit
theorem xO:Tryz.prog.underlying 246=some (.slice 9):=by kernel_rfl
theorem Tryz.xP:(Tryz.prog.info? 9).map (λi=>(i.zero,i.size,i.bytes))=some (some (.string ⟨#[]⟩),1,16):=by kernel_rfl
def kP (M B:Nat) (w':World) (v:Value):Prop:=∃(a:Option Addr) (c:Nat) (ts:List ByteArray),v=.slice a ts.length c/\1<=ts.length/\ts.length<=M+1/\(∀t∈ts,t.size<=M)/\OwnV B 9 w' (.slice a ts.length c) (ts.map Value.string)
theorem xQ (s:ByteArray) (a b:Nat) (M:Nat) (h:s.size<=M):(s.extract a b).size<=M:=by
 simp[ByteArray.size_extract];omega
theorem rU (w:World) (s:ByteArray) (b:Int) (J:s.size<=1000) :
  Calls Tryz.prog 343 #[.string s,.int .u8 b] w (Ret w (kP s.size w.heap.size)):=by
 go_enter Tryz.func343,Tryz.ntmps343;go_wp2;go_loopw [5,6,7] (λE F A wr=>∃(i f:Nat) (ts:List ByteArray) (v4:Value),v4=E/\F=.int .i64 f/\A=.int .i64 i/\i<=s.size/\f<=i/\ts.length<=i/\(∀t∈ts,t.size<=s.size)/\Ext w wr/\OwnV w.heap.size 9 wr v4 (ts.map Value.string)) (λ_ _ A _=>s.size-(intOf A).toNat)
 case atStart=>exact⟨0,0,[],_,rfl,rfl,rfl,by omega,by omega,by simp,(λx hx=>by cases hx),World.grownBy_alloc _ _ _,World.ownsRow_lit w #[] 0 (Nat.le_refl _) (by decide) rfl⟩
 case round=>
  obtain⟨i,f,ts,v4,rfl,rfl,rfl,hi,hf,n,p,q,hO⟩:=hrel;have G:(f:Int)<=i:=by omega
  have r:(ts.map Value.string).length<=1000000:=by rw[List.length_map];omega
  have k:=Lib.hid (And.intro n (And.intro p r));clear n p r;by_cases u:i<s.size
  ·have v:(i:Int)<s.size:=by omega
   go_wp2_with (first|(at_builtin;refine wp_app_v 246 9 (.string ⟨#[]⟩) 16 xO Tryz.xP rfl (by decide) rfl _ _ rfl w.heap.size wr v4 _ (ts.map Value.string) rfl hO rfl rfl rfl k.out.2.2 q.size ?_;intro z D l m;have e:=grown_own q m (λj B u=>by have:=(hO.lt j B).1;omega))|fail)
   ·go_roundw
    case rel=>exact⟨i+1,i+1,ts++[s.extract f i],z,rfl,by go_num,by go_num,by omega,by omega,by rw[List.length_append,List.length_singleton];have:=k.out.1;omega,(λt C=>by
     rcases List.mem_append.1 C with h|h
     ·exact k.out.2.1 t h
     ·rw[List.mem_singleton.1 h];exact xQ s f i _ (Nat.le_refl _)),e,by rw[List.map_append];exact l⟩
    case measure=>simp[intOf];omega
   ·go_roundw
    case rel=>exact⟨i+1,f,ts,v4,rfl,rfl,by go_num,by omega,by omega,by have:=k.out.1;omega,k.out.2.1,q,hO⟩
    case measure=>simp[intOf];omega
  ·have v:¬((i:Int)<s.size):=by omega
   go_wp2_with (first|(at_builtin;refine wp_app_v 246 9 (.string ⟨#[]⟩) 16 xO Tryz.xP rfl (by decide) rfl _ _ rfl w.heap.size wr v4 _ (ts.map Value.string) rfl hO rfl rfl rfl k.out.2.2 q.size ?_;intro z D l m;have e:=grown_own q m (λj B u=>by have:=(hO.lt j B).1;omega))|fail)
   have H:(ts++[s.extract f s.size]).length=ts.length+1:=by simp
   have y:OwnV w.heap.size 9 D z ((ts++[s.extract f s.size]).map Value.string):=by rw[List.map_append];exact l
   obtain ⟨I,c5,rfl⟩:∃a c,z=.slice a (ts++[s.extract f s.size]).length c:=by
    rcases y.form with⟨rfl,hn⟩|⟨g,cap,rfl,_,_,_⟩
    ·have:=congrArg List.length hn;simp at this
    ·exact⟨_,_,by rw[List.length_map]⟩
   go_ret
   exact ⟨_,rfl,e,I,c5,ts++[s.extract f s.size],rfl,by omega,by have:=k.out.1;omega,(λt C=>by
     rcases List.mem_append.1 C with h|h
     ·exact k.out.2.1 t h
     ·rw[List.mem_singleton.1 h];exact xQ s f _ _ (Nat.le_refl _)),y⟩
end Go.Proofs.YtdcobapnlpeaaaaGreat
namespace Go.Proofs.YtdcobapnlpeaaaaGreat
open Go.RowKit
attribute [local go_sem ↓] Go.wp_at_zero Go.wp_at_succ
theorem Dv (w:World) (s:ByteArray) (l:s.size<=1000) :
  Calls Tryz.prog 359 #[.string s] w (Ret w λ_ v=>∃x:Int,v=.int .i64 x):=by
 have a:(Ret w λ(_:World) v=>∃x:Int,v=.int .i64 x) (.returned (.int .i64 (-1))) w:=⟨_,rfl,Ext.refl _,_,rfl⟩;by_cases m:s.size=0
 ·go_enter Tryz.func359,Tryz.ntmps359
  go_wp2;go_ret;exact⟨_,rfl,Ext.refl _,_,rfl⟩
 by_cases n:6<s.size
 ·go_enter Tryz.func359,Tryz.ntmps359
  go_wp2;go_ret;exact⟨_,rfl,Ext.refl _,_,rfl⟩
 clear a;go_enter Tryz.func359,Tryz.ntmps359;go_wp2
 all_goals first
  | (go_ret;exact⟨_,rfl,Ext.refl _,_,rfl⟩)
  | skip
 all_goals
  (try generalize (((s[0]'(by assumption)).toNat:Int) == 48)=z2)
  (try generalize (s[0]'(by assumption)).toNat=c0)
  (try generalize ((s.size:Int) == 0)=z0)
  (try generalize decide ((6:Int)<s.size)=z1)
  go_loopw [3,4] (λg e j=>∃(i:Nat) (x:Int),g=.int .i64 x/\e=.int .i64 i/\i<=s.size/\j=w) (λ_ e _=>s.size-(intOf e).toNat)
  case atStart=>exact⟨0,0,rfl,rfl,by omega,rfl⟩
  case round=>
   obtain⟨i,x,rfl,rfl,hi,rfl⟩:=hrel;by_cases k:i<s.size
   ·have b:(i:Int)<s.size:=by omega
    go_wp2
    all_goals first
     | (go_ret;exact⟨_,rfl,Ext.refl _,_,rfl⟩)
     | skip
    all_goals
     go_roundw
     case rel=>exact⟨i+1,_,rfl,by go_num,by omega,trivial⟩
     case measure=>simp[intOf];omega
   ·have b:¬((i:Int)<s.size):=by omega
    go_wp2;go_ret;exact⟨_,rfl,Ext.refl _,_,rfl⟩
end Go.Proofs.YtdcobapnlpeaaaaGreat
namespace Go.Proofs.YtdcobapnlpeaaaaGreat
open Go.RowKit
def Dw (B:Nat) (w':World) (v:Value):Prop:=∃(a:Option Addr) (n c:Nat) (r:Bool),v=.tuple #[.slice a n c,.bool r]/\(r=true->∃o,n=o.length/\o.length<=6/\(∀x∈o,primeB x=true)/\Own B w' (.slice a n c) o)
theorem kP.at {B:Nat}{w:World}{a:Option Addr}{c:Nat}{ts:List ByteArray}(h:OwnV B 9 w (.slice a ts.length c) (ts.map Value.string)) (i:Nat) (j:i<ts.length) :
  ∃b,a=some ⟨b,0,none⟩/\w.cell? ⟨b,i,none⟩=some (.string (gt ts i)):=by
 rcases h.form with⟨e,hn⟩|⟨g,cap,e,_,_,_⟩
 ·have:ts=[]:=by simpa using hn
  subst this;simp at j
 ·simp only[Value.slice.injEq] at e
  obtain⟨rfl,_,_⟩:=e;refine⟨g,rfl,?_⟩;have:=h.cell i (by rw[List.length_map];exact j);rw[gt_map _ _ _ j] at this;exact this
theorem xR {x:Int}(h:primeB x=true):1<=x/\x<=7:=by
 unfold primeB at h;simp at h;omega
theorem Dx (w:World) (s:ByteArray) (W:s.size<=1000) :
  Calls Tryz.prog 344 #[.string s] w (Ret w (Dw w.heap.size)):=by
 rcases h1:(s.toList == [49]) with _|_
 case' true=>
  go_enter Tryz.func344,Tryz.ntmps344;go_wp2;go_ret2
  exact⟨_,rfl,World.grownBy_alloc _ _ _,_,_,_,true,rfl,λ_=>⟨[],rfl,by simp,(λx hx=>by cases hx),World.ownsRow_lit w #[] 0 (Nat.le_refl _) (by decide) rfl⟩⟩
 go_enter Tryz.func344,Tryz.ntmps344;go_wp2_with fail
 have M:Ext w (w.alloc (.cells #[] 2)):=World.grownBy_alloc _ _ _;have m:(w.alloc (.cells #[] 2)).heap.size=w.heap.size+1:=by simp
 have m:=Lib.hid m;have p:Own w.heap.size (w.alloc (.cells #[] 2)) (.slice (some ⟨w.heap.size,0,none⟩) 0 0) []:=World.ownsRow_lit w #[] 0 (Nat.le_refl _) (by decide) rfl;generalize w.alloc (.cells #[] 2)=w0 at *;refine Calls.mono (rU w0 s 32 W) ?_;rintro e1 N ⟨v1,rfl,hg1,a1,c1,ts,rfl,q,r,u,hT⟩;have v:=p.ext0 hg1;have z:=grown_trans M hg1;have X:=Lib.hid (And.intro q (And.intro r u));clear q r u p;go_wp2_with fail
 go_loopw [4,6] (λY O wr=>∃(i:Nat) (o:List Int) (v4:Value),v4=Y/\O=.int .i64 i/\i<=ts.length/\o.length=i/\o.length<=6/\(∀x∈o,primeB x=true)/\Ext w wr/\Own w.heap.size wr v4 o/\N.grownBy wr (some w.heap.size)/\(∀k,v4.ownBlock=some k->k=w.heap.size\/N.heap.size<=k)) (λ_ O _=>ts.length-(intOf O).toNat)
 case atStart=>exact⟨0,[],_,rfl,rfl,by omega,rfl,by simp,(λx hx=>by cases hx),z,v,grown_refl _ _,λk hk => .inl (own_blk hk)⟩
 case round=>
  clear v;obtain⟨i,o,v4,rfl,rfl,hi,A,rV,B,hg,hO,hgr,C⟩:=hrel;have P:o.length<=1000000:=by omega
  have D:=Lib.hid (And.intro A B);clear A B;by_cases e:i<ts.length
  ·have E:(i:Int)<ts.length:=by omega
   obtain⟨b,rfl,hc0⟩:=kP.at hT i e;have F:=hT.lt b rfl;have Z:=m.out;have hc:=hgr.cell hc0 (by simp;omega);have Q:(gt ts i).size<=1000:=by have:=X.out.2.2 _ (gtMem e);omega
   clear hc0;go_wp2_with fail
   refine Calls.mono (Dv wr (gt ts i) Q) ?_;rintro e2 U ⟨v2,rfl,n,x,rfl⟩;have G:=hO.ext0 n;have a:=grown_trans hg n;have g:=grown_trans hgr (grown_of_ext _ n);have V:=g.size;have H:=Lib.hid (And.intro C F);clear C F;clear hc hO;go_wp2_with fail
   refine Calls.mono (l01Prime_ok x U) ?_;rintro _ _ ⟨rfl,rfl⟩;rcases hp:primeB x with _|_
   ·go_wp2_with fail
    go_ret2
    exact⟨_,rfl,a,none,0,0,false,rfl,λh=>by cases h⟩
   ·by_cases h6:6<=i
    ·have R:(6:Int)<=i:=by omega
     go_wp2_with fail
     go_ret2
     exact⟨_,rfl,a,none,0,0,false,rfl,λh=>by cases h⟩
    ·have R:¬(6:Int)<=i:=by omega
     go_wp2_with (first|(at_builtin;refine wp_app_intb rfl _ _ rfl w.heap.size v4 o x rfl U G rfl rfl P a.size ?_;intro v5 w5 S I T;have J:=grown_own a I (λj K e=>by have:=(G.lt j K).1;omega))|fail)
     have L:N.grownBy w5 (some w.heap.size):=grown_own g I (λj K e=>by rcases H.out.1 j K with h|h;rw[h];omega);have ae:(o++[x]).length=o.length+1:=by simp
     go_roundw
     case rel=>exact⟨i+1,o++[x],v5,rfl,by go_num,by omega,by have:=D.out.1;omega,by have:=D.out.1;omega,(λy hy=>by
      rcases List.mem_append.1 hy with h|h
      ·exact D.out.2 y h
      ·rw [List.mem_singleton.1 h];exact hp),J,S,L,(λk hk=>by
       rcases T with h|h
       ·rw[h] at hk;exact H.out.1 k hk
       ·have:=h k hk;omega)⟩
     case measure=>simp[intOf];omega
  ·have E:¬((i:Int)<ts.length):=by omega
   have l:=l07Product_ok wr v4 o _ (hO.ints (by omega)) (λj K=>xR (D.out.2 _ (gtMem K)));go_wp2_with fail
   refine Calls.mono l ?_;rintro _ _ ⟨rfl,rfl⟩;clear l;obtain⟨a4,c4,hv4,_⟩:=(hO.ints (by omega)).shape;subst hv4;go_wp2_with fail
   go_ret2
   exact⟨_,rfl,hg,_,_,_,_,rfl,λ_=>⟨o,rfl,rV,D.out.2,hO⟩⟩
def iP (x:List Int):List Int:=x++[59]
def iB (u:List (List Int)):List Int:=(u.map iP).flatten
def gV (u:List (List Int)):ByteArray:=strOfNums (iB u)
def fD (l:List Int):List Value:=l.map (Value.int .u8)
theorem Dy (u:List (List Int)) (k:Nat) (h:k<u.length):iB (u.take (k+1))=iB (u.take k)++iP (gt u k):=by
 unfold iB;rw[take_succ_gt u k h,List.map_append,List.flatten_append];simp
theorem uS (u:List (List Int)) (b:Nat) (h:∀x∈u,x.length<=b):(iB u).length<=(b+1)*u.length:=by
 induction u with
 | nil=>simp[iB]
 | cons x u a=>
  have h1:=a (λy hy=>h y (List.mem_cons_of_mem _ hy));have e:=h x (List.mem_cons_self ..);unfold iB at h1 ⊢;simp only[List.map_cons,List.flatten_cons,List.length_append,List.length_cons,iP,List.length_nil,Nat.mul_succ];omega
theorem Bt (u:List (List Int)):(gV u).size=(iB u).length:=strOfNums_size _
theorem ni:Tryz.prog.underlying 22=some (.slice 5):=by kernel_rfl
theorem xS:Tryz.prog.underlying 5=some (.int .u8):=by kernel_rfl
theorem oO:Tryz.prog.underlying 9=some .string:=by kernel_rfl
theorem Tryz.rW:(Tryz.prog.info? 5).map (λi=>(i.zero,i.size,i.bytes))=some (some (.int .u8 0),1,1):=by kernel_rfl
theorem rX {B:Nat}{w:World}{v:Value}{l:List Int}(h:OwnV B 5 w v (fD l)):(convert 22 9 v).run Tryz.prog w=.ok (.string (strOfNums l)) w:=by
 rcases h.form with⟨rfl,a⟩|⟨g,cap,rfl,_⟩
 ·have:l=[]:=by unfold fD at a;rw[List.map_eq_nil_iff] at a;exact a
  subst this;rw[run_convert_bytes_nil w _ _ ni xS 0 0 _ oO];rfl
 ·have b:(fD l).length=l.length:=by unfold fD;rw[List.length_map]
  rw[b];refine run_convert_bytes_arg w _ _ ni xS g 0 l.length cap l rfl (λi e => ?_) _ oO;have:=h.cell i (by rw[b];exact e);rw[Nat.zero_add,this];unfold fD;rw[gt_map _ _ _ e];rfl
theorem Bw (u:List (List Int)) (w:World) (W:Value) (S:Nat->Prop) (h:Rows2 S w W u) (X:∀x∈u,∀e∈x,0<=e/\e<256) (I:∀x∈u,x.length<=1000) (hn:u.length<=100) :
  Calls Tryz.prog 260 #[W] w (Ret w λ_ v=>v=.string (gV u)):=by
 obtain⟨au,capu,rfl,_,_⟩:=Sl.shape h
 have a:∀k,(iB (u.take k)).length<=1001*100:=λk=>by
  have h1:=uS (u.take k) 1000 (λx hx=>I x (List.mem_of_mem_take hx));have:(u.take k).length<=100:=by rw[List.length_take];omega
  have:=Nat.mul_le_mul_left 1001 this;omega
 have J:=Lib.hid (And.intro X (And.intro I a));clear X I a;go_enter Tryz.func260,Tryz.ntmps260;go_wp2;go_loopw [3,10] (λK L wr=>∃(k:Nat) (v4:Value),v4=K/\L=.int .i64 k/\k<=u.length/\Ext w wr/\OwnV w.heap.size 5 wr v4 (fD (iB (u.take k)))) (λ_ L _=>u.length-(intOf L).toNat)
 case atStart=>exact⟨0,_,rfl,rfl,by omega,Ext.refl _,World.ownsRow_nil _ _ _ _⟩
 case round=>
  obtain⟨k,v4,rfl,rfl,hk,p,hO⟩:=hrel;by_cases l:k<u.length
  ·have Y:(k:Int)<u.length:=by omega
   obtain⟨b,off,a2,cap2,rfl,_,_,hc0,Z⟩:=Rows2.at h k l;have hc:=p.cell hc0 (by simp);clear hc0;have hx:=J.out.1 _ (gtMem l);have y:=J.out.2.1 _ (gtMem l);have i:=Dy u k l;have z:=J.out.2.2 k;obtain⟨x,A⟩:∃x,x=gt u k:=⟨_,rfl⟩;rw[<-A] at hx y i hc Z;obtain⟨q,B⟩:∃q,q=iB (u.take k):=⟨_,rfl⟩;rw[<-B] at i z hO;have C:=Lib.hid (And.intro hx (And.intro y (And.intro i (And.intro z (And.intro A B)))));clear hx y i z A B;have ab:x.length<=1000:=C.out.2.1;go_wp2;clear hc;go_loopw [3,16] (λK M wr=>∃(j:Nat) (v4:Value),v4=K/\M=.int .i64 j/\j<=x.length/\Ext w wr/\OwnV w.heap.size 5 wr v4 (fD (q++x.take j))) (λ_ M _=>x.length-(intOf M).toNat)
   case atStart=>exact⟨0,v4,rfl,rfl,by omega,p,by rw[List.take_zero,List.append_nil];exact hO⟩
   case round=>
    clear hO p;obtain⟨j,v4,rfl,rfl,H,p,hO⟩:=hrel;by_cases n:j<x.length
    ·have N:(j:Int)<x.length:=by omega
     obtain⟨b2,off2,rfl,_,_,O⟩:=Ints.at (Ints.ext Z p) j n;have hx:=C.out.1 _ (gtMem n)
     have m:fD (q++x.take (j+1))=fD (q++x.take j)++[.int .u8 (gt x j)]:=by
      unfold fD;rw[take_succ_gt x j n,<-List.append_assoc,List.map_append];rfl
     have a:(fD (q++x.take j)).length<=1000000:=by
      have h1:=C.out.2.1;have h2:=C.out.2.2.2.1;unfold fD;rw[List.length_map,List.length_append,List.length_take];omega
     obtain⟨e,P⟩:∃e,e=gt x j:=⟨_,rfl⟩;rw[<-P] at hx m O
     have af:IntKind.u8.wrap e=e:=by
      simp only[IntKind.wrap,IntKind.signed,IntKind.bits];simp;omega
     have G:=Lib.hid (And.intro m (And.intro a (And.intro P hx)));clear m a P hx;go_wp2_with (first|(at_builtin;refine wp_app_val 22 5 (.int .u8 0) 1 ni Tryz.rW rfl (by decide) rfl _ _ rfl w.heap.size v4 _ (fD (q++x.take j)) rfl wr hO rfl rfl rfl G.out.2.1 p.size ?_;intro Q R D E;have F:Ext w R:=grown_own p E (λj H l=>by have:=(hO.lt j H).1;omega))|fail)
     go_roundw
     case rel=>exact⟨j+1,Q,rfl,by go_num,by omega,F,by rw[G.out.1];exact D⟩
     case measure=>simp[intOf];omega
    ·have T:j=x.length:=by omega
     subst T;rw[List.take_length] at hO
     have m:fD (iB (u.take (k+1)))=fD (q++x)++[.int .u8 59]:=by
      rw[C.out.2.2.1];unfold fD iP;rw[<-List.append_assoc,List.map_append (l₂:=[59])];rfl
     have a:(fD (q++x)).length<=1000000:=by
      have h1:=C.out.2.1;have h2:=C.out.2.2.2.1;unfold fD;rw[List.length_map,List.length_append];omega
     have G:=Lib.hid (And.intro m a);clear m a;go_wp2_with (first|(at_builtin;refine wp_app_val 22 5 (.int .u8 0) 1 ni Tryz.rW rfl (by decide) rfl _ _ rfl w.heap.size v4 _ (fD (q++x)) rfl wr hO rfl rfl rfl G.out.2 p.size ?_;intro Q R D E;have F:Ext w R:=grown_own p E (λj H l=>by have:=(hO.lt j H).1;omega))|fail)
     go_roundw
     case rel=>exact⟨k+1,Q,rfl,by go_num,by omega,F,by rw[G.out.1];exact D⟩
     case measure=>simp[intOf];omega
  ·have U:k=u.length:=by omega
   subst U;rw[List.take_length] at hO;have ag:=rX hO
   have V:∃az nz r,v4=.slice az nz r:=by
    rcases hO.form with⟨h1,_⟩|⟨g,cp,h1,_⟩
    ·exact⟨_,_,_,h1⟩
    ·exact⟨_,_,_,h1⟩
   obtain⟨az,nz,r,rfl⟩:=V;go_wp2;go_ret;exact⟨_,rfl,p,rfl⟩
def iC (x:Int):Int:=if 0<x then 96+x else 64-x
def fT (W:List Int):List Int:=if W=[] then [49] else W.map iC
theorem Dz (W:List Int) (n:Nat) (h:W.length<=n):(fT W).length<=n+1:=by
 unfold fT;split<;>simp;omega
theorem xT {g:Array Oper}{rest:List Oper}{o:Oper}{a:Act}{Q:Exit->Act->World->Prop}{w:World}(m:o.guard=none) (s x:Operand)
  (n:o.op=Op.call { callee:=Callee.builtin Builtin.append,args := #[s,x],argTypes := #[22,22] }) (B:Nat) (v:Value) (l:List Int) (y:Int) (p:a.eval s=v) (e:World) (i:OwnV B 5 e v (fD l))
  (q:w=e.alloc (.cells #[.int .u8 y] 5)) (hx:a.eval x=.slice (some ⟨e.heap.size,0,none⟩) 1 1) (j:l.length<=1000000) (b:B<=e.heap.size)
  (h:∀k w',OwnV B 5 w' k (fD (l++[y]))->e.grownBy w' v.ownBlock->wpList Tryz.prog g Q rest (a.put o.dst k) w') :
  wpList Tryz.prog g Q (o :: rest) a w:=
 wp_app_v 22 5 (.int .u8 0) 1 ni Tryz.rW rfl (by decide) m s x n B e v (.int .u8 y) (fD l) p i q rfl hx (by unfold fD;rw[List.length_map];exact j) b
  (λk w' h1 r=>h k w' (by unfold fD at h1 ⊢;rw[List.map_append];exact h1) r)
theorem u8_in (x:Int) (h:0<=x/\x<=255):IntKind.u8.wrap x=x:=by
 simp only[IntKind.wrap,IntKind.signed,IntKind.bits];simp;omega
theorem rY (w:World) (v:Value) (W:List Int) (S:Nat->Prop) (G:Ints S w v W) (H:∀x∈W,-26<=x/\x<=26) (Q:W.length<=1000) :
  Calls Tryz.prog 364 #[v] w (Ret w λ_ r=>r=.string (strOfNums (fT W))):=by
 obtain⟨a,cap,rfl,_,_⟩:=G.shape;by_cases A:W.length=0
 ·have L:W=[]:=List.eq_nil_of_length_eq_zero A
  subst L;go_enter Tryz.func364,Tryz.ntmps364;go_wp2;go_ret;exact⟨_,rfl,Ext.refl _,rfl⟩
 have R:((W.length:Int) == 0)=false:=by simp;intro h;apply A;rw[h];rfl
 have u:fT W=W.map iC:=by unfold fT;rw[if_neg (λh=>A (by rw[h];rfl))]
 have I:=Lib.hid (And.intro H u);clear H u A;go_enter Tryz.func364,Tryz.ntmps364;go_wp2;go_loopw [3,4] (λM B wr=>∃(i:Nat) (v4:Value),v4=M/\B=.int .i64 i/\i<=W.length/\Ext w wr/\OwnV w.heap.size 5 wr v4 (fD ((W.take i).map iC))) (λ_ B _=>W.length-(intOf B).toNat)
 case atStart=>exact⟨0,_,rfl,rfl,by omega,World.grownBy_alloc _ _ _,World.ownsRow_lit w #[] 0 (Nat.le_refl _) (by decide) rfl⟩
 case round=>
  obtain⟨i,v4,rfl,rfl,hi,q,hO⟩:=hrel;by_cases g:i<W.length
  ·have J:(i:Int)<W.length:=by omega
   obtain⟨b,off,rfl,_,_,N⟩:=Ints.at (Ints.ext G q) i g;have hx:=I.out.1 _ (gtMem g);have e:(W.take (i+1)).map iC=(W.take i).map iC++[iC (gt W i)]:=by rw[take_succ_gt W i g,List.map_append];rfl
   have m:((W.take i).map iC).length<=1000000:=by rw[List.length_map,List.length_take];omega
   obtain⟨x,y⟩:∃x,x=gt W i:=⟨_,rfl⟩;rw[<-y] at hx e N;clear y;by_cases K:0<x
   ·have k:iC x=97+x-1:=by unfold iC;rw[if_pos K];omega
    rw[k] at e;have C:IntKind.u8.wrap (97+x-1)=97+x-1:=u8_in _ (by omega);have z:=Lib.hid (And.intro e m);clear e m k;go_wp2_with (first|(at_builtin;refine xT rfl _ _ rfl w.heap.size v4 ((W.take i).map iC) (97+x-1) rfl wr hO rfl rfl z.out.2 q.size ?_;intro D O n p;have l:=grown_own q p (λj E g=>by have:=(hO.lt j E).1;omega))|fail)
    clear C;go_roundw
    case rel=>exact⟨i+1,D,rfl,by go_num,by omega,l,by rw[z.out.1];exact n⟩
    case measure=>simp[intOf];omega
   ·have k:iC x=65-x-1:=by unfold iC;rw[if_neg K];omega
    rw[k] at e;have C:IntKind.u8.wrap (65-x-1)=65-x-1:=u8_in _ (by omega);have z:=Lib.hid (And.intro e m);clear e m k;go_wp2_with (first|(at_builtin;refine xT rfl _ _ rfl w.heap.size v4 ((W.take i).map iC) (65-x-1) rfl wr hO rfl rfl z.out.2 q.size ?_;intro D O n p;have l:=grown_own q p (λj E g=>by have:=(hO.lt j E).1;omega))|fail)
    clear C;go_roundw
    case rel=>exact⟨i+1,D,rfl,by go_num,by omega,l,by rw[z.out.1];exact n⟩
    case measure=>simp[intOf];omega
  ·have F:i=W.length:=by omega
   subst F;rw[List.take_length] at hO;have P:=rX hO;go_wp2;go_ret;exact⟨_,rfl,q,by rw[I.out.2];rfl⟩
theorem rZ (w:World) (i:Nat) (l:i<26) :
  Calls Tryz.prog 363 #[.int .i64 i] w (Ret w λ_ r=>r=.string (strOfNums [97+(i:Int)])):=by
 have e:IntKind.i64.wrap ((i:Int)+1)=(i:Int)+1:=IntWalk.i64_in _ (by omega)
 have b:fT [(i:Int)+1]=[97+(i:Int)]:=by
  unfold fT;rw[if_neg (by simp)];simp only[List.map_cons,List.map_nil,iC];rw[if_pos (by omega),show(96:Int)+((i:Int)+1)=97+(i:Int) by omega]
 have j:Ints Any (w.alloc (.cells #[.int .i64 ((i:Int)+1)] 2)) (.slice (some ⟨w.heap.size,0,none⟩) 1 1) [(i:Int)+1]:=
  ints_of_own (show Own 0 _ _ [(i:Int)+1] from World.ownsRow_lit w #[.int .i64 ((i:Int)+1)] 1 (Nat.zero_le _) (by decide) rfl) (by simp) (λ_ _=>trivial)
 have a:=rY _ _ [(i:Int)+1] Any j (λx hx=>by simp at hx;omega) (by simp);rw[b] at a;have k:=Lib.hid a;clear a b j;go_enter Tryz.func363,Tryz.ntmps363;go_wp2_with fail
 refine Calls.mono k.out ?_;rintro m n ⟨v1,rfl,g,rfl⟩;clear e;go_wp2;go_ret;exact⟨_,rfl,grown_trans (World.grownBy_alloc _ _ _) g,rfl⟩
theorem pK (w:World) (n:Int) (b:0<=n) (e:n<10) :
  Calls Tryz.prog 362 #[.int .i64 n] w (Ret w λ_ r=>r=.string (strOfNums [48+n])):=by
 have g:IntKind.u8.wrap (48+n)=48+n:=u8_in _ (by omega)
 have a:∀w0:World,(convert 22 9 (.slice (some ⟨w0.heap.size,0,none⟩) 1 1)).run Tryz.prog (w0.alloc (.cells #[.int .u8 (48+n)] 5))=.ok (.string (strOfNums [48+n])) (w0.alloc (.cells #[.int .u8 (48+n)] 5)):=λw0=>
  rX (B:=0) (l:=[48+n]) (World.ownsRow_lit w0 #[.int .u8 (48+n)] 1 (Nat.zero_le _) (by decide) rfl)
 go_enter Tryz.func362,Tryz.ntmps362;go_wp2;go_ret;exact⟨_,rfl,World.grownBy_alloc _ _ _,rfl⟩
end Go.Proofs.YtdcobapnlpeaaaaGreat
