/- Merged from templates. -/
import Derived.Test.YtldheeicjnncoaaGreatF6
import Derived.Laws.BytesArg
set_option maxRecDepth 100000
set_option maxHeartbeats 8000000
namespace Go.Proofs.YtldheeicjnncoaaGreat
open Go.RowKit
theorem l01Zero_ok (v:Value) (l:List Int) (w:World) (S:Nat->Prop) (h:Ints S w v l) :
  Calls Tryz.prog 185 #[v] w λe w'=>e=.returned (.bool (isZeroB l))/\w=w':=by
 obtain⟨a,cap,rfl,_,_⟩:=h.shape;go_enter Tryz.func185,Tryz.ntmps185;go_wp2;go_loop [3] (λi=>∃k:Nat,i=.int .i64 k/\k<=l.length/\∀j,j<k->gt l j=0) (λi=>l.length-(intOf i).toNat)
 case atStart=>exact⟨0,rfl,by omega,λj q=>by omega⟩
 case round=>
  obtain⟨k,rfl,hk,hz⟩:=hrel;have u:=Lib.hid hz;clear hz;by_cases m:k<l.length
  ·obtain ⟨b,off,rfl,_,_,hc⟩:=Ints.at h k m
   by_cases hx:gt l k=0
   ·have y:(gt l k != 0)=false:=by simp[hx]
    have z:=Lib.hid hx;clear hx;go_wp2;go_round
    case rel=>exact⟨k+1,by go_num,by omega,λj q=>by
     rcases Nat.lt_succ_iff_lt_or_eq.1 q with h1|h1
     ·exact u.out j h1
     ·rw[h1];exact z.out⟩
    case measure=>simp[intOf];omega
   ·have y:(gt l k != 0)=true:=by simp[hx]
    have p:isZeroB l=false:=by
     cases A:isZeroB l with
     | false=>rfl
     | true=>exact absurd (isZeroB_true.1 A k m) hx
    have r:=Lib.hid p;clear p hx;go_wp2;go_ret;exact⟨by rw[r.out];rfl,rfl⟩
  ·have p:isZeroB l=true:=isZeroB_true.2 (λj q=>u.out j (by omega))
   have r:=Lib.hid p;clear p;go_wp2;go_ret;exact⟨by rw[r.out];rfl,rfl⟩
theorem l12Sift_ok (P:Pr) (G:Grp P) (w:World) (pv A B:Value) (H:List Int->Prop) (X:List Int) (E F I:Nat->Prop) (S:Sub P H) (p:PresV E w pv P) (q:Rows2 F w A (cseq P H)) (hx:Ints I w B X) (C:Vec P.orders X) :
  Calls Tryz.prog 238 #[pv,A,B] w (Ret w λw' v=>∃Y,Own w.heap.size w' v Y/\Rep P H (gt (tabTo (cseq P H) P.orders.length (cseq P H).length)) X Y):=by
 have hP:=G.v;have J:=hP.n6;have D:=G.cseq_len S;have i:=(G.seq_facts S).1;have hI:=G.ind_tab S;obtain⟨vo,vp,vc,rfl,h3⟩:=p;have j:=PresP.box h3 28;have a:Ext w (w.alloc (.cells #[vo,vp,vc] 28)):=World.grownBy_alloc _ _ _;have r:=Rows2.ext q a;have u:=hx.ext a;have k:(w.alloc (.cells #[vo,vp,vc] 28)).heap.size=w.heap.size+1:=by simp
 obtain⟨Q,capu,oV,_,_⟩:=Sl.shape q;obtain⟨R,capx,oW,_,_⟩:=hx.shape;subst oV oW;obtain⟨y,eo,dQ,_,_,hc0,b,e,ew⟩:=j.at;simp only[Nat.zero_add] at b e;have m:=Lib.hid (And.intro i (And.intro hI (And.intro C D)));clear i hI C D j q hx;go_enter Tryz.func238,Tryz.ntmps238;go_wp2;have K:=Lib.hid k;clear k;generalize z:w.alloc (.cells #[vo,vp,vc] 28)=w0 at *;clear z;have L:∀w',Ext w0 w'->w'.cell? ⟨w.heap.size,0,none⟩=some y:=λw' h=>h.cell hc0 (by simp);have M:∀w',Ext w0 w'->w'.cell? ⟨w.heap.size,1,none⟩=some eo:=λw' h=>h.cell b (by simp);have N:∀w',Ext w0 w'->w'.cell? ⟨w.heap.size,2,none⟩=some dQ:=λw' h=>h.cell e (by simp);clear hc0 b e
 go_region_held3 (λw'=>Ext w0 w') (first|exact grown_drew _ _|assumption)
  (first
   | (go_at_call 309;refine Calls.mono (Calls.rel (w0:=w0) (by assumption) (l12Table_ok P hP _ _ _ (cseq P H) Any Any ⟨_,_,_,rfl,Pres3.ext ew (by assumption)⟩ (Rows2.sub (Rows2.ext r (by assumption)) (λ_ _ _=>trivial)) m.out.1 (by have:=m.out.2.2.2;omega))) ?_;rintro U V ⟨W,rfl,eu,hsA,l⟩;obtain⟨Z,capA,iJ,_,_⟩:=Sl.shape l;subst iJ)
   | (go_at_call 308;refine Calls.mono (Calls.rel (w0:=w0) (by assumption) (l12Reduce_ok P G _ _ _ _ _ X H Any Any Any ⟨_,_,_,rfl,Pres3.ext ew (by assumption)⟩ l (Ints.sub (Ints.ext u (by assumption)) (λ_ _ _=>trivial)) m.out.2.2.1 (tabTo_len _ _ _) m.out.2.1)) ?_;rintro eB wB ⟨vB,rfl,hgB,hsB,Y,gi,mL⟩))
 clear L M N;have O:=Lib.hid mL;clear mL;go_wp2;go_ret;exact⟨_,rfl,grown_trans a hgB,Y,gi.weak (by have:=K.out;omega),O.out.rep⟩
theorem seqOf_succ (n:Nat) (r:Nat->List Int):seqOf (n+1) r=seqOf n r++(if r n=[] then [] else [r n]):=by
 unfold seqOf;rw[List.range_succ,List.filterMap_append];congr 1
 by_cases h:r n=[]<;>simp[h]
theorem seqOf_len (n:Nat) (r:Nat->List Int):(seqOf n r).length<=n:=by rw[sq_all];exact sq_len _ _ _
theorem ShQ.rows {bad:Nat->Prop}{B:Nat}{w:World}{v:Value}{xs:List (List Int)}(h:ShQ bad B w v xs):Rows2 Any w v xs:=by
 obtain⟨e,a,j,hr⟩:=h;rcases j with⟨rfl,rfl⟩|⟨g,off,cap,cur,rfl,hb,b,hnc,hcm,hsz,hc⟩
 ·have:xs=[]:=List.eq_nil_of_length_eq_zero (by simpa using a.symm)
  subst this;exact⟨none,0,rfl,⟨by simp,by simp,λ_=>rfl⟩,λi hi=>by simp at hi⟩
 ·refine ⟨_,cap,by rw[a],⟨by omega,by unfold maxLen at hcm;omega,λh=>by cases h⟩,λi hi=>⟨g,off,gt e i,rfl,trivial,(Array.getElem?_eq_some_iff.1 b).1,?_,Ints.sub (hr i hi) (λ_ _ _=>trivial)⟩⟩
  simp only[World.cell?,b,Option.isSome_none,Bool.false_eq_true,if_false];exact hc i (by omega)
theorem ShQ.lit (bad:Nat->Prop) (B:Nat) (w:World) (hB:B<=w.heap.size):ShQ bad B (w.alloc (.cells #[] 24)) (.slice (some ⟨w.heap.size,0,none⟩) 0 0) []:=
 ⟨[],rfl,QOwn.of (World.ownsRow_lit w #[] 0 hB (by decide) rfl),λi hi=>by simp at hi⟩
theorem CanInv.congr {P:Pr}{H:List Int->Prop}{b r k:Nat->List Int}{m:Nat}(h:CanInv P H b r m) (j:∀e,m<=e->e<P.orders.length->k e=r e):CanInv P H b k m:=
 ⟨λe h1 a=>by rw[j e h1 a];exact h.nil e h1 a,λe h1 a i=>by rw[j e h1 a] at i ⊢;exact h.mem e h1 a i,
  λe e' h1 a i l p=>by rw[j e h1 (by omega)] at l ⊢;rw[j e' (by omega) i] at p;exact h.red e e' h1 a i l p⟩
theorem ShQ.weak {bad:Nat->Prop}{B B':Nat}{w:World}{v:Value}{xs:List (List Int)}(h:ShQ bad B w v xs) (a:B'<=B):ShQ bad B' w v xs:=by
 obtain⟨b,hl,hq,hr⟩:=h;exact⟨b,hl,hq.weak a,hr⟩
theorem l12FullF_ok (P:Pr) (G:Grp P) (w:World) (pv tv:Value) (b:List (List Int)) (H:List Int->Prop) (Sp Sb:Nat->Prop) (aQ:PresV Sp w pv P) (ht:Rows2 Sb w tv b) (S:b.length=P.orders.length) (hI:Ind P H (gt b)) (K:Nat->Prop) (ak:∀k,K k->k<w.heap.size/\¬Sb k) :
  Calls Tryz.prog 271 #[pv,tv] w (Ret w λw' v=>ShQ K w.heap.size w' v (cseq P H)):=by
 have hP:=G.v;have bm:=hP.n6;obtain⟨vo,vp,vc,rfl,h3⟩:=aQ;have al:=PresP.box h3 28;have L:Ext w (w.alloc (.cells #[vo,vp,vc] 28)):=World.grownBy_alloc _ _ _;have am:(w.alloc (.cells #[vo,vp,vc] 28)).heap.size=w.heap.size+1:=by simp
 obtain⟨at_,capt,an,_,_⟩:=Sl.shape ht;rw[S] at an;subst an;have HI:=Lib.hid (And.intro hI S);clear hI S;obtain⟨aR,eo,dQ,_,_,aS,ao,ap,aq⟩:=al.at;simp only[Nat.zero_add] at ao ap;clear al;have ar:IntKind.i64.wrap ((P.orders.length:Int)-1)=(P.orders.length:Int)-1:=IntWalk.i64_in _ (by omega);go_enter Tryz.func271,Tryz.ntmps271;go_wp2_with (first|(at_make;refine wp_make_tab rfl _ _ rfl w.heap.size P.orders.length (w.heap.size+1) (by simp) _ rfl rfl rfl (by omega) (by omega) ?_;intro w1 au aT bh)|fail)
 clear ar;have HS:=Lib.hid am;clear am;generalize aU:w.alloc (.cells #[vo,vp,vc] 28)=w0 at *;clear aU;have E:=au K;clear au;go_loopw [6] (λdv wr=>∃(m:Nat) (dl:List (List Int)),dv=.int .i64 ((m:Int)-1)/\m<=P.orders.length/\Ext w0 wr/\TabAt w.heap.size K wr (w.heap.size+1) P.orders.length dl/\Hid (CanInv P H (gt b) (gt dl) m/\∀e,e<m->gt dl e=[])) (λdv _=>(intOf dv+1).toNat)
 case atStart=>exact⟨P.orders.length,_,rfl,Nat.le_refl _,aT,E,Lib.hid ⟨⟨λe h1 h2=>by omega,λe h1 h2=>by omega,λe e' h1 h2 h3=>by omega⟩,λe he=>by simp[gt,he]⟩⟩
 case round =>
  clear E;obtain⟨m,dl,rfl,hm,U,E,M⟩:=hrel;by_cases av:m=0
  ·subst av
   have aw:((0:Nat):Int)-1 = -1:=rfl;rw[aw];have F:=G.can_end HI.out.1 M.out.1;rw[<-sq_all] at F;have HE:=Lib.hid F;clear F;have bp:=E.len;have aW:=E.rows (by omega);obtain⟨N,rfl⟩:∃N:World,N=wr:=⟨_,rfl⟩;go_wp2;go_loopw [9,10] (λov iv wr=>∃(i:Nat) (v4:Value),v4=ov/\iv=.int .i64 i/\i<=P.orders.length/\Ext N wr/\ShQ K N.heap.size wr v4 (seqOf i (gt dl))) (λ_ iv _=>P.orders.length-(intOf iv).toNat)
   case atStart=>exact⟨0,_,rfl,rfl,by omega,World.grownBy_alloc _ _ _,ShQ.lit _ _ _ (Nat.le_refl _)⟩
   case round=>
    obtain⟨i,v4,rfl,rfl,hi,r,V⟩:=hrel;by_cases l:i<P.orders.length
    ·have ax:(i:Int)<P.orders.length:=by omega
     have p:=seqOf_succ i (gt dl);obtain⟨_,C⟩:=E.at i l;rcases C with⟨h0,hcell⟩|⟨q,ab,I,hcell,W⟩
     ·rw [if_pos h0,List.append_nil] at p
      have X:=Lib.hid p;clear p h0;have A:=r.cell hcell (by simp);go_wp2;go_roundw
      case rel=>exact⟨i+1,v4,rfl,by go_num,by omega,r,by rw[X.out];exact V⟩
      case measure=>simp[intOf];omega
     ·rw [if_neg q] at p
      have aZ:(0:Int)<(gt dl i).length:=by
       have:0<(gt dl i).length:=List.length_pos_iff.2 q;omega
      have br:=seqOf_len i (gt dl);have X:=Lib.hid p;clear p q;have A:=r.cell hcell (by simp);have a0:Ints (λk=>¬K k/\v4.ownBlock≠some k) wr (.slice (some ab) (gt dl i).length I) (gt dl i):=Ints.mono W (λk a1 hk=>⟨⟨a1.2,λe=>by have:=(V.lt k e).1;omega⟩,Nat.lt_of_lt_of_le hk r.size,r.block k hk (by simp)⟩);go_wp2_with (first|(at_builtin;refine wp_shq_app rfl _ _ rfl K N.heap.size v4 _ (seqOf i (gt dl)) (gt dl i) rfl wr V rfl a0 rfl (by omega) r.size ?_;intro v5 w5 a3 O bt;have aB:=grown_own r O (λj hj l=>by have:=(V.lt j hj).1;omega))|fail)
      go_roundw
      case rel=>exact⟨i+1,v5,rfl,by go_num,by omega,aB,by rw[X.out];exact a3⟩
      case measure=>simp[intOf];omega
    ·have a5:i=P.orders.length:=by omega
     subst a5;rw[HE.out] at V;obtain⟨az,capz,fR,_⟩:=V.shape;subst fR;go_wp2;go_ret;exact⟨_,rfl,grown_trans L (grown_trans U r),V.weak (grown_trans L U).size⟩
  ·obtain ⟨d,rfl⟩:∃d,m=d+1:=⟨m-1,by omega⟩
   rw[show(((d+1:Nat)):Int)-1=d by omega];have Z:d<P.orders.length:=by omega
   have bi:(d:Int)<P.orders.length:=by omega
   have bu:(0:Int)<=d:=by omega
   have bv:IntKind.i64.wrap ((d:Int)-1)=(d:Int)-1:=IntWalk.i64_in _ (by omega);obtain⟨bb,off,a2,aC,hat,_,_,hc,hr⟩:=Rows2.at ht d (by rw[HI.out.2];exact Z);subst hat;have aa:=grown_trans L U;have A:=aa.cell hc (by simp);clear hc av;by_cases hb:gt b d=[]
   ·have aD:((((gt b d).length:Nat):Int) == 0)=true:=by rw[hb];rfl
    have J:CanInv P H (gt b) (gt dl) d:=(can_skip (k:=P.orders.length-(d+1)) M.out.1 hb).1.congr (λe h1 h2=>by
     by_cases he:e=d
     ·subst he;rw[if_pos rfl];exact M.out.2 e (by omega)
     ·rw[if_neg he])
    have ad:Hid (CanInv P H (gt b) (gt dl) d/\∀e,e<d->gt dl e=[]):=Lib.hid ⟨J,λe he=>M.out.2 e (by omega)⟩;clear J hb;go_wp2;go_roundw
    case rel=>exact⟨d,dl,rfl,by omega,U,E,ad⟩
    case measure=>simp[intOf]
   ·have aD:((((gt b d).length:Nat):Int) == 0)=false:=by
     have:0<(gt b d).length:=List.length_pos_iff.2 hb;simp;omega
    have aE:Vec P.orders (gt b d):=(HI.out.1.mem d Z hb).2.1.1;have Q:Ints (λk=>k≠w.heap.size+1/\¬K k) wr (.slice a2 (gt b d).length aC) (gt b d):=Ints.mono hr (λk a6 hk=>⟨⟨by omega,λh=>(ak k h).2 a6⟩,Nat.lt_of_lt_of_le hk aa.size,aa.block k hk (by simp)⟩);have HB:=Lib.hid (And.intro hb aE);clear hb aE;obtain⟨N,rfl⟩:∃N:World,N=wr:=⟨_,rfl⟩;go_wp2;clear aD A;go_loopw [7,8] (λxv ev wr=>∃(e:Nat) (Y:List Int),ev=.int .i64 e/\d+1<=e/\e<=P.orders.length/\Ext N wr/\Ints (λk=>k≠w.heap.size+1/\¬K k) wr xv Y/\Hid (FullTo P (gt dl) (d+1) (gt b d) e Y)) (λ_ ev _=>P.orders.length-(intOf ev).toNat)
    case atStart=>exact⟨d+1,_,by go_num,Nat.le_refl _,by omega,Ext.refl _,Q,Lib.hid (G.fullTo_zero HB.out.2)⟩
    case round=>
     clear Q;obtain⟨e,Y,rfl,hde,he,a,hY,hF⟩:=hrel;have B:=hF.out.vec;have ae:Y.length=P.orders.length:=B.1;obtain⟨ay,R,aF,_,_⟩:=hY.shape;rw[ae] at aF;subst aF;by_cases l:e<P.orders.length
     ·have ax:(e:Int)<P.orders.length:=by omega
      have bx:(0:Int)<=e:=by omega
      obtain⟨a9,oy,rfl,_,_,iG⟩:=Ints.at hY e (by omega);obtain⟨_,C⟩:=E.at e l;rcases C with⟨h0,hcell⟩|⟨q,ab,I,hcell,W⟩
      ·have D:=Lib.hid (hF.out.skip (.inl h0));clear h0 B
       have A:=a.cell hcell (by simp);go_wp2;go_roundw
       case rel=>exact⟨e+1,Y,by go_num,by omega,by omega,a,hY,D⟩
       case measure=>simp[intOf];omega
      ·have aZ:(0:Int)<(gt dl e).length:=by
        have:0<(gt dl e).length:=List.length_pos_iff.2 q;omega
       have A:=a.cell hcell (by simp);by_cases hy:gt Y e=0
       ·have a':(gt Y e != 0)=false:=by simp[hy]
        have D:=Lib.hid (hF.out.skip (.inr hy));clear B hy q;go_wp2;go_roundw
        case rel=>exact⟨e+1,Y,by go_num,by omega,by omega,a,hY,D⟩
        case measure=>simp[intOf];omega
       ·have a':(gt Y e != 0)=true:=by simp[hy]
        have aG:=B.2 e l;have ho:=hP.ord7 e l;have ar:IntKind.i64.wrap (-(gt Y e)) = -(gt Y e):=IntWalk.i64_in _ (by omega);obtain⟨_,m2,m3⟩:=M.out.1.mem e (by omega) l q;have D:=Lib.hid (G.fullTo_step HB.out.2 (by omega) l q ⟨m2,m3⟩ hF.out);have af:=G.pwZ_vec m2.1 (-(gt Y e));have aH:(pwZ P (gt dl e) (-(gt Y e))).length<=6:=by rw[af.1];omega
        have HD:=Lib.hid (And.intro m2.1 (And.intro af (And.intro aH (And.intro B (And.intro aG ho)))));clear m2 m3 af aH B aG ho q hy;have z:=grown_trans U a;have e1:∀w',Ext wr w'->w'.cell? ⟨w.heap.size,0,none⟩=some aR:=λw' h=>(grown_trans z h).cell aS (by simp);have e2:∀w',Ext wr w'->w'.cell? ⟨w.heap.size,1,none⟩=some eo:=λw' h=>(grown_trans z h).cell ao (by simp);have e3:∀w',Ext wr w'->w'.cell? ⟨w.heap.size,2,none⟩=some dQ:=λw' h=>(grown_trans z h).cell ap (by simp);have e4:∀w',Ext wr w'->w'.cell? ⟨w.heap.size+1,e,none⟩=some (.slice (some ab) (gt dl e).length I):=λw' h=>h.cell A (by simp);have e5:∀w',Ext wr w'->w'.cell? ⟨a9,oy+e,none⟩=some (.int .i64 (gt Y e)):=λw' h=>h.cell iG (by simp);go_wp2;clear A iG hcell
        go_region_held3 (λw'=>Ext wr w') (first|exact grown_drew _ _|assumption)
         (first
          | (go_at_call 241;refine Calls.mono (Calls.rel (w0:=wr) (by assumption) (l10Pow_ok P G _ _ _ (gt dl e) _ Any Any ⟨_,_,_,rfl,Pres3.ext (Pres3.ext aq z) (by assumption)⟩ (Ints.sub (Ints.ext (Ints.ext W a) (by assumption)) (λ_ _ _=>trivial)) HD.out.1 (by have:=HD.out.2.2.2.2.1;have:=HD.out.2.2.2.2.2;omega))) ?_;rintro eA wA ⟨vA,rfl,eu,hsA,fE⟩;have aI:=fE.ints (by have:=HD.out.2.2.1;omega))
          | (go_at_call 295;refine Calls.mono (Calls.rel (w0:=wr) (by assumption) (l08Mul_ok P hP _ _ _ _ Y _ Any Any Any ⟨_,_,_,rfl,Pres3.ext (Pres3.ext aq z) (by assumption)⟩ (Ints.sub (Ints.ext hY (by assumption)) (λ_ _ _=>trivial)) aI HD.out.2.2.2.1 HD.out.2.1)) ?_;rintro eB wB ⟨vB,rfl,hgB,hsB,aJ⟩))
        clear e1 e2 e3 e4 e5;have ba:Ints (λk=>k≠w.heap.size+1/\¬K k) wB vB (rMul P Y (pwZ P (gt dl e) (-(gt Y e)))):=ints_of_own aJ (by rw[D.out.vec.1];omega) (λk hk=>by have h1:=(aJ.lt k hk).1;have:=E.lt;have:=a.size;exact⟨by omega,λh=>by have:=(ak k h).1;have:=L.size;have:=U.size;omega⟩);go_wp2;go_roundw
        case rel=>exact⟨e+1,_,by go_num,by omega,by omega,grown_trans a hgB,ba,D⟩
        case measure=>simp[intOf];omega
     ·have bc:e=P.orders.length:=by omega
      subst bc;have aK:Y≠[]:=λh=>by rw[h] at ae;simp at ae;omega
      have ag:=E.ext a;obtain⟨bd,O⟩:=ag.put d (u := .slice ay P.orders.length R) (y:=Y) (Ints.sub hY (λk hk _=>hk)) aK;obtain⟨bG,C⟩:=ag.at d Z;have bH:wr.cell? ⟨w.heap.size+1,d,none⟩=some (.slice none 0 0):=C.elim (λh=>h.2) (λh=>absurd (M.out.2 d (by omega)) h.1);have p:=(G.can_step (k:=P.orders.length-(d+1)) HI.out.1 M.out.1 (by omega) HB.out.1 (hF.out.repTo M.out.1 (by omega))).1
      have J:CanInv P H (gt b) (gt (dl.set d Y)) d:=p.congr (λi h1 h2=>by
       by_cases hi:i=d
       ·subst hi;rw[if_pos rfl,gt_set_eq _ _ _ (by rw[E.len];omega)]
       ·rw[if_neg hi,gt_set_ne _ _ _ _ (λh=>hi h.symm)])
      have ad:Hid (CanInv P H (gt b) (gt (dl.set d Y)) d/\∀i,i<d->gt (dl.set d Y) i=[]):=Lib.hid ⟨J,λi hi=>by rw[gt_set_ne _ _ _ _ (by omega)];exact M.out.2 i (by omega)⟩;have aL:Ext w0 (wr.setCell ⟨w.heap.size+1,d,none⟩ (.slice ay P.orders.length R)):=grown_own (grown_trans U a) O (λj hj l=>by cases hj;have:=HS.out;omega);clear C p J B ag O;go_wp2;go_roundw
      case rel=>exact⟨d,dl.set d Y,rfl,by omega,aL,bd,ad⟩
      case measure=>simp[intOf]
theorem l12Strip_ok (P:Pr) (G:Grp P) (w:World) (pv tv N:Value) (b:List (List Int)) (X:List Int) (Sp Sb Sx:Nat->Prop) (O:PresV Sp w pv P) (ht:Rows2 Sb w tv b) (hx:Ints Sx w N X) (Q:Vec P.orders X)
  (m:b.length=P.orders.length) (l:∀d,d<P.orders.length->gt b d≠[]->T P d (gt b d)/\gt (gt b d) d=1) :
  Calls Tryz.prog 268 #[pv,tv,N] w (Ret w λw' v=>∃(d:Nat) (r:Value) (Y:List Int),v=.tuple #[.int .i64 d,r]/\Own w.heap.size w' r Y/\StripTo P b X d Y/\d<=P.orders.length/\(d<P.orders.length->gt Y d≠0/\gt b d=[])):=by
 have hP:=G.v;have ap:=hP.n6;obtain⟨vo,vp,vc,rfl,h3⟩:=O;have z:=PresP.box h3 28;have j:Ext w (w.alloc (.cells #[vo,vp,vc] 28)):=World.grownBy_alloc _ _ _;have R:=hx.ext j;have S:=Rows2.ext ht j;have aq:X.length<=6:=by rw[Q.1];omega
 have A:(w.alloc (.cells #[vo,vp,vc] 28)).heap.size=w.heap.size+1:=by simp
 obtain⟨at_,capt,B,_,_⟩:=Sl.shape ht;rw[m] at B;subst B;have U:=Lib.hid (And.intro l (And.intro Q m));clear l Q m;obtain⟨V,eo,dQ,_,_,W,C,D,E⟩:=z.at;simp only[Nat.zero_add] at C D;clear z;go_enter Tryz.func268,Tryz.ntmps268;go_wp2_with fail
 have HS:=Lib.hid A;clear A;generalize Z:w.alloc (.cells #[vo,vp,vc] 28)=w0 at *;clear Z;refine Calls.mono (l01Own_ok w0 N X Sx R (by omega)) ?_;rintro e1 w1 ⟨ov,rfl,hg1,gN⟩;go_wp2;go_loopw [8,9] (λov iv wr=>∃(d:Nat) (Y:List Int),iv=.int .i64 d/\d<=P.orders.length/\Ext w0 wr/\Own w.heap.size wr ov Y/\Hid (StripTo P b X d Y)) (λ_ iv _=>P.orders.length-(intOf iv).toNat)
 case atStart=>exact⟨0,X,rfl,by omega,hg1,gN.weak (by have:=HS.out;omega),Lib.hid (stripTo_zero U.out.2.1)⟩
 case round=>
  clear gN;obtain⟨d,Y,rfl,hd,e,hO,F⟩:=hrel;have a:=F.out.vec.1;have ab:Y.length=P.orders.length:=a.1;have p:=hO.ints (by omega);obtain⟨ay,capy,H,_,_⟩:=p.shape;rw[ab] at H;subst H;by_cases i:d<P.orders.length
  ·have al:(d:Int)<P.orders.length:=by omega
   obtain⟨bb,off,a2,I,rfl,_,_,hc,hr⟩:=Rows2.at (Rows2.ext S e) d (by rw[U.out.2.2];exact i);obtain⟨ac,oy,rfl,_,_,iG⟩:=Ints.at p d (by omega);by_cases hy:gt Y d=0
   ·have ad:(gt Y d == 0)=true:=by simp[hy]
    have q:=Lib.hid (F.out.skip hy);clear a hy;go_wp2;go_roundw
    case rel=>exact⟨d+1,Y,by go_num,by omega,e,hO,q⟩
    case measure=>simp[intOf];omega
   ·have ad:(gt Y d == 0)=false:=by simp[hy]
    by_cases u:gt b d=[]
    ·have ae:((((gt b d).length:Nat):Int) == 0)=true:=by rw[u];rfl
     have k:=Lib.hid (And.intro u hy);clear u a hy;go_wp2;go_ret2
     exact⟨_,rfl,grown_trans j e,d,_,Y,rfl,hO,F.out,by omega,λ_=>⟨k.out.2,k.out.1⟩⟩
    ·have ae:((((gt b d).length:Nat):Int) == 0)=false:=by
      have:0<(gt b d).length:=List.length_pos_iff.2 u;simp;omega
     have J:=a.2 d i;have ho:=hP.ord7 d i;have au:IntKind.i64.wrap (-(gt Y d)) = -(gt Y d):=IntWalk.i64_in _ (by omega);obtain⟨M,m3⟩:=U.out.1 d i u;have q:=Lib.hid (G.stripTo_step i u ⟨M,m3⟩ hy F.out);have y:=G.pwZ_vec M.1 (-(gt Y d));have K:(pwZ P (gt b d) (-(gt Y d))).length<=6:=by rw[y.1];omega
     have k:=Lib.hid (And.intro M.1 (And.intro y (And.intro K (And.intro a (And.intro J ho)))));clear M m3 y K a J ho u hy;have e1:∀w',Ext wr w'->w'.cell? ⟨w.heap.size,0,none⟩=some V:=λw' h=>(grown_trans e h).cell W (by simp);have e2:∀w',Ext wr w'->w'.cell? ⟨w.heap.size,1,none⟩=some eo:=λw' h=>(grown_trans e h).cell C (by simp);have e3:∀w',Ext wr w'->w'.cell? ⟨w.heap.size,2,none⟩=some dQ:=λw' h=>(grown_trans e h).cell D (by simp);have e4:∀w',Ext wr w'->w'.cell? ⟨bb,off+d,none⟩=some (.slice a2 (gt b d).length I):=λw' h=>h.cell hc (by simp);have e5:∀w',Ext wr w'->w'.cell? ⟨ac,oy+d,none⟩=some (.int .i64 (gt Y d)):=λw' h=>h.cell iG (by simp);go_wp2;clear hc iG
     go_region_held3 (λw'=>Ext wr w') (first|exact grown_drew _ _|assumption)
      (first
       | (go_at_call 241;refine Calls.mono (Calls.rel (w0:=wr) (by assumption) (l10Pow_ok P G _ _ _ (gt b d) _ Any Any ⟨_,_,_,rfl,Pres3.ext (Pres3.ext E e) (by assumption)⟩ (Ints.sub (Ints.ext hr (by assumption)) (λ_ _ _=>trivial)) k.out.1 (by have:=k.out.2.2.2.2.1;have:=k.out.2.2.2.2.2;omega))) ?_;rintro eA wA ⟨vA,rfl,eu,hsA,fE⟩;have L:=fE.ints (by have:=k.out.2.2.1;omega))
       | (go_at_call 295;refine Calls.mono (Calls.rel (w0:=wr) (by assumption) (l08Mul_ok P hP _ _ _ _ Y _ Any Any Any ⟨_,_,_,rfl,Pres3.ext (Pres3.ext E e) (by assumption)⟩ (Ints.sub (Ints.ext p (by assumption)) (λ_ _ _=>trivial)) L k.out.2.2.2.1 k.out.2.1)) ?_;rintro eB wB ⟨vB,rfl,hgB,hsB,gi⟩))
     clear e1 e2 e3 e4 e5;go_wp2;go_roundw
     case rel=>exact⟨d+1,_,by go_num,by omega,grown_trans e hgB,gi.weak (by have:=e.size;have:=HS.out;omega),q⟩
     case measure=>simp[intOf];omega
  ·have af:d=P.orders.length:=by omega
   subst af;go_wp2;go_ret2
   exact⟨_,rfl,grown_trans j e,_,_,Y,rfl,hO,F.out,by omega,λh=>absurd h (by omega)⟩
theorem run_head_rows (w:World) (a:Option Addr) (n cap:Nat) (k:Int) (b:0<=k) (h1:k<=cap) :
  (Instr.slice 25 (.slice a n cap) none (some (.int .i64 k)) none).run Tryz.prog w=.ok (.slice a k.toNat cap) w:=by
 rw[run_slice_h w 25 a n cap (by kernel_rfl) .i64 k b h1];have:(sizeOf (Tryz.prog.elem 25)).run Tryz.prog w=.ok 1 w:=by kernel_rfl
 rw[this];cases a with
 | none=>simp[Result.andThen,sliced]
 | some a=>simp[Result.andThen,sliced,Addr.add]
theorem QOwn.init {B E n cap:Nat}{w:World}{a:Option Addr}{x:Value}{b:List Value}(h:QOwn B E w (.slice a n cap) (b++[x])):QOwn B E w (.slice a b.length cap) b:=by
 rcases h with⟨_,h⟩|⟨g,off,cap',cur,e,hb,hg,h1,h2,h3,j⟩
 ·simp at h
 ·simp only[Value.slice.injEq] at e
  obtain⟨rfl,rfl,rfl⟩:=e;simp only[List.length_append,List.length_singleton] at h1 j;exact .inr ⟨g,off,cap,cur,rfl,hb,hg,by omega,h2,h3,λi hi=>by rw[j i (by omega),gt_append_left _ _ _ hi]⟩
theorem ShQ.init {bad:Nat->Prop}{B n cap:Nat}{w:World}{a:Option Addr}{x:List Int}{xs:List (List Int)}(h:ShQ bad B w (.slice a n cap) (xs++[x])):ShQ bad B w (.slice a xs.length cap) xs:=by
 obtain⟨l,m,hq,hr⟩:=h
 obtain ⟨j,u,rfl⟩:∃j u,l=j++[u]:=by
  refine⟨l.dropLast,l.getLast (λe=>by rw[e] at m;simp at m),(List.dropLast_concat_getLast _).symm⟩
 have b:j.length=xs.length:=by simpa using m
 refine⟨j,b,by rw[<-b];exact hq.init,λi hi => ?_⟩;have p:=hr i (by simp;omega);rw[gt_append_left _ _ _ (by omega),gt_append_left _ _ _ hi] at p;exact Ints.sub p (λk hk _=>⟨hk.1,λe=>hk.2 (by cases a<;>exact e)⟩)
theorem l01Own2_ok (w:World) (v:Value) (L:List (List Int)) (S:Nat->Prop) (E:Rows2 S w v L) (F:∀x∈L,x.length<=1000000) (G:L.length<=1000000) :
  Calls Tryz.prog 216 #[v] w (Ret w λw' r=>RowsO w.heap.size w' r L):=by
 obtain⟨a,cap,rfl,_,_⟩:=Sl.shape E;have J:=Lib.hid F;clear F;go_enter Tryz.func216,Tryz.ntmps216;go_wp2;go_loopw [3,4] (λK y wr=>∃(i:Nat) (v4:Value),v4=K/\y=.int .i64 i/\i<=L.length/\Ext w wr/\RowsO w.heap.size wr v4 (L.take i)) (λ_ y _=>L.length-(intOf y).toNat)
 case atStart=>exact⟨0,_,rfl,rfl,by omega,World.grownBy_alloc _ _ _,[],λ_ _=>False,rfl,World.ownsRow_lit w #[] 0 (Nat.le_refl _) (by decide) rfl,by simp,by simp,by simp⟩
 case round=>
  obtain⟨i,v4,rfl,rfl,hi,u,hO⟩:=hrel;by_cases k:i<L.length
  ·have H:(i:Int)<L.length:=by omega
   obtain⟨b,off,a2,cap2,rfl,_,_,hc,hr⟩:=Rows2.at (Rows2.ext E u) i k;have e:=take_succ_gt L i k;have m:=J.out _ (gtMem k);have z:(L.take i).length<=1000000:=by rw[List.length_take];omega
   have l:=Lib.hid (And.intro e m);clear e m;go_wp2_with fail
   refine Calls.mono (l01Own_ok wr _ (gt L i) _ hr (by have:=l.out.2;omega)) ?_;rintro O I ⟨M,rfl,A,fT⟩;have p:OwnIn (From wr.heap.size) I M (gt L i):=OwnIn.of fT (by have:=l.out.2;omega) (λj h1 _=>h1);obtain⟨Q,capy,gz,_,_⟩:=p.ints.shape;subst gz;clear hc;go_wp2_with (first|(at_builtin;refine wp_app_row rfl _ _ rfl w.heap.size wr I v4 _ (L.take i) (gt L i) rfl hO A p rfl rfl z u.size ?_;intro v5 R B C N;have q:=hO.extw u (Nat.le_refl _) C)|fail)
   go_roundw
   case rel=>exact⟨i+1,v5,rfl,by go_num,by omega,q,by rw[l.out.1];exact B⟩
   case measure=>simp[intOf];omega
  ·have D:i=L.length:=by omega
   subst D;rw[List.take_length] at hO;obtain⟨U,capz,fR,_,_⟩:=SlD.shape (hO.toD (by omega));subst fR;go_wp2;go_ret;exact⟨_,rfl,u,hO⟩
theorem l10Comm_ok (P:Pr) (G:Grp P) (w:World) (pv a b:Value) (A B:List Int) (N H I:Nat->Prop) (O:PresV N w pv P) (ha:Ints H w a A) (M:Ints I w b B) (F:Vec P.orders A) (hB:Vec P.orders B) :
  Calls Tryz.prog 270 #[pv,a,b] w (Ret w λw' v=>Own w.heap.size w' v (comR P A B)):=by
 have hP:=G.v;obtain⟨vo,vp,vc,rfl,h3⟩:=O;have Q:=hP.n6;have i:=G.mulV hB F;have m:=G.invV i;have p:=G.mulV F hB;have l:=Lib.hid (And.intro i (And.intro m p));clear i m p;have j:Ext w (w.alloc (.cells #[vo,vp,vc] 28)):=World.grownBy_alloc _ _ _;have J:=PresP.box h3 28;have q:=ha.ext j;have r:=M.ext j;have u:(w.alloc (.cells #[vo,vp,vc] 28)).heap.size=w.heap.size+1:=by simp
 have R:=Lib.hid u;clear u ha M;go_enter Tryz.func270,Tryz.ntmps270;go_wp2;generalize K:w.alloc (.cells #[vo,vp,vc] 28)=w0 at *;clear K;obtain⟨L,eo,dQ,_,_,hc0,y,z,ew⟩:=J.at;have S:∀w',Ext w0 w'->w'.cell? ⟨w.heap.size,0,none⟩=some L:=λw' h=>h.cell hc0 (by simp);have U:∀w',Ext w0 w'->w'.cell? ⟨w.heap.size,1,none⟩=some eo:=λw' h=>h.cell (by simpa using y) (by simp);have V:∀w',Ext w0 w'->w'.cell? ⟨w.heap.size,2,none⟩=some dQ:=λw' h=>h.cell (by simpa using z) (by simp);clear hc0 y z
 go_region_held3 (λw'=>Ext w0 w') (first|exact grown_drew _ _|assumption)
  (first
   | (revert e;intro e;go_at_call 295;refine Calls.mono (Calls.rel (w0:=w0) (by assumption) (l08Mul_ok P hP _ _ _ _ _ _ Any Any Any ⟨_,_,_,rfl,Pres3.ext ew (by assumption)⟩ C e l.out.2.1 l.out.2.2)) ?_;rintro W X ⟨Y,rfl,gm,hsC,fT⟩)
   | (revert k;intro k;go_at_call 295;refine Calls.mono (Calls.rel2 (w0:=w0) (by assumption) (l08Mul_ok P hP _ _ _ _ A B Any H I ⟨_,_,_,rfl,Pres3.ext ew (by assumption)⟩ (Ints.ext q (by assumption)) (Ints.ext r (by assumption)) F hB)) ?_;rintro Z wF ⟨vF,rfl,gQ,D,gF,fP⟩;have C:=(k.ext0 D).ints (by rw[l.out.2.1.1];omega);have e:=fP.ints (by rw[l.out.2.2.1];omega))
   | (go_at_call 296;refine Calls.mono (Calls.rel (w0:=w0) (by assumption) (l10Inv_ok P hP _ _ _ _ Any Any ⟨_,_,_,rfl,Pres3.ext ew (by assumption)⟩ E l.out.1)) ?_;rintro eB wB ⟨vB,rfl,hgB,hsB,k⟩)
   | (go_at_call 295;refine Calls.mono (Calls.rel (w0:=w0) (by assumption) (l08Mul_ok P hP _ _ _ _ B A Any I H ⟨_,_,_,rfl,Pres3.ext ew (by assumption)⟩ (Ints.ext r (by assumption)) (Ints.ext q (by assumption)) hB F)) ?_;rintro eA wA ⟨vA,rfl,eu,hsA,fE⟩;have E:=fE.ints (by rw[l.out.1.1];omega)))
 clear S U V;go_wp2;go_ret;exact⟨_,rfl,grown_trans j gm,fT.weak (by have:=R.out;omega)⟩
theorem l01Mod_ok (a m:Int) (w:World) (h1:0<=a) (b:a<m) :
  Calls Tryz.prog 322 #[.int .i64 a,.int .i64 m] w λe w'=>e=.returned (.int .i64 a)/\w=w':=by
 have k:a.tmod m=a:=Int.tmod_eq_of_lt h1 b;have i:m≠0:=by omega
 have j:(m == 0)=false:=by simp;omega
 go_enter Tryz.func322,Tryz.ntmps322;go_wp2;go_ret;exact⟨rfl,rfl⟩
theorem inv_ex {a m:Int}(b:m=2\/m=3\/m=5\/m=7) (h1:1<=a) (e:a<m):∃y:Int,1<=y/\y<m/\(a*y)%m=1:=by
 rcases b with rfl|rfl|rfl|rfl
 ·have:a=1:=by omega
  subst this;exact⟨1,by decide,by decide,by decide⟩
 ·rcases (show a=1\/a=2 by omega) with rfl|rfl
  ·exact⟨1,by decide,by decide,by decide⟩
  ·exact⟨2,by decide,by decide,by decide⟩
 ·rcases (show a=1\/a=2\/a=3\/a=4 by omega) with rfl|rfl|rfl|rfl
  ·exact⟨1,by decide,by decide,by decide⟩
  ·exact⟨3,by decide,by decide,by decide⟩
  ·exact⟨2,by decide,by decide,by decide⟩
  ·exact⟨4,by decide,by decide,by decide⟩
 ·rcases (show a=1\/a=2\/a=3\/a=4\/a=5\/a=6 by omega) with rfl|rfl|rfl|rfl|rfl|rfl
  ·exact⟨1,by decide,by decide,by decide⟩
  ·exact⟨4,by decide,by decide,by decide⟩
  ·exact⟨5,by decide,by decide,by decide⟩
  ·exact⟨2,by decide,by decide,by decide⟩
  ·exact⟨3,by decide,by decide,by decide⟩
  ·exact⟨6,by decide,by decide,by decide⟩
theorem l01Inv_ok (a m:Int) (w:World) (z:m=2\/m=3\/m=5\/m=7) (h1:1<=a) (i:a<m) :
  Calls Tryz.prog 269 #[.int .i64 a,.int .i64 m] w (Ret w λ_ v=>∃k:Int,v=.int .i64 k/\0<=k/\k<m/\(k*a)%m=1):=by
 have hex:=inv_ex z h1 i;have B:=Lib.hid hex;clear hex;have j:2<=m/\m<=7:=by omega
 obtain⟨C,j⟩:=j;clear z;have b:=l01Mod_ok a m w (by omega) i;go_enter Tryz.func269,Tryz.ntmps269;go_wp2;go_loopw [5] (λq wr=>∃x:Int,q=.int .i64 x/\1<=x/\x<=m/\w=wr/\Hid (∀y,1<=y->y<x->(a*y)%m≠1)) (λq _=>(m-intOf q).toNat)
 case atStart=>exact⟨1,rfl,by omega,by omega,rfl,Lib.hid (λy h1 i=>by omega)⟩
 case round=>
  obtain⟨x,rfl,hx1,hxm,rfl,A⟩:=hrel;by_cases r:x<m
  ·have l:0<=a*x:=Int.mul_nonneg (by omega) (by omega)
   have D:a*x<=7*7:=Int.mul_le_mul (by omega) (by omega) (by omega) (by omega);have I:IntKind.i64.wrap (a*x)=a*x:=IntWalk.i64_in _ (by omega);have J:(a*x).tmod m=(a*x)%m:=Int.tmod_eq_emod_of_nonneg l;have E:(m == 0)=false:=by simp;omega
   by_cases e:(a*x)%m=1
   ·have F:((a*x)%m == 1)=true:=by simp[e]
    have p:(x*a)%m=1:=by rw[Int.mul_comm];exact e
    have u:=Lib.hid p;clear e p;go_wp2_with fail
    refine Calls.mono b ?_;rintro G H ⟨rfl,rfl⟩;clear b;go_wp2;go_ret;exact⟨_,rfl,Ext.refl _,x,rfl,by omega,r,u.out⟩
   ·have F:((a*x)%m == 1)=false:=by simp[e]
    have u:=Lib.hid e;clear e;go_wp2_with fail
    refine Calls.mono b ?_;rintro G H ⟨rfl,rfl⟩;clear b;go_wp2;go_roundw
    case rel=>exact⟨x+1,by go_num,by omega,by omega,trivial,Lib.hid (λy h1 i=>by
     by_cases hy:y=x
     ·rw[hy];exact u.out
     ·exact A.out y h1 (by omega))⟩
    case measure=>simp[intOf];omega
  ·obtain ⟨y,h1,i,h3⟩:=B.out
   exact absurd h3 (A.out y h1 (by omega))
theorem tab_keptF {B gb n W m:Nat}{i p:World}{v1 v2:Value}{b:List (List Int)}(h:TabAt B (λk=>v1.ownBlock=some k\/k<m) i gb n b) (q:∀k,v1.ownBlock=some k->W<=k) (r:gb<W)
  (a:i.grownBy p v1.ownBlock) (j:v2.ownBlock=v1.ownBlock\/∀k,v2.ownBlock=some k->i.heap.size<=k):TabAt B (λk=>v2.ownBlock=some k\/k<m) p gb n b:=by
 refine h.kept a.size (λk hk l=>a.block k hk (λe => ?_)) (λk hk e => ?_)
 ·rcases l with rfl|l
  ·have:=q _ e.symm;omega
  ·exact l (.inl e.symm)
 ·rcases e with e|e
  ·rcases j with h|h
   ·rw[<-h];exact .inl e
   ·have:=h k e;omega
  ·exact .inr e
theorem SlO.shq {bad:Nat->Prop}{B:Nat}{w:World}{v:Value}{xs:List (List Int)}(h:RowsO B w v xs) (a:∀k,bad k->k<B):ShQ bad B w v xs:=by
 obtain⟨b,G,hl,hO,hG,_,hE⟩:=h;refine⟨b,hl,QOwn.of hO,λi hi=>Ints.sub (hE i hi).ints (λk hk _ => ?_)⟩;obtain⟨h1,h2,_⟩:=hG i k hi hk;exact⟨λh=>by have:=a k h;omega,h2⟩
def HeldB (w0 a:World) (g:Nat) (w':World):Prop:=Ext w0 w'/\w'.heap[g]? = a.heap[g]?
theorem heldB_ext {w0 a w':World}{g:Nat}(b:Ext w0 a) (e:g<a.heap.size) (h:Ext a w'):HeldB w0 a g w':=⟨grown_trans b h,h.block g e (by simp)⟩
theorem HeldB.cell {w0 a w':World}{g i:Nat}{v:Value}(h:HeldB w0 a g w') (b:a.cell? ⟨g,i,none⟩=some v):w'.cell? ⟨g,i,none⟩=some v:=(World.cell?_of_block (w:=a) h.2).trans b
theorem l12CloseF_ok (P:Pr) (G:Grp P) (w:World) (pv lv:Value) (L:List (List Int)) (Sp Sr:Nat->Prop) (cx:PresV Sp w pv P) (hl:Rows2 Sr w lv L) (hL:∀x∈L,Vec P.orders x) (c':L.length<=10000) :
  Calls Tryz.prog 176 #[pv,lv] w (Ret w λw' v=>ShQ (λk=>k<w.heap.size) w.heap.size w' v (cseq P (genP P (λx=>x∈L)))):=by
 have hP:=G.v;have dt:=hP.n6;obtain⟨vo,vp,vc,rfl,h3⟩:=cx;have bB:=PresP.box h3 28;have aI:Ext w (w.alloc (.cells #[vo,vp,vc] 28)):=World.grownBy_alloc _ _ _;have bC:(w.alloc (.cells #[vo,vp,vc] 28)).heap.size=w.heap.size+1:=by simp
 obtain⟨du,eo,dQ,_,_,hc0,a8,a9,E⟩:=bB.at;simp only[Nat.zero_add] at a8 a9;obtain⟨ao,X,rfl,_,_⟩:=E.o.shape;clear bB;obtain⟨al,capl,rfl,_,_⟩:=Sl.shape hl;have bD:∀x∈L,x.length<=1000000:=λx hx=>by rw[(hL x hx).1];omega
 have HL:=Lib.hid (And.intro hL bD);clear hL bD;go_enter Tryz.func176,Tryz.ntmps176;go_wp2_with (first|(at_make;refine wp_make_tab rfl _ _ rfl w.heap.size P.orders.length (w.heap.size+1) (by simp) _ rfl rfl rfl (by omega) (by omega) ?_;intro D bE bF bG)|fail)
 have HS:=Lib.hid bC;clear bC;generalize cB:w.alloc (.cells #[vo,vp,vc] 28)=w0 at *;clear cB;have bH:=Rows2.ext hl aI;clear hl;have ag:w.heap.size+1<D.heap.size:=bG;refine Calls.mono (l01Own2_ok D _ L Sr (Rows2.ext bH bF) HL.out.2 (by omega)) ?_;rintro e2 w2 ⟨a',rfl,bI,mM⟩;have ba:ShQ (λk=>k=w.heap.size+1) D.heap.size w2 a' L:=mM.shq (λk hk=>by omega);have aZ:=grown_trans bF bI;have bb:∀k,a'.ownBlock=some k->D.heap.size<=k:=λk hk=>(ba.lt k hk).1;have bJ:TabAt w.heap.size (λk=>a'.ownBlock=some k\/k<w.heap.size) w2 (w.heap.size+1) P.orders.length (List.replicate P.orders.length []):=(bE _).ext bI;clear bE mM bH;-- facts of the box and the orders
 have bK:∀w',Ext w0 w'->w'.cell? ⟨w.heap.size,0,none⟩=some (.slice ao P.orders.length X)/\w'.cell? ⟨w.heap.size,1,none⟩=some eo/\w'.cell? ⟨w.heap.size,2,none⟩=some dQ:=λw' h=>⟨h.cell hc0 (by simp),h.cell a8 (by simp),h.cell a9 (by simp)⟩;have HB:=Lib.hid bK;clear bK hc0 a8 a9;obtain⟨Q,hQ⟩:∃Q:List Int->Prop,Q=λx=>x=zeros P.orders.length\/x∈L.reverse:=⟨_,rfl⟩
 have ah:∃R,AddInv P Q (gt (List.replicate P.orders.length [])) L.reverse R:=by
  rw[hQ];exact⟨_,G.addInv_start G.ind_one (λx hx=>HL.out.1 x (List.mem_reverse.1 hx))⟩
 have bL:genP P Q=genP P (λx=>x∈L):=by
  rw[hQ,genP_one];congr 1
  funext x
  simp
 have bM:=Lib.hid (And.intro ah bL);clear ah bL hQ;go_wp2
 go_loopg [7] (miss (List.replicate P.orders.length ([]:List Int)) P.orders.length*(P.orders.length+3)+L.length) (λgk qv wr=>∃(b q:List (List Int)),gk<=20000/\gk=miss b P.orders.length*(P.orders.length+3)+q.length/\Ext w0 wr /\
  TabAt w.heap.size (λk=>qv.ownBlock=some k\/k<w.heap.size) wr (w.heap.size+1) P.orders.length b/\ShQ (λk=>k=w.heap.size+1) D.heap.size wr qv q/\Hid (∃R,AddInv P Q (gt b) q.reverse R))
 case atStart=>
  have bc:miss (List.replicate P.orders.length ([]:List Int)) P.orders.length*(P.orders.length+3)+L.length<=20000:=by
   have h3:miss (List.replicate P.orders.length ([]:List Int)) P.orders.length*(P.orders.length+3)<=6*9:=Nat.mul_le_mul (by have:=miss_le (List.replicate P.orders.length ([]:List Int)) P.orders.length;omega) (by omega);omega
  exact⟨_,L,bc,rfl,aZ,bJ,ba,Lib.hid bM.out.1⟩
 case round =>
  clear bJ ba bb aZ;obtain⟨b,q,hgkb,bd,hg,hT,hq,p⟩:=hrel;have aJ:=hT.len;obtain⟨cD,hb2,hb3⟩:=HB.out wr hg
  have cE:q=[]\/∃l y,q=l++[y]:=by
   rcases List.eq_nil_or_concat q with h|⟨l,y,h⟩
   ·exact .inl h
   ·exact .inr ⟨l,y,by rw[h,List.concat_eq_append]⟩
  rcases cE with rfl|⟨l,y,rfl⟩
  ·obtain ⟨aq,capq,rfl,_⟩:=hq.shape
   have cF:w.heap.size<=wr.heap.size:=(grown_trans aI hg).size;have hI:Ind P (genP P Q) (gt b):=by obtain⟨R,p⟩:=p.out;exact G.addInv_end p
   have HI:=Lib.hid hI;clear hI p;go_wp2_with fail
   refine Calls.mono (l12FullF_ok P G wr _ _ b (genP P Q) Any _ ⟨_,_,_,rfl,Pres3.ext E hg⟩ (hT.rows (by omega)) aJ HI.out (λk=>k<w.heap.size) (λk hk=>⟨by have:=(grown_trans aI hg).size;omega,λe=>by rcases e with e|e;omega;exact e.2 (.inr hk)⟩)) ?_;rintro eF wF ⟨vF,rfl,cG,bf⟩;rw[bM.out.2] at bf;obtain⟨aR,capR,rfl,_⟩:=bf.shape;go_wp2;go_ret;exact⟨_,rfl,grown_trans aI (grown_trans hg cG),bf.weak cF⟩
  ·obtain ⟨aq, capq,rfl,_⟩:=hq.shape
   obtain⟨F,aK⟩:∃F,F=l.length:=⟨_,rfl⟩;obtain⟨gq,off,u,rfl,hgB,hglt,i,aL⟩:=ShQ.head hq l.length (by simp);rw[gt_concat] at aL
   have dc:F<=capq:=by
    obtain⟨vs,hvl,cH,_⟩:=hq;rcases cH with⟨h,_⟩|⟨g,o,cp,cur,hv,_,_,h1,_⟩
    ·simp at h
    ·simp only[Value.slice.injEq] at hv
     obtain⟨_,_,rfl⟩:=hv;simp at hvl;omega
   have bh:=hq.init;rw[<-aK] at i bh;have bi:(l++[y]).length=F+1:=by simp[aK]
   obtain⟨m,hm⟩:∃m,m=(l++[y]).length:=⟨_,rfl⟩;rw[<-hm] at bi bd ⊢;have bj:Vec P.orders y:=by obtain⟨R,p⟩:=p.out;exact p.vec _ (p.que _ (by simp))
   have a0:∀d,d<P.orders.length->gt b d≠[]->T P d (gt b d)/\gt (gt b d) d=1:=by obtain⟨R,p⟩:=p.out;exact λd hd h=>(p.tab d hd h).2
   have bO:∃R,AddInv P Q (gt b) (y :: l.reverse) R:=by
    obtain⟨R,p⟩:=p.out;rw[List.reverse_append] at p;exact⟨R,p⟩
   obtain⟨ay,capy,bQ,_,_⟩:=aL.shape;rw[bj.1] at bQ;subst bQ;have HY:=Lib.hid (And.intro bj (And.intro a0 (And.intro bO (And.intro aK bd))));clear bj a0 bO p aK bd;have dy:m<=20000:=by have:=HY.out.2.2.2.2;omega
   have dz:(0:Int)<m:=by omega
   have cJ:IntKind.i64.wrap ((m:Int)-1)=(F:Int):=by rw[show(m:Int)-1=(F:Int) by omega];exact IntWalk.i64_in _ (by omega)
   have dA:(F:Int)<m:=by omega
   have bc:(0:Int)<=F:=by omega
   have bR:=run_head_rows wr (some ⟨gq,off,none⟩) m capq (F:Int) bc (by omega);rw[show((F:Int)).toNat=F by omega] at bR;have HM:=Lib.hid (And.intro bi hm);clear bi hm;have bS:=hT.rows (by omega);go_wp2_with fail
   refine Calls.mono (l12Strip_ok P G wr _ _ _ b y Any _ _ ⟨_,_,_,rfl,Pres3.ext E hg⟩ bS aL HY.out.1 aJ HY.out.2.1) ?_;rintro eS wS ⟨vS,rfl,gG,d,rv,Y,rfl,aM,j4,hdn,kQ⟩;have r:=j4.vec.1;have bk:=aM.ints (by rw[r.1];omega)
   have bT:∃R,AddInv P Q (gt b) (Y :: l.reverse) R:=by
    obtain⟨R,p⟩:=HY.out.2.2.1;exact j4.inv _ _ _ p
   obtain⟨ar,capr,bU,_,_⟩:=bk.shape;rw[r.1] at bU;subst bU;have J:=grown_trans hg gG;have bl:=bh.ext gG;have aN:TabAt w.heap.size (λk=>(Value.slice (some ⟨gq,off,none⟩) F capq).ownBlock=some k\/k<w.heap.size) wS (w.heap.size+1) P.orders.length b:=hT.ext gG;have bV:=Lib.hid aJ;clear hT hq bh bS aL i bR cJ cD hb2 hb3 aJ;have bW:=j4.vec;have aj:=Lib.hid (And.intro bT (And.intro bW r));clear bT bW r j4;by_cases hd:d=P.orders.length
   ·have bX:Y=zeros P.orders.length:=T.top hP (by rw[<-hd];exact aj.out.2.1)
    have cK:Hid (∃R,AddInv P Q (gt b) l.reverse R):=by
     obtain⟨R,p⟩:=aj.out.1;exact Lib.hid ⟨R,addInv_drop p bX⟩
    clear kQ bX;subst hd;go_wp2;go_roundg (gk-1)
    case measure=>have:=HY.out.2.2.2.2;omega
    case rel=>exact⟨b,l,by omega,by have:=HY.out.2.2.2.2;have:=HY.out.2.2.2.1;have:=HM.out.1;omega,J,aN,bl,cK⟩
   ·have A : d<P.orders.length:=by omega
    obtain⟨hy0,bY⟩:=kQ A;clear kQ;have dB:((d:Int) == (P.orders.length:Int))=false:=by simp;omega
    have r:=aj.out.2.2;have ho:=hP.ord7 d A;have bZ:=hP.ord d A;have cL:=r.2 d A;obtain⟨br,mN,rfl,_,_,mO⟩:=Ints.at bk d (by rw[r.1];exact A);obtain⟨bo,oo,rfl,_,_,dM⟩:=Ints.at (Ints.ext E.o J) d A;have b1:1<=gt Y d:=by omega
    have HD:=Lib.hid (And.intro bY (And.intro bZ (And.intro hy0 hd)));clear bY bZ hy0 hd;have dC:(0:Int)<=d:=by omega
    have df:(d:Int)<P.orders.length:=by omega
    have e1:∀w',Ext wS w'->w'.cell? ⟨w.heap.size,0,none⟩=some (.slice (some ⟨bo,oo,none⟩) P.orders.length X):=λw' h=>(HB.out w' (grown_trans J h)).1;have e2:∀w',Ext wS w'->w'.cell? ⟨w.heap.size,1,none⟩=some eo:=λw' h=>(HB.out w' (grown_trans J h)).2.1;have e3:∀w',Ext wS w'->w'.cell? ⟨w.heap.size,2,none⟩=some dQ:=λw' h=>(HB.out w' (grown_trans J h)).2.2;have e4:∀w',Ext wS w'->w'.cell? ⟨br,mN+d,none⟩=some (.int .i64 (gt Y d)):=λw' h=>h.cell mO (by simp);have e5:∀w',Ext wS w'->w'.cell? ⟨bo,oo+d,none⟩=some (.int .i64 (gt P.orders d)):=λw' h=>h.cell dM (by simp);clear mO dM;go_wp2
    go_region_held3 (λw'=>Ext wS w') (first|exact grown_drew _ _|assumption)
     (first
      | (go_at_call 269;refine Calls.mono (Calls.rel (w0:=wS) (by first|exact grown_drew _ _|assumption) (l01Inv_ok (gt Y d) (gt P.orders d) _ HD.out.2.1 b1 cL.2)) ?_;rintro eI wI ⟨vI,rfl,jI,mI,kk,rfl,a1,hk2',hkk⟩;have HK:=Lib.hid hkk;clear hkk)
      | (go_at_call 241;refine Calls.mono (Calls.rel (w0:=wS) (by assumption) (l10Pow_ok P G _ _ _ Y _ Any Any ⟨_,_,_,rfl,Pres3.ext (Pres3.ext E J) (by assumption)⟩ (Ints.sub (Ints.ext bk (by assumption)) (λ_ _ _=>trivial)) r (by omega))) ?_;rintro eZ wZ ⟨zv,rfl,K,hsZ,ak⟩))
    clear e1 e2 e3 e4 e5;rw[pwZ_nat _ _ _ a1] at ak;obtain⟨Z,hZ⟩:∃Z,Z=pw P Y kk.toNat:=⟨_,rfl⟩;rw[<-hZ] at ak;have bm:Vec P.orders Z:=by rw[hZ];exact G.pw_vec r _
    have am:Z.length=P.orders.length:=bm.1;have an:Z≠[]:=λh=>by rw[h] at am;simp at am;omega
    have b5:=grown_trans J K;have dh:=gG.size
    have aO:Ints (λk=>k≠w.heap.size+1/\¬((Value.slice (some ⟨gq,off,none⟩) F capq).ownBlock=some k\/k<w.heap.size)) wZ zv Z:=ints_of_own ak (by omega) (λk hk=>by
     have h1:=(ak.lt k hk).1;exact⟨by omega,λe=>e.elim (λe=>by have:=own_blk e;omega) (λe=>by omega)⟩)
    obtain⟨az,a,b6,_,_⟩:=aO.shape;rw[am] at b6;subst b6;obtain⟨b7,M⟩:=(aN.ext K).put d aO an;obtain⟨cO,ap⟩:=(aN.ext K).at d A;have cP:wZ.cell? ⟨w.heap.size+1,d,none⟩=some (.slice none 0 0):=ap.elim (λh=>h.2) (λh=>absurd HD.out.1 h.1);have au:∀(S:Nat->Prop) k,(k≠w.heap.size+1/\S k)->k<wZ.heap.size->(k≠w.heap.size+1/\S k)/\k<(wZ.setCell ⟨w.heap.size+1,d,none⟩ (.slice az P.orders.length a)).heap.size/\(wZ.setCell ⟨w.heap.size+1,d,none⟩ (.slice az P.orders.length a)).heap[k]? = wZ.heap[k]? :=λS k hk ad=>⟨hk,Nat.lt_of_lt_of_le ad M.size,M.block k ad (λe=>hk.1 (by cases e;rfl))⟩;have b8:=Ints.sub (Ints.mono aO (au _)) (S':=λk=>k≠w.heap.size+1/\¬((Value.slice (some ⟨gq,off,none⟩) F capq).ownBlock=some k)) (λk hk _=>⟨hk.1,λe=>hk.2 (.inl e)⟩)
    have b9:Ints (λk=>k≠w.heap.size+1/\¬((Value.slice (some ⟨gq,off,none⟩) F capq).ownBlock=some k)) (wZ.setCell ⟨w.heap.size+1,d,none⟩ (.slice az P.orders.length a)) (.slice (some ⟨br,mN,none⟩) P.orders.length capr) Y:=Ints.mono (ints_of_own (aM.ext0 K) (by rw[r.1];omega) (λk hk=>by
     have h1:=((aM.ext0 K).lt k hk).1;exact⟨by omega,λe=>by have:=own_blk e;omega⟩)) (au _)
    have b':ShQ (λk=>k=w.heap.size+1) D.heap.size (wZ.setCell ⟨w.heap.size+1,d,none⟩ (.slice az P.orders.length a)) (.slice (some ⟨gq,off,none⟩) F capq) l:=(bl.ext K).kept M.size (λj hj hc=>M.block j hj (λe=>by
     have e:=Option.some.inj e;subst e;rcases hc with hc|hc
     ·have:=own_blk hc;omega
     ·exact hc rfl)) (λ_ _ h=>h)
    have a2:Ext w0 (wZ.setCell ⟨w.heap.size+1,d,none⟩ (.slice az P.orders.length a)):=grown_own b5 M (λj hj ad=>by cases hj;have:=HS.out;omega);have N:∀k,(Value.slice (some ⟨gq,off,none⟩) F capq).ownBlock=some k->D.heap.size<=k:=λk hk=>by have:=own_blk hk;omega
    have HZ:=Lib.hid (And.intro hZ (And.intro bm (And.intro am an)));clear hZ bm am an ap aN bl ak aM aO;have di:l.length<=20000:=by have:=HY.out.2.2.2.1;omega
    generalize cQ:wZ.setCell ⟨w.heap.size+1,d,none⟩ (.slice az P.orders.length a)=w5 at *;have cR:D.heap.size<=w5.heap.size:=by have:=a2.size;have:=M.size;have:=K.size;omega
    go_wp2_with (first|(at_builtin;refine wp_shq_app rfl _ _ rfl (λk=>k=w.heap.size+1) D.heap.size _ _ l Y rfl w5 b' rfl b9 rfl (by omega) cR ?_;intro v6 w6 aQ aw bn;have aa:=grown_own a2 aw (λj hj ad=>by have:=N j hj;have:=HS.out;omega))|fail)
    have cb:=tab_keptF b7 N ag aw bn;have bp:Ints (λk=>¬(k=w.heap.size+1)/\v6.ownBlock≠some k) w6 (.slice az P.orders.length a) Z:=Ints.mono b8 (q_kept (bad:=λk=>k=w.heap.size+1) aw bn);have dG:D.heap.size<=w6.heap.size:=by have:=aw.size;omega
    have O:∀k,v6.ownBlock=some k->D.heap.size<=k:=λk hk=>(aQ.lt k hk).1;clear cQ au b7 M b8 b9 b' aw bn cO cP N;have cc:Vec P.orders (pw P Z (gt P.orders d).toNat):=G.pw_vec HZ.out.2.1 _;have ce:(pw P Z (gt P.orders d).toNat).length<=6:=by rw[cc.1];omega
    have cf:pwZ P Z (gt P.orders d)=pw P Z (gt P.orders d).toNat:=pwZ_nat _ _ _ (by omega);have cg:=Lib.hid (And.intro ce cf);clear ce cf cc;have e1:∀w',Ext w0 w'->w'.cell? ⟨w.heap.size,0,none⟩=some (.slice (some ⟨bo,oo,none⟩) P.orders.length X):=λw' h=>(HB.out w' h).1;have e2:∀w',Ext w0 w'->w'.cell? ⟨w.heap.size,1,none⟩=some eo:=λw' h=>(HB.out w' h).2.1;have e3:∀w',Ext w0 w'->w'.cell? ⟨w.heap.size,2,none⟩=some dQ:=λw' h=>(HB.out w' h).2.2;obtain⟨_,_,ch,_,_,dM⟩:=Ints.at E.o d A;have e5:∀w',Ext w0 w'->w'.cell? ⟨bo,oo+d,none⟩=some (.int .i64 (gt P.orders d)):=λw' h=>h.cell (by cases ch;exact dM) (by simp);clear dM ch
    go_region_held3 (λw'=>Ext w0 w') (first|exact grown_trans aa (grown_drew _ _)|assumption|exact grown_trans a4 (World.grownBy_alloc _ _ _))
     (first
      | (go_at_call 241;refine Calls.mono (Calls.rel2 (w0:=w6) (grown_drew _ _) (l10Pow_ok P G _ _ _ Z (gt P.orders d) Any _ ⟨_,_,_,rfl,Pres3.ext E (grown_trans aa (grown_drew _ _))⟩ (bp.ext (grown_drew _ _)) HZ.out.2.1 (by omega))) ?_;rintro eT wT ⟨vT,rfl,C,qW,hsT,aS⟩;have a4:=grown_trans aa C;rw[cg.out.2] at aS;have bq:Ints (λk=>¬(k=w.heap.size+1)/\v6.ownBlock≠some k) wT vT (pw P Z (gt P.orders d).toNat):=ints_of_own aS (by have:=cg.out.1;omega) (λk hk=>by
        have h1:=(aS.lt k hk).1;have h3:=aa.size;exact⟨by omega,λe=>by have:=(aQ.lt k e).2;omega⟩);obtain⟨aT,capT,kP,_,_⟩:=bq.shape;subst kP)
      | (refine step_shq_app rfl _ _ rfl (λk=>k=w.heap.size+1) D.heap.size v6 _ (l++[Y]) _ rfl wT (aQ.ext C) rfl bq rfl (by simp;omega) (by have:=C.size;omega) ?_;intro v7 w7 bt ax bu;have ci:=grown_own a4 ax (λj hj ad=>by have:=O j hj;have:=HS.out;omega)))
    clear e1 e2 e3 e5;have cT:D.heap.size<=w7.heap.size:=by have:=ax.size;have:=C.size;omega
    have cj:=tab_keptF (cb.ext C) O ag ax bu;have ck:Ints (λk=>¬(k=w.heap.size+1)/\v7.ownBlock≠some k) w7 (.slice az P.orders.length a) Z:=Ints.mono (bp.ext C) (q_kept (bad:=λk=>k=w.heap.size+1) ax bu);obtain⟨T1,aA⟩:∃T1,T1=pw P Z (gt P.orders d).toNat:=⟨_,rfl⟩;rw[<-aA] at bt;have cU:=Lib.hid aA;clear aA aQ cb bp O bq aS ax bu;go_wp2
    go_loopw [7,12] (λqv ev aB=>∃(e:Nat) (v8:Value),v8=qv/\ev=.int .i64 e/\e<=P.orders.length/\D.heap.size<=aB.heap.size/\Ext w0 aB/\TabAt w.heap.size (λj=>v8.ownBlock=some j\/j<w.heap.size) aB (w.heap.size+1) P.orders.length (b.set d Z) /\
     ShQ (λk=>k=w.heap.size+1) D.heap.size aB v8 (l++[Y]++[T1]++comsR P b Z e)/\Ints (λj=>¬(j=w.heap.size+1)/\v8.ownBlock≠some j) aB (.slice az P.orders.length a) Z) (λ_ ev _=>P.orders.length-(intOf ev).toNat)
    case atStart=>exact⟨0,v7,rfl,rfl,by omega,cT,ci,cj,by simpa [comsR] using bt,ck⟩
    case round=>
     obtain⟨e,v8,rfl,rfl,he,hs8,H,U,V,ae⟩:=hrel;clear cj bt ck;have W:∀j,v8.ownBlock=some j->D.heap.size<=j:=λj hj=>(V.lt j hj).1;by_cases cm:e<P.orders.length
     ·have dI:(e:Int)<P.orders.length:=by omega
      have dJ:(0:Int)<=e:=by omega
      by_cases aD:e=d
      ·have I:comsR P b Z (e+1)=comsR P b Z e:=by simp only[comsR];rw[if_pos (by rw[aD];exact HD.out.1),List.append_nil]
       have cW:((e:Int) != (d:Int))=false:=by simp[aD]
       have HC:=Lib.hid I;clear I aD;go_wp2;go_roundw
       case rel=>exact⟨e+1,v8,rfl,by go_num,by omega,hs8,H,U,by rw[HC.out];exact V,ae⟩
       case measure=>simp[intOf];omega
      ·have cW:((e:Int) != (d:Int))=true:=by simp;omega
       have cq:gt (b.set d Z) e=gt b e:=gt_set_ne _ _ _ _ (λh=>aD h.symm);obtain⟨_,ap⟩:=U.at e cm;rw[cq] at ap;clear cq aD;rcases ap with⟨h0,i⟩|⟨aV,ab,cr,i,cX⟩
       ·have I:comsR P b Z (e+1)=comsR P b Z e:=by simp only[comsR];rw[if_pos h0,List.append_nil]
        have HC:=Lib.hid I;clear I h0;go_wp2;go_roundw
        case rel=>exact⟨e+1,v8,rfl,by go_num,by omega,hs8,H,U,by rw[HC.out];exact V,ae⟩
        case measure=>simp[intOf];omega
       ·have I:comsR P b Z (e+1)=comsR P b Z e++[comR P Z (gt b e)]:=by simp only[comsR];rw[if_neg aV]
        have aW:=(HY.out.2.1 e cm aV).1.1;have cs:Vec P.orders (comR P Z (gt b e)):=G.mulV (G.invV (G.mulV aW HZ.out.2.1)) (G.mulV HZ.out.2.1 aW)
        have dL:(0:Int)<(gt b e).length:=by
         have:0<(gt b e).length:=List.length_pos_iff.2 aV;omega
        have aX:=comsR_len P b Z e;have HC:=Lib.hid (And.intro I (And.intro aW (And.intro cs aX)));clear I aW cs aX aV;have ac:w.heap.size+1<wr.heap.size:=by have:=U.lt;omega
        go_wp2;have e1:∀w',HeldB w0 wr (w.heap.size+1) w'->w'.cell? ⟨w.heap.size,0,none⟩=some (.slice (some ⟨bo,oo,none⟩) P.orders.length X):=λw' h=>(HB.out w' h.1).1;have e2:∀w',HeldB w0 wr (w.heap.size+1) w'->w'.cell? ⟨w.heap.size,1,none⟩=some eo:=λw' h=>(HB.out w' h.1).2.1;have e3:∀w',HeldB w0 wr (w.heap.size+1) w'->w'.cell? ⟨w.heap.size,2,none⟩=some dQ:=λw' h=>(HB.out w' h.1).2.2;have e4:∀w',HeldB w0 wr (w.heap.size+1) w'->w'.cell? ⟨w.heap.size+1,e,none⟩=some (.slice (some ab) (gt b e).length cr):=λw' h=>h.cell i;clear i
        go_region_held3 (λw'=>HeldB w0 wr (w.heap.size+1) w') (first|exact heldB_ext H ac (grown_drew _ _)|assumption|exact heldB_ext H ac B|exact heldB_ext H ac (grown_trans B (World.grownBy_alloc _ _ _)))
         (first
          | (go_at_call 270;refine Calls.mono (Calls.rel2 (w0:=wr) (grown_drew _ _) (l10Comm_ok P G _ _ _ _ Z (gt b e) Any _ _ ⟨_,_,_,rfl,Pres3.ext E (grown_trans H (grown_drew _ _))⟩ (ae.ext (grown_drew _ _)) (Ints.ext cX (grown_drew _ _)) HZ.out.2.1 HC.out.2.1)) ?_;rintro eC wC ⟨vC,rfl,B,lW,hsC,bv⟩;have bw:Ints (λk=>¬(k=w.heap.size+1)/\v8.ownBlock≠some k) wC vC (comR P Z (gt b e)):=ints_of_own bv (by rw[HC.out.2.2.1.1];omega) (λk hk=>by
            have h1:=(bv.lt k hk).1;exact⟨by omega,λe=>by have:=(V.lt k e).2;omega⟩);obtain⟨aC,capC,iu,_,_⟩:=bw.shape;subst iu)
          | (refine step_shq_app rfl _ _ rfl (λk=>k=w.heap.size+1) D.heap.size v8 _ (l++[Y]++[T1]++comsR P b Z e) _ rfl wC (V.ext B) rfl bw rfl (by have:=HC.out.2.2.2;simp;omega) (by have:=B.size;omega) ?_;intro v9 w9 cZ af bx;have c0:HeldB w0 wr (w.heap.size+1) w9:=⟨grown_own (grown_trans H B) af (λj hj ad=>by have:=W j hj;have:=HS.out;omega),(af.block _ (by have:=B.size;omega) (λe=>by have:=W _ e.symm;omega)).trans (B.block _ ac (by simp))⟩))
        clear e1 e2 e3 e4;have c3:D.heap.size<=w9.heap.size:=by have:=af.size;have:=B.size;omega
        have c4:=tab_keptF (U.ext B) W ag af bx;have c5:Ints (λk=>¬(k=w.heap.size+1)/\v9.ownBlock≠some k) w9 (.slice az P.orders.length a) Z:=Ints.mono (ae.ext B) (q_kept (bad:=λk=>k=w.heap.size+1) af bx);clear V U ae af bx bw bv;go_wp2;go_roundw
        case rel=>exact⟨e+1,v9,rfl,by go_num,by omega,c3,c0.1,c4,by rw[HC.out.1,<-List.append_assoc];exact cZ,c5⟩
        case measure=>simp[intOf];omega
     ·have c6:e=P.orders.length:=by omega
      subst c6;have aY:=miss_set (b:=b) (z:=Z) HD.out.1 HZ.out.2.2.2 P.orders.length (by rw[bV.out];exact Nat.le_refl _);rw[if_pos A] at aY;have aX:=comsR_len P b Z P.orders.length;have ct:(l++[Y]++[T1]++comsR P b Z P.orders.length).length<=l.length+2+P.orders.length:=by simp;omega
      have a6:miss b P.orders.length*(P.orders.length+3)=miss (b.set d Z) P.orders.length*(P.orders.length+3)+(P.orders.length+3):=by rw[<-aY,Nat.add_mul,Nat.one_mul]
      have c7:Hid (∃R,AddInv P Q (gt (b.set d Z)) (l++[Y]++[T1]++comsR P b Z P.orders.length).reverse R):=by
       obtain⟨R,p⟩:=aj.out.1
       have ah:=G.close_step (q':=(l++[Y]++[T1]++comsR P b Z P.orders.length).reverse) p A aj.out.2.1 HD.out.1 bV.out kk a1 HK.out (λx=>by
        rw[<-HZ.out.1,<-cU.out];simp only[List.mem_reverse,List.mem_append,List.mem_singleton,or_assoc])
       rw[<-HZ.out.1] at ah;exact Lib.hid ah
      have a7:miss (b.set d Z) P.orders.length*(P.orders.length+3)+(l++[Y]++[T1]++comsR P b Z P.orders.length).length<gk:=by
       have:=HY.out.2.2.2.2;have:=HY.out.2.2.2.1;have:=HM.out.1;omega
      have HX:=Lib.hid (And.intro ct (And.intro a7 (And.intro a6 aY)));clear ct a6 aY a7 aX ae;go_wp2;go_roundg (miss (b.set d Z) P.orders.length*(P.orders.length+3)+(l++[Y]++[T1]++comsR P b Z P.orders.length).length)
      case measure=>exact HX.out.2.1
      case rel=>exact⟨b.set d Z,_,by have:=HX.out.2.1;omega,rfl,H,U,V,c7⟩
theorem l12Close_ok (P:Pr) (G:Grp P) (w:World) (pv b:Value) (L:List (List Int)) (i j:Nat->Prop) (e:PresV i w pv P) (k:Rows2 j w b L) (l:∀x∈L,Vec P.orders x) (a:L.length<=10000) :
  Calls Tryz.prog 176 #[pv,b] w (Ret w λw' v=>Rows2 Any w' v (cseq P (genP P (λx=>x∈L)))):=
 (l12CloseF_ok P G w pv b L i j e k l a).mono (λ_ _ ⟨v,he,hg,h⟩=>⟨v,he,hg,h.rows⟩)
theorem expZ_neg (o e:List Int):expZB o e (-1)=expB o e:=by
 unfold expZB expB;congr 1
 congr 1
 funext i
 have:decide ((i:Int) <= -1)=false:=by simp;omega
 rw[this];simp
theorem l10Element_ok (P:Pr) (hP:Valid P) (w:World) (pv m:Value) (X:List Int) (q p:Nat->Prop) (e:PresV q w pv P) (hx:Ints p w m X) :
  Calls Tryz.prog 313 #[pv,m] w (Ret w λ_ v=>v=.bool (expB P.orders X)):=by
 obtain⟨vo,vp,vc,rfl,h3⟩:=e;have j:=PresP.box h3 28;have b:Ext w (w.alloc (.cells #[vo,vp,vc] 28)):=World.grownBy_alloc _ _ _;have k:=hx.ext b;obtain⟨r,capo,dM,l⟩:=j.ordAt;obtain⟨u,capx,rfl,_,_⟩:=hx.shape;have a:=l07Exponents_ok _ _ _ P.orders X (-1) Any p l k (λi hi=>by have:=hP.ord7 i hi;omega);rw[expZ_neg] at a;go_enter Tryz.func313,Tryz.ntmps313;go_wp2_with fail
 refine Calls.mono a ?_;rintro y z ⟨rfl,hd⟩;clear a;go_wp2;go_ret;exact⟨_,rfl,grown_trans b hd.ext,rfl⟩
theorem l10Elements_ok (P:Pr) (hP:Valid P) (w:World) (pv N:Value) (L:List (List Int)) (V W:Nat->Prop) (E:PresV V w pv P) (q:Rows2 W w N L) :
  Calls Tryz.prog 248 #[pv,N] w (Ret w λ_ v=>∃r:Bool,v=.bool r/\(r=true↔∀x∈L,Vec P.orders x)):=by
 obtain⟨vo,vp,vc,rfl,h3⟩:=E;have u:=PresP.box h3 28;have k:Ext w (w.alloc (.cells #[vo,vp,vc] 28)):=World.grownBy_alloc _ _ _;have F:=Rows2.ext q k;obtain⟨al,capl,rfl,_,_⟩:=Sl.shape q;obtain⟨G,eo,dQ,_,_,H,y,z,A⟩:=u.at;simp only[Nat.zero_add] at y z;clear u q;go_enter Tryz.func248,Tryz.ntmps248;go_wp2;generalize I:w.alloc (.cells #[vo,vp,vc] 28)=w0 at *;clear I;go_loopw [5] (λJ wr=>∃i:Nat,J=.int .i64 i/\i<=L.length/\Ext w0 wr/\Hid (∀j,j<i->Vec P.orders (gt L j))) (λJ _=>L.length-(intOf J).toNat)
 case atStart=>exact⟨0,rfl,by omega,Ext.refl _,Lib.hid (λj h=>by omega)⟩
 case round=>
  obtain⟨i,rfl,hi,e,hV⟩:=hrel;by_cases B:i<L.length
  ·have O:(i:Int)<L.length:=by omega
   obtain⟨b,off,a2,C,rfl,_,_,hc,hr⟩:=Rows2.at (Rows2.ext F e) i B;have Q:∀w',Ext wr w'->w'.cell? ⟨w.heap.size,0,none⟩=some G:=λw' h=>(grown_trans e h).cell H (by simp);have R:∀w',Ext wr w'->w'.cell? ⟨w.heap.size,1,none⟩=some eo:=λw' h=>(grown_trans e h).cell y (by simp);have S:∀w',Ext wr w'->w'.cell? ⟨w.heap.size,2,none⟩=some dQ:=λw' h=>(grown_trans e h).cell z (by simp);have U:∀w',Ext wr w'->w'.cell? ⟨b,off+i,none⟩=some (.slice a2 (gt L i).length C):=λw' h=>h.cell hc (by simp);clear hc;cases hx:expB P.orders (gt L i) with
   | true=>
    have K:=Lib.hid (expB_vec.1 hx);have m:=Lib.hid hx;clear hx;go_wp2
    go_region_held3 (λw'=>Ext wr w') (first|exact grown_drew _ _|assumption)
     (first
      | (go_at_call 313;refine Calls.mono (Calls.rel (w0:=wr) (by assumption) (l10Element_ok P hP _ _ _ (gt L i) Any Any ⟨_,_,_,rfl,Pres3.ext (Pres3.ext A e) (by assumption)⟩ (Ints.sub (Ints.ext hr (by assumption)) (λ_ _ _=>trivial)))) ?_;rintro X Y ⟨Z,rfl,p,hsA,a⟩;rw[m.out] at a;subst a))
    clear Q R S U;go_wp2;go_roundw
    case rel=>exact⟨i+1,by go_num,by omega,grown_trans e p,Lib.hid (λj hj=>by
     rcases Nat.lt_succ_iff_lt_or_eq.1 hj with h|h
     ·exact hV.out j h
     ·rw[h];exact K.out)⟩
    case measure=>simp[intOf];omega
   | false=>
    have D:¬ ∀x∈L,Vec P.orders x:=λh=>by
     have:=expB_vec.2 (h _ (gtMem B));rw[hx] at this;cases this
    have K:=Lib.hid D;have m:=Lib.hid hx;clear hx D;go_wp2
    go_region_held3 (λw'=>Ext wr w') (first|exact grown_drew _ _|assumption)
     (first
      | (go_at_call 313;refine Calls.mono (Calls.rel (w0:=wr) (by assumption) (l10Element_ok P hP _ _ _ (gt L i) Any Any ⟨_,_,_,rfl,Pres3.ext (Pres3.ext A e) (by assumption)⟩ (Ints.sub (Ints.ext hr (by assumption)) (λ_ _ _=>trivial)))) ?_;rintro X Y ⟨Z,rfl,p,hsA,a⟩;rw[m.out] at a;subst a))
    clear Q R S U;go_wp2;go_ret;exact⟨_,rfl,grown_trans k (grown_trans e p),false,rfl,by simp only[Bool.false_eq_true,false_iff];exact K.out⟩
  ·have M:i=L.length:=by omega
   subst M;go_wp2;go_ret
   exact ⟨_,rfl,grown_trans k e,true,rfl,by
    simp only[true_iff];intro x hx;obtain⟨l,q,rfl⟩:=List.getElem_of_mem hx;rw[<-gt_eq L l q];exact hV.out l q⟩
theorem l01Same2_ok (v1 v2:Value) (j l:List (List Int)) (w:World) (F G:Nat->Prop) (h1:Rows2 F w v1 j) (A:Rows2 G w v2 l) :
  Calls Tryz.prog 251 #[v1,v2] w (Ret w λ_ v=>v=.bool (eqB j l)):=by
 obtain⟨a,cap,rfl,_,_⟩:=Sl.shape h1;obtain⟨a2,cap2,rfl,_,_⟩:=Sl.shape A;by_cases p:j.length=l.length
 ·have H:((j.length:Int) != (l.length:Int))=false:=by simp[p]
  have I:j.length<=l.length/\l.length<=j.length:=by omega
  have y:=Lib.hid p;clear p;go_enter Tryz.func251,Tryz.ntmps251;go_wp2;go_loopw [5] (λi wr=>∃k:Nat,i=.int .i64 k/\k<=j.length/\Ext w wr/\∀i,i<k->gt j i=gt l i) (λi _=>j.length-(intOf i).toNat)
  case atStart=>exact⟨0,rfl,by omega,Ext.refl _,λi hi=>by omega⟩
  case round=>
   obtain⟨k,rfl,hk,q,hz⟩:=hrel;have B:=Lib.hid hz;clear hz;by_cases z:k<j.length
   ·obtain ⟨b,off,x1,c1,rfl,_,_,hc,r⟩:=Rows2.at (Rows2.ext h1 q) k z
    obtain⟨b2,off2,x2,c2,rfl,_,_,hc2,u⟩:=Rows2.at (Rows2.ext A q) k (by omega);have C:∀w',Ext wr w'->w'.cell? ⟨b,off+k,none⟩=some (.slice x1 (gt j k).length c1):=λw' h=>h.cell hc (by simp);have D:∀w',Ext wr w'->w'.cell? ⟨b2,off2+k,none⟩=some (.slice x2 (gt l k).length c2):=λw' h=>h.cell hc2 (by simp);clear hc hc2;have E:k<l.length:=by omega
    go_wp2;cases hx:eqB (gt j k) (gt l k) with
    | true=>
     have m:=Lib.hid hx
     go_region_held3 (λw'=>Ext wr w') (first|exact grown_drew _ _|assumption)
      (first
       | (go_at_call 250;refine Calls.mono (Calls.rel (w0:=wr) (by assumption) (l01Same_ok _ _ _ _ _ Any Any (Ints.sub (Ints.ext r (by assumption)) (λ_ _ _=>trivial)) (Ints.sub (Ints.ext u (by assumption)) (λ_ _ _=>trivial)))) ?_;rintro J K ⟨L,rfl,eu,hsA,rfl⟩))
     clear C D;go_wp2;go_roundw
     case rel=>exact⟨k+1,by go_num,by omega,grown_trans q eu,λi hi=>by
      rcases Nat.lt_or_ge i k with h1|h1
      ·exact B.out i h1
      ·have:i=k:=by omega
       rw[this];exact eqB_true.1 m.out⟩
     case measure=>simp[intOf];omega
    | false=>
     have m:=Lib.hid hx
     go_region_held3 (λw'=>Ext wr w') (first|exact grown_drew _ _|assumption)
      (first
       | (go_at_call 250;refine Calls.mono (Calls.rel (w0:=wr) (by assumption) (l01Same_ok _ _ _ _ _ Any Any (Ints.sub (Ints.ext r (by assumption)) (λ_ _ _=>trivial)) (Ints.sub (Ints.ext u (by assumption)) (λ_ _ _=>trivial)))) ?_;rintro J K ⟨L,rfl,eu,hsA,rfl⟩))
     clear C D;go_wp2;go_ret;exact⟨_,rfl,grown_trans q eu,by rw[eqB_false_at (hx:=eqB_false.1 m.out)];rfl⟩
   ·go_wp2
    go_ret;exact⟨_,rfl,q,by rw[eqB_true.2 (ext_gt y.out (λi hi=>B.out i (by omega)))];rfl⟩
 ·have H:((j.length:Int) != (l.length:Int))=true:=by simp;omega
  have y:=Lib.hid p;clear p;go_enter Tryz.func251,Tryz.ntmps251;go_wp2;go_ret;exact⟨_,rfl,Ext.refl _,by rw[eqB_false.2 (λe=>y.out (by rw[e]))];rfl⟩
theorem subB_iff {P:Pr}(G:Grp P) (u:List (List Int)):SubB P u↔u.length<=P.orders.length/\(∀x∈u,Vec P.orders x)/\cseq P (genP P (λx=>x∈u))=u:=
 ⟨λh=>⟨G.sub_len h,h.1,h.2.symm⟩,λh=>⟨h.2.1,h.2.2.symm⟩⟩
theorem l12Is_ok (P:Pr) (G:Grp P) (w:World) (pv K:Value) (U:List (List Int)) (L u:Nat->Prop) (y:PresV L w pv P) (z:Rows2 u w K U) :
  Calls Tryz.prog 217 #[pv,K] w (Ret w λ_ v=>∃r:Bool,v=.bool r/\(r=true↔SubB P U)):=by
 have hP:=G.v;have M:=hP.n6;obtain⟨vo,vp,vc,rfl,h3⟩:=y;have m:=PresP.box h3 28;have i:Ext w (w.alloc (.cells #[vo,vp,vc] 28)):=World.grownBy_alloc _ _ _;obtain⟨N,eo,dQ,_,_,hc0,j,k,ew⟩:=m.at;simp only[Nat.zero_add] at j k;obtain⟨R,capo,rfl,_,_⟩:=ew.o.shape;have l:=Rows2.ext z i;obtain⟨S,capu,rfl,_,_⟩:=Sl.shape z;clear m z;have a:=subB_iff G U;go_enter Tryz.func217,Tryz.ntmps217;by_cases A:U.length<=P.orders.length
 ·have B:(U.length:Int)<=P.orders.length:=by omega
  have hE:=l10Elements_ok P hP (w.alloc (.cells #[vo,vp,vc] 28)) _ _ U Any u ⟨_,_,_,rfl,ew⟩ l;go_wp2_with fail
  generalize C:w.alloc (.cells #[vo,vp,vc] 28)=w0 at *;clear C;refine Calls.mono hE ?_;rintro V O ⟨v1,rfl,b,r1,rfl,hr1⟩;clear hE;have D:=b.cell hc0 (by simp);have E:=b.cell j (by simp);have F:=b.cell k (by simp);cases r1 with
  | false=>
   have e:¬SubB P U:=λh=>by have:=hr1.2 (a.1 h).2.1;cases this
   have H:=Lib.hid e;clear e a hr1 hc0 j k;go_wp2;go_ret;exact⟨_,rfl,grown_trans i b,false,rfl,by simp only[Bool.false_eq_true,false_iff];exact H.out⟩
  | true=>
   have hV:=hr1.1 rfl;have I:=Lib.hid (And.intro a hV);clear a hV hr1 hc0 j k;go_wp2_with fail
   clear D E F;refine Calls.mono (l12Close_ok P G O _ _ U Any u ⟨_,_,_,rfl,Pres3.ext ew b⟩ (Rows2.ext l b) I.out.2 (by omega)) ?_;rintro W Q ⟨v2,rfl,p,q⟩;obtain⟨a2,cap2,rfl,_,_⟩:=Sl.shape q;go_wp2_with fail
   refine Calls.mono (l01Same2_ok _ _ _ U Q _ _ q (Rows2.ext (Rows2.ext l b) p)) ?_;rintro X Y ⟨v3,rfl,J,rfl⟩;go_wp2;go_ret
   exact ⟨_,rfl,grown_trans i (grown_trans b (grown_trans p J)),_,rfl,by
    rw[eqB_true,I.out.1];exact⟨λh=>⟨A,I.out.2,h⟩,λh=>h.2.2⟩⟩
 ·have B:¬(U.length:Int)<=P.orders.length:=by omega
  have e:¬SubB P U:=λh=>A (a.1 h).1;have H:=Lib.hid e;clear e a A;go_wp2;go_ret;exact⟨_,rfl,i,.inl ⟨rfl,H.out⟩⟩
theorem sIsSubgroup_ok (P:Pr) (w:World) (pv C:Value) (U:List (List Int)) (E D:Nat->Prop) (l:PresV E w pv P) (m:Rows2 D w C U) :
  Calls Tryz.prog 110 #[pv,C] w (Ret w λ_ v=>∃r:Bool,v=.bool r/\(r=true↔rconsB P=true/\SubB P U)):=by
 obtain⟨vo,vp,vc,rfl,h3⟩:=l;have j:=PresP.box h3 28;have b:Ext w (w.alloc (.cells #[vo,vp,vc] 28)):=World.grownBy_alloc _ _ _;obtain⟨F,eo,dQ,_,_,hc0,e,i,ew⟩:=j.at;simp only[Nat.zero_add] at e i;have p:=Rows2.ext m b;obtain⟨I,capu,rfl,_,_⟩:=Sl.shape m;clear j m;have hE:=l08Group_ok P (w.alloc (.cells #[vo,vp,vc] 28)) _ Any ⟨_,_,_,rfl,ew⟩;go_enter Tryz.func110,Tryz.ntmps110;go_wp2_with fail
 generalize q:w.alloc (.cells #[vo,vp,vc] 28)=w0 at *;clear q;refine Calls.mono hE ?_;rintro J H ⟨v1,rfl,a,rfl⟩;clear hE;have u:=a.cell hc0 (by simp);have y:=a.cell e (by simp);have z:=a.cell i (by simp);clear hc0 e i;cases hr:rconsB P with
 | false=>
  have A:=Lib.hid hr;clear hr;go_wp2;go_ret;exact⟨_,rfl,grown_trans b a,false,rfl,by simp only[Bool.false_eq_true,false_iff];rintro⟨h,_⟩;rw[A.out] at h;exact Bool.noConfusion h⟩
 | true=>
  have G:=grp_of_r hr;have A:=Lib.hid hr;clear hr;go_wp2_with fail
  clear u y z;refine Calls.mono (l12Is_ok P G H _ _ U Any D ⟨_,_,_,rfl,Pres3.ext ew a⟩ (Rows2.ext p a)) ?_;rintro K L ⟨v2,rfl,B,r2,rfl,hr2⟩;have k:=Lib.hid hr2;clear hr2;go_wp2;go_ret;exact⟨_,rfl,grown_trans b (grown_trans a B),r2,rfl,⟨λh=>⟨A.out,k.out.1 h⟩,λh=>k.out.2 h.2⟩⟩
theorem rows3One {S:Nat->Prop}{w:World}{u:Value}{U:List (List Int)}(h:Rows2 S w u U):Rows3 Any (w.alloc (.cells #[u] 25)) (.slice (some ⟨w.heap.size,0,none⟩) 1 1) [U]:=by
 refine⟨_,1,rfl,⟨by simp,by simp,λh=>by cases h⟩,λi hi => ?_⟩;have:i=0:=by simpa using hi
 subst this;refine⟨w.heap.size,0,u,rfl,trivial,by simp,by rw[World.cell?_alloc_at _ _ _ _ rfl];rfl,?_⟩;exact Rows2.sub (Rows2.ext h (World.grownBy_alloc _ _ _)) (λ_ _ _=>trivial)
theorem rows3Two {S S':Nat->Prop}{w:World}{u v:Value}{U V:List (List Int)}(h:Rows2 S w u U) (k:Rows2 S' w v V):Rows3 Any (w.alloc (.cells #[u,v] 25)) (.slice (some ⟨w.heap.size,0,none⟩) 2 2) [U,V]:=by
 refine⟨_,2,rfl,⟨by simp,by simp,λh=>by cases h⟩,λi hi => ?_⟩;rcases(show i=0\/i=1 by simp at hi;omega) with rfl|rfl
 ·refine ⟨w.heap.size,0,u,rfl,trivial,by simp,by rw[World.cell?_alloc_at _ _ _ _ rfl];rfl,?_⟩
  exact Rows2.sub (Rows2.ext h (World.grownBy_alloc _ _ _)) (λ_ _ _=>trivial)
 ·refine ⟨w.heap.size,0,v,rfl,trivial,by simp,by rw[World.cell?_alloc_at _ _ _ _ rfl];rfl,?_⟩
  exact Rows2.sub (Rows2.ext k (World.grownBy_alloc _ _ _)) (λ_ _ _=>trivial)
end Go.Proofs.YtldheeicjnncoaaGreat
namespace Go.Proofs.YtldheeicjnncoaaGreat
abbrev gU (P:Pr) (U:List (List Int)):List Int->Prop:=genP P (λx=>x∈U)
end Go.Proofs.YtldheeicjnncoaaGreat
namespace Go.Proofs.YtldheeicjnncoaaGreat
open Go.RowKit
structure HomF (P Q:Pr) (F:List Int->List Int):Prop where
 vec:∀x,Vec P.orders x->Vec Q.orders (F x)
 mul:∀x y,Vec P.orders x->Vec P.orders y->F (rMul P x y)=rMul Q (F x) (F y)
section
variable {P Q:Pr}(G:Grp P) (GQ:Grp Q) {F:List Int->List Int}(H:HomF P Q F)
include G GQ H
theorem HomF.one:F (zeros P.orders.length)=zeros Q.orders.length:=by
 have h1:=H.vec _ G.oneV;have a:=H.mul _ _ G.oneV G.oneV;rw[G.grp.el _ G.oneV] at a;have b:rMul Q (rInv Q (F (zeros P.orders.length))) (F (zeros P.orders.length))=rMul Q (rInv Q (F (zeros P.orders.length))) (rMul Q (F (zeros P.orders.length)) (F (zeros P.orders.length))):=by rw[<-a]
 rw[<-GQ.ass (GQ.invV h1) h1 h1,GQ.inv_mul h1,GQ.grp.el _ h1] at b;exact b.symm
theorem HomF.inv {x:List Int}(hx:Vec P.orders x):F (rInv P x)=rInv Q (F x):=by
 have h1:=H.vec _ hx;have a:=H.vec _ (G.invV hx);have b:=H.mul _ _ hx (G.invV hx);rw[G.mul_inv hx,HomF.one G GQ H] at b;have e:rMul Q (rInv Q (F x)) (rMul Q (F x) (F (rInv P x)))=rMul Q (rInv Q (F x)) (zeros Q.orders.length):=by rw[<-b]
 rw[<-GQ.ass (GQ.invV h1) h1 a,GQ.inv_mul h1,GQ.grp.el _ a,GQ.grp.er _ (GQ.invV h1)] at e;exact e
omit G GQ H in
theorem gt_imgs {k:Nat}(hk:k<P.orders.length):gt ((gensOf P.orders.length).map F) k=F (unitV P.orders.length k):=by
 have a:(gensOf P.orders.length).length=P.orders.length:=by unfold gensOf;rw[List.length_map,List.length_range]
 rw[gt_map _ _ _ (by rw[a];exact hk)];unfold gensOf;rw[gt_map _ _ _ (by rw[List.length_range];exact hk),gt_range hk]
theorem HomF.eval {w:List Int}(b:WordN P.orders.length w):∀k,k<=w.length->evalTo Q ((gensOf P.orders.length).map F) w k=F (evalTo P (gensOf P.orders.length) w k)
 | 0,_=>(HomF.one G GQ H).symm
 | k + 1,h=>by
  have q:=HomF.eval b k (by omega);have r:=b _ (gtMem (l:=w) (i:=k) (by omega));have e:(gensOf P.orders.length).length=P.orders.length:=by unfold gensOf;rw[List.length_map,List.length_range]
  have m:=G.eval_vec (gens_vec G) (w:=w) (by rw[e];exact b) k (by omega)
  have a:∀j,j<P.orders.length->gt (gensOf P.orders.length) j=unitV P.orders.length j:=λj p=>by
   unfold gensOf;rw[gt_map _ _ _ (by rw[List.length_range];exact p),gt_range p]
  rw[evalTo,evalTo,q];split
  ·rw[gt_imgs (by omega),a _ (by omega),<-HomF.inv G GQ H (unitV_vec G.v _),<-H.mul _ _ m (G.invV (unitV_vec G.v _))]
  ·rw[gt_imgs (by omega),a _ (by omega),<-H.mul _ _ m (unitV_vec G.v _)]
theorem HomF.homB (hr:rconsB P=true) (i:rconsB Q=true):HomB P Q ((gensOf P.orders.length).map F):=by
 have b:(gensOf P.orders.length).length=P.orders.length:=by unfold gensOf;rw[List.length_map,List.length_range]
 refine⟨hr,i,by rw[List.length_map,b],λx hx => ?_,λw e => ?_⟩
 ·obtain ⟨y,hy,rfl⟩:=List.mem_map.1 hx
  exact H.vec _ (gens_vec G y hy)
 ·have a:=relsP_word G.v w e
  rw[HomF.eval G GQ H a _ (Nat.le_refl _),wv_eval0 G a,wv_rels G w e];exact HomF.one G GQ H
theorem HomF.gen {x:List Int}(hx:Vec P.orders x):gU Q ((gensOf P.orders.length).map F) (F x):=by
 intro K a e;refine G.gen_ind (λx=>K (F x)) (by rw[HomF.one G GQ H];exact a.one) (λy j hy i b => ?_) hx;rw[H.mul _ _ hy (unitV_vec G.v j)];refine a.mul _ _ i (e _ ?_);rw[<-gt_imgs (F:=F) b];exact gtMem (by unfold gensOf;rw[List.length_map,List.length_map,List.length_range];exact b)
theorem HomF.onto (b:∀y,Vec Q.orders y->∃x,Vec P.orders x/\F x=y):gU Q ((gensOf P.orders.length).map F)=Vec Q.orders:=by
 funext y
 refine propext ⟨λh => ?_,λh => ?_⟩
 ·refine (GQ.genP_sub (λz e => ?_)).vec y h
  obtain⟨i,a,rfl⟩:=List.mem_map.1 e;exact H.vec _ (gens_vec G i a)
 ·obtain ⟨x,hx,rfl⟩:=b y h
  exact HomF.gen G GQ H hx
end
end Go.Proofs.YtldheeicjnncoaaGreat
namespace Go.Proofs.YtldheeicjnncoaaGreat
open Go.RowKit
open Classical
variable {P:Pr}{G:Grp P}
structure LRep (K:El G->Prop) (L:List (El G)):Prop where
 nd:L.Nodup
 one:∀t∈L,∀u∈L,eqv K t u->t=u
 all:∀g,∃t∈L,eqv K t g
end Go.Proofs.YtldheeicjnncoaaGreat
namespace Go.Proofs.YtldheeicjnncoaaGreat
open Go.RowKit
def conjL (P:Pr) (L:List (List Int)) (X:List Int):List (List Int):=L.map (λy=>rConj P y X)
def Zr (P:Pr) (U:List (List Int)) (x:List Int):Prop:=Vec P.orders x/\∀j,j<U.length->gt x (dep (gt U j))=0
theorem Grp.zr_one {P:Pr}(G:Grp P) {H:List Int->Prop}(S:Sub P H) {x y:List Int}(hx:Zr P (cseq P H) x) (hy:Zr P (cseq P H) y) (h:H (rMul P (rInv P x) y)):x=y:=by
 obtain⟨_,_,h3⟩:=G.seq_facts S;have k:=G.invV hx.1;have l:rMul P x (rMul P (rInv P x) y)=y:=by rw[<-G.ass hx.1 k hy.1,G.mul_inv hx.1,G.grp.el _ hy.1]
 by_cases q:rMul P (rInv P x) y=zeros P.orders.length
 ·rw[q,G.grp.er _ hx.1] at l;exact l
 ·exfalso
  have a:=S.vec _ h;obtain⟨e,i,r,h0⟩:=depth_ex a q;obtain⟨j,hj,m⟩:=h3 _ h e i r h0;have p:=(G.right (Nat.le_of_lt i) hx.1 r).2 i;have b:=hx.2 j hj;have hy0:=hy.2 j hj;rw[m] at b hy0;rw[l,b,hy0,Int.zero_add] at p;have u:=a.2 e i;rw[Int.emod_eq_of_lt u.1 u.2] at p;exact h0 p.symm
def frI (P:Pr) (U:List (List Int)):List Nat:=(List.range P.orders.length).filter (λi => !(U.map dep).contains i)
def ordN' (P:Pr) (i:Nat):Nat:=(gt P.orders i).toNat
def trS (P:Pr) (out:List (List Int)) (i:Nat):List (List Int):=out.flatMap (λx=>(List.range (ordN' P i)).map (λe=>x.set i (e:Int)))
def trT (P:Pr) (is:List Nat):List (List Int):=is.foldl (trS P) [zeros P.orders.length]
def elR (P:Pr):List Nat->Nat->List Int
 | [],_=>zeros P.orders.length
 | i :: r,t=>(elR P r (t/ordN' P i)).set i ((t%ordN' P i:Nat):Int)
def szR (P:Pr):List Nat->Nat
 | []=>1
 | i :: r=>szR P r*ordN' P i
theorem range_mul {α:Type}(g:Nat->Nat->α) (o:Nat):∀N,(List.range N).flatMap (λa=>(List.range o).map (g a))=(List.range (N*o)).map (λt=>g (t/o) (t%o))
 | 0=>by simp
 | N+1=>by
  rw[List.range_succ,List.flatMap_append,range_mul g o N,Nat.succ_mul,List.range_add,List.map_append];congr 1
  rw[List.flatMap_singleton,List.map_map];refine List.map_congr_left (λe i => ?_);have b:=List.mem_range.1 i;have j:0<o:=by omega
  show g N e=g ((N*o+e)/o) ((N*o+e)%o)
  rw[Nat.add_comm (N*o) e,Nat.add_mul_div_right _ _ j,Nat.div_eq_of_lt b,Nat.zero_add,Nat.add_mul_mod_self_right,Nat.mod_eq_of_lt b]
theorem trT_eq (P:Pr):∀r:List Nat,trT P r.reverse=(List.range (szR P r)).map (elR P r)
 | []=>by simp[trT,szR,elR]
 | i :: r=>by
  have b:=trT_eq P r;unfold trT at b ⊢;rw[List.reverse_cons,List.foldl_append,b];show trS P _ i=_
  unfold trS;rw[List.flatMap_map];exact range_mul (λa e=>(elR P r a).set i (e:Int)) (ordN' P i) (szR P r)
theorem gensOf_vec {P:Pr}(hP:Valid P):∀g∈gensOf P.orders.length,Vec P.orders g:=λg a=>by
 unfold gensOf at a;obtain⟨k,_,rfl⟩:=List.mem_map.1 a;exact unitV_vec hP k
def NormG (P:Pr) (H:List Int->Prop) (U:List (List Int)):Prop:=∀g∈gensOf P.orders.length,∀x∈U,H (rConj P x g)
theorem isNormal_ok (P:Pr) (G:Grp P) (w:World) (p uv:Value) (H:List Int->Prop) (N Su:Nat->Prop) (S:Sub P H) (O:PresP N w p P) (Q:Rows2 Su w uv (cseq P H)) :
  Calls Tryz.prog 90 #[p,uv] w (Ret w λ_ v=>∃r:Bool,v=.bool r/\(r=true↔NormG P H (cseq P H))):=by
 have hP:=G.v;have ao:=hP.n6;have q:=G.cseq_len S;have B:=(G.seq_facts S).2.1;obtain⟨pb,po,rfl⟩:=O.shape;obtain⟨au,capu,rfl,_,_⟩:=Sl.shape Q;have ap:(gensOf P.orders.length).length<=6:=by unfold gensOf;simp;omega
 have HG:=Lib.hid (And.intro (gensOf_vec hP) B);clear B;go_enter Tryz.func90,Tryz.ntmps90;go_wp2_with fail
 refine Calls.mono (generators_ok P hP w _ N O) ?_;rintro e1 w1 ⟨v1,rfl,hg1,hO⟩;have hR:=RowsD.rows (hO.toD (by omega));obtain⟨a1,cap1,jd,_,_⟩:=Sl.shape hR;subst jd;generalize C:gensOf P.orders.length=a at *;have D:=Lib.hid C;clear C hO;go_wp2;go_loopw [12] (λR wr=>∃i:Nat,R=.int .i64 i/\i<=a.length/\Ext w1 wr/\Hid (∀j,j<i->∀x∈cseq P H,H (rConj P x (gt a j)))) (λR _=>a.length-(intOf R).toNat)
 case atStart=>exact⟨0,rfl,by omega,Ext.refl _,Lib.hid (λj h=>by omega)⟩
 case round=>
  obtain⟨i,rfl,hi,e,hN⟩:=hrel;by_cases u:i<a.length
  ·have al:(i:Int)<a.length:=by omega
   obtain⟨b,off,a2,cap2,rfl,_,_,hc,U⟩:=Rows2.at hR i u;have V:=e.cell hc (by simp);have E:=HG.out.1 _ (gtMem u);have W:=Lib.hid E;clear E;go_wp2;clear V;go_loopw [18] (λX wr=>∃j:Nat,X=.int .i64 j/\j<=(cseq P H).length/\Ext w1 wr/\Hid (∀l,l<j->H (rConj P (gt (cseq P H) l) (gt a i)))) (λX _=>(cseq P H).length-(intOf X).toNat)
   case atStart=>exact⟨0,rfl,by omega,e,Lib.hid (λj h=>by omega)⟩
   case round=>
    clear e;obtain⟨j,rfl,hj,e,hM⟩:=hrel;have y:=grown_trans hg1 e;by_cases z:j<(cseq P H).length
    ·have am:(j:Int)<(cseq P H).length:=by omega
     obtain⟨b3,kO,a3,cap3,rfl,_,_,hc3,Y⟩:=Rows2.at (Rows2.ext Q y) j z;have F:=S.vec _ (HG.out.2 _ (gtMem z));have Z:=Lib.hid F;clear F;go_wp2_with fail
     refine Calls.mono (conjugate_ok P hP wr _ _ _ (gt (cseq P H) j) (gt a i) N _ _ (O.ext y) Y (U.ext e) Z.out W.out) ?_;rintro eC wC ⟨vC,rfl,I,J⟩;rw[G.iConj_eq Z.out W.out] at J;have A:=G.conjV Z.out W.out;have K:=J.ints (by rw[A.1];omega);obtain⟨aC,capC,iu,_,_⟩:=K.shape;subst iu;have aa:=Lib.hid A;clear A;have k:=grown_trans y I;go_wp2_with fail
     refine Calls.mono (isMember_ok P G wC _ _ _ H (rConj P (gt (cseq P H) j) (gt a i)) N Su Any S (O.ext k) (Rows2.ext Q k) K aa.out) ?_;rintro eM wM ⟨vM,rfl,ab,r,rfl,hr⟩;have L:=grown_trans (grown_trans e I) ab;cases r with
     | true=>
      have HR:=Lib.hid (hr.1 rfl);clear hr;go_wp2;go_roundw
      case rel=>exact⟨j+1,by go_num,by omega,L,Lib.hid (λl q=>by
       rcases Nat.lt_succ_iff_lt_or_eq.1 q with h|h
       ·exact hM.out l h
       ·rw[h];exact HR.out)⟩
      case measure=>simp[intOf];omega
     | false=>
      have M:¬H (rConj P (gt (cseq P H) j) (gt a i)):=λh=>by have:=hr.2 h;cases this
      have HR:=Lib.hid M;clear hr M;go_wp2;go_ret
      exact ⟨_,rfl,grown_trans hg1 L,false,rfl,by
       simp only[Bool.false_eq_true,false_iff];intro h;unfold NormG at h;rw[D.out] at h;exact HR.out (h _ (gtMem u) _ (gtMem z))⟩
    ·have ad:j=(cseq P H).length:=by omega
     subst ad;go_wp2;go_roundw
     case rel=>exact⟨i+1,by go_num,by omega,e,Lib.hid (λl q=>by
      rcases Nat.lt_succ_iff_lt_or_eq.1 q with h|h
      ·exact hN.out l h
      ·rw [h]
       intro x hx;obtain⟨m,hm,rfl⟩:=List.getElem_of_mem hx;rw[<-gt_eq _ m hm];exact hM.out m hm)⟩
     case measure=>simp[intOf];omega
  ·have ae:i=a.length:=by omega
   subst ae;go_wp2;go_ret
   exact ⟨_,rfl,grown_trans hg1 e,true,rfl,by
    simp only[true_iff];unfold NormG;rw[D.out];intro g af x hx;obtain⟨l,q,rfl⟩:=List.getElem_of_mem af;rw[<-gt_eq _ l q];exact hN.out l q x hx⟩
end Go.Proofs.YtldheeicjnncoaaGreat
namespace Go.Proofs.YtldheeicjnncoaaGreat
def NormP (P:Pr) (K:List Int->Prop):Prop:=∀x,K x->∀g,Vec P.orders g->K (rConj P x g)
section
variable {P:Pr}(G:Grp P)
include G
theorem Grp.conj_zeros {g:List Int}(a:Vec P.orders g):rConj P (zeros P.orders.length) g=zeros P.orders.length:=by
 unfold rConj;rw[G.grp.el _ a,G.inv_mul a]
theorem Grp.conj_inv {x g:List Int}(hx:Vec P.orders x) (a:Vec P.orders g):rConj P (rInv P x) g=rInv P (rConj P x g):=by
 refine G.inv_of (G.conjV hx a) (G.conjV (G.invV hx) a) ?_;rw[<-G.conj_hom hx (G.invV hx) a,G.mul_inv hx,G.conj_zeros a]
theorem Grp.pull_sub {H:List Int->Prop}(S:Sub P H) {g:List Int}(a:Vec P.orders g):Sub P (λy=>Vec P.orders y/\H (rConj P y g)):=
 ⟨λ_ h=>h.1,⟨G.oneV,by rw[G.conj_zeros a];exact S.one⟩,λx y hx hy=>⟨G.mulV hx.1 hy.1,by rw[G.conj_hom hx.1 hy.1 a];exact S.mul _ _ hx.2 hy.2⟩,
  λx hx=>⟨G.invV hx.1,by rw[G.conj_inv hx.1 a];exact S.inv _ hx.2⟩⟩
theorem Grp.norm_of_gens {K:List Int->Prop}(S:Sub P K) (h:∀j,j<P.orders.length->∀x,K x->K (rConj P x (unitV P.orders.length j))):NormP P K:=by
 have key:∀g,Vec P.orders g->∀x,K x->K (rConj P x g):=λg a=>by
  refine G.gen_ind (λg=>∀x,K x->K (rConj P x g)) (λx hx => ?_) (λy j hy b e x hx => ?_) a
  ·rw[G.conj_one (S.vec x hx)];exact hx
  ·have i:=unitV_vec G.v j
   rw[<-G.conj_mul (S.vec x hx) hy i];exact h j e _ (b x hx)
 exact λx hx g a=>key g a x hx
omit G in
theorem gensOf_at (n j:Nat) (a:j<n):gt (gensOf n) j=unitV n j:=by
 unfold gensOf;have h:j<(List.range n).length:=by rw[List.length_range];exact a
 rw[gt_map _ _ _ h];simp[gt,a]
omit G in
theorem gensOf_len (n:Nat):(gensOf n).length=n:=by unfold gensOf;simp
theorem Grp.norm_iff {K:List Int->Prop}(S:Sub P K):NormG P K (cseq P K)↔NormP P K:=by
 have a:=(G.seq_facts S).2.1;constructor
 ·intro h
  refine G.norm_of_gens S (λj b x hx => ?_);have i:=unitV_vec G.v j;have h1:genP P (λz=>z∈cseq P K) x:=by rw[G.genP_cseq S];exact hx
  have k:unitV P.orders.length j∈gensOf P.orders.length:=by rw[<-gensOf_at _ _ b];exact gtMem (by rw[gensOf_len];exact b)
  exact(h1 _ (G.pull_sub S i) (λz e=>⟨S.vec z (a z e),h _ k z e⟩)).2
 ·intro h g l x hx
  exact h x (a x hx) g (gensOf_vec G.v g l)
theorem Grp.len_le {K' K:List Int->Prop}(S':Sub P K') (S:Sub P K) (h:∀x,K' x->K x):(cseq P K').length<=(cseq P K).length/\((cseq P K').length=(cseq P K).length->∀x,K x->K' x):=by
 obtain⟨i,b,l⟩:=G.cseq_spec S';obtain⟨r,hR,q⟩:=G.cseq_spec S;have m:(cseq P K').length=(depsOf P.orders.length i).length:=by rw[l,seqOf_map,List.length_map]
 have u:(cseq P K).length=(depsOf P.orders.length r).length:=by rw[q,seqOf_map,List.length_map]
 have j:∀d,d<P.orders.length->i d≠[]->r d≠[]:=λd a e=>by
  obtain⟨w,z,A⟩:=b.mem d a e;exact hR.piv _ (h _ w) d a z (by rw[A];decide)
 have p:(depsOf P.orders.length i).length=((depsOf P.orders.length r).filter (λd=>decide (i d≠[]))).length:=by
  unfold depsOf;rw[List.filter_filter];congr 1
  refine List.filter_congr (λd a => ?_);have a:=List.mem_range.1 a;by_cases h1:i d=[]
  ·simp[h1]
  ·simp[h1,j d a h1]
 rw[m,u,p];refine⟨List.length_filter_le _ _,λheq x hx => ?_⟩;have k:=List.length_filter_eq_length_iff.1 heq
 have B:Ind P K (i):=⟨S,λd a e=>⟨h _ (b.mem d a e).1,(b.mem d a e).2⟩,λy hy d a C D=>by
  have h1:=hR.piv y hy d a C D;have E:=k d (depsOf_mem.2 ⟨a,h1⟩);exact of_decide_eq_true E⟩
 exact G.ind_same b.toInd B h x hx
end
end Go.Proofs.YtldheeicjnncoaaGreat
namespace Go.Proofs.YtldheeicjnncoaaGreat
open Go.RowKit
def byV (l:List Int):List Value:=l.map (Value.int .u8)
theorem und_bytes:Tryz.prog.underlying 22=some (.slice 5):=by kernel_rfl
theorem und_byte:Tryz.prog.underlying 5=some (.int .u8):=by kernel_rfl
theorem und_str:Tryz.prog.underlying 9=some .string:=by kernel_rfl
theorem Tryz.infoByte:(Tryz.prog.info? 5).map (λi=>(i.zero,i.size,i.bytes))=some (some (.int .u8 0),1,1):=by kernel_rfl
theorem conv_bytes {B:Nat}{w:World}{v:Value}{l:List Int}(h:OwnV B 5 w v (byV l)):(convert 22 9 v).run Tryz.prog w=.ok (.string (strOfNums l)) w:=by
 rcases h.form with⟨rfl,a⟩|⟨g,cap,rfl,_⟩
 ·have:l=[]:=by unfold byV at a;rw[List.map_eq_nil_iff] at a;exact a
  subst this;rw[run_convert_bytes_nil w _ _ und_bytes und_byte 0 0 _ und_str];rfl
 ·have b:(byV l).length=l.length:=by unfold byV;rw[List.length_map]
  rw[b];refine run_convert_bytes_arg w _ _ und_bytes und_byte g 0 l.length cap l rfl (λi hi => ?_) _ und_str;have:=h.cell i (by rw[b];exact hi);rw[Nat.zero_add,this];unfold byV;rw[gt_map _ _ _ hi];rfl
abbrev gP (P:Pr) (u:List (List Int)):List Int->Prop:=genP P (λz=>z∈u)
section
variable {P:Pr}(G:Grp P)
include G
end
section
variable {P:Pr}{G:Grp P}
def toE (G:Grp P) (H:List Int->Prop):El G->Prop:=λx=>H x.1
theorem toE_sg {H:List Int->Prop}(S:Sub P H):SG (toE G H):=⟨S.one,λ_ _ h k=>S.mul _ _ h k,λ_ h=>S.inv _ h⟩
theorem order_cd {H:List Int->Prop}(S:Sub P H):prodU P (cseq P H) (cseq P H).length=(cd (toE G H):Int):=by
 rw[G.order_elems S]
 have h1:((elsIn (toE G H)).map (λx:El G=>x.1)).Nodup:=by
  refine List.nodup_iff_pairwise_ne.2 ?_;rw[List.pairwise_map];exact(List.nodup_iff_pairwise_ne.1 (elsIn_nodup _)).imp (λ{a b} i e=>i (Subtype.ext e))
 have j:=(List.perm_ext_iff_of_nodup (elemsIn_nodup G.v H) h1).2 (λx=>by
  rw[elemsIn_mem G.v S.vec,List.mem_map];constructor
  ·intro hx
   exact⟨⟨x,S.vec x hx⟩,elsIn_mem.2 hx,rfl⟩
  ·rintro ⟨y,hy,rfl⟩
   exact elsIn_mem.1 hy)
 rw[j.length_eq,List.length_map];rfl
def pvU (G:Grp P) (u:List (List Int)):Nat->Prop:=pv (toE G (gP P u))
theorem ordU (G:Grp P) {u:List (List Int)}(a:SubB P u):prodU P u u.length=(prd P (pvU G u) P.orders.length 0:Nat):=by
 have S:=G.subB a;have h:=order_cd (G:=G) S;rw[cd_eq (toE_sg S)] at h;have e:cseq P (genP P λx=>x∈u)=u:=a.2.symm;rw[e] at h;exact h
noncomputable def prF (P:Pr) (Q:Nat->Prop) (d:Nat):Nat:=prd P Q d 0
theorem prd_app (Q:Nat->Prop):∀f d,prd P Q (f+1) d=prd P Q f d*prd P Q 1 (d+f)
 | 0,d=>by
  show prd P Q 1 d=1*prd P Q 1 (d+0)
  rw[Nat.one_mul];rfl
 | f+1,d=>by
  have a:=prd_app Q f (d+1);rw[prd,a,<-Nat.mul_assoc,show d+1+f=d+(f+1) by omega];conv=>rhs;rw[prd]
open Classical in
theorem prF_succ (Q:Nat->Prop) (d:Nat):prF P Q (d+1)=prF P Q d*(if Q d then (gt P.orders d).toNat else 1):=by
 unfold prF;rw[prd_app,Nat.zero_add,prd,prd,Nat.mul_one]
end
theorem tk {P:Program}{ops:Array Oper}{Q:Exit->Act->World->Prop}{md:Region.Mode}{S:World->Prop}{e:Oper}{v:Value}{b:Nat}{l k:Array Bool}{a m:Act}{w:World}(i:Nat)
  (h:wpAnyH P md ops Q S b k m w)
  (hi:ops[i]? = some e:=by rfl) (p:Region.noSelect ops=true:=by kernel_rfl) (q:Region.free md ops l i=true:=by kernel_rfl) (hr:(Region.ready md ops l).contains i=true:=by kernel_rfl)
  (r:Region.wanted e (yielded ops a.tmps)=true:=by rfl)
  (hy:∀w,S w->(execOp a.eval e).run P w=.ok (.value v) w:=by (intro w j;(try dsimp only at j);go_simp;try with_reducible rfl))
  (u:l.setIfInBounds i true=k:=by (first|(simp only[List.setIfInBounds_toArray,List.set_cons_zero,List.set_cons_succ];rfl)|rfl))
  (ha:a.put e.dst v=m:=by (first|(simp only[Act.put,List.getElem_toArray,List.getElem_cons_succ,List.getElem_cons_zero,List.setIfInBounds_toArray,List.set_cons_zero,List.set_cons_succ];rfl)|rfl))
  (y:∀c a w,Q (.panic c) (a.put e.dst v) w->Q (.panic c) a w:=by (intro _ _ _ h;exact h)) (z:S w:=by assumption):wpAnyH P md ops Q S (b+1) l a w:=by
 subst u ha;exact wpAnyH_take hi p q hr y (Or.inl ⟨r,hy⟩) z h
theorem tku {P:Program}{ops:Array Oper}{Q:Exit->Act->World->Prop}{md:Region.Mode}{S:World->Prop}{e:Oper}{b:Nat}{l j:Array Bool}{a k:Act}{w:World}(i:Nat)
  (h:wpAnyH P md ops Q S b j k w)
  (hi:ops[i]? = some e:=by rfl) (m:Region.noSelect ops=true:=by kernel_rfl) (p:Region.free md ops l i=true:=by kernel_rfl) (hr:(Region.ready md ops l).contains i=true:=by kernel_rfl)
  (q:Region.wanted e (yielded ops a.tmps)=false:=by rfl)
  (r:l.setIfInBounds i true=j:=by (first|(simp only[List.setIfInBounds_toArray,List.set_cons_zero,List.set_cons_succ];rfl)|rfl))
  (ha:a.put e.dst undef=k:=by (first|(simp only[Act.put,List.getElem_toArray,List.getElem_cons_succ,List.getElem_cons_zero,List.setIfInBounds_toArray,List.set_cons_zero,List.set_cons_succ];rfl)|rfl))
  (u:∀c a w,Q (.panic c) (a.put e.dst undef) w->Q (.panic c) a w:=by (intro _ _ _ h;exact h)) (y:S w:=by assumption):wpAnyH P md ops Q S (b+1) l a w:=by
 subst r ha;exact wpAnyH_take hi m p hr u (Or.inr ⟨q,rfl⟩) y h
theorem rd1 {P:Program}{ops:Array Oper}{Q:Exit->Act->World->Prop}{md:Region.Mode}{S:World->Prop}{o:Oper}{b:Nat}{l e:Array Bool}{a:Act}{w:World}(i:Nat)
  (h:∀K':Act->World->Prop,Shut (∀a w,S w->(S w->wpAnyH P md ops Q S b e a w)->K' a w)->if Region.wanted o (yielded ops a.tmps)=true then Oper.wp P o a w K' Q else K' (a.put o.dst undef) w)
  (hr:Region.ready md ops l=[i]:=by kernel_rfl) (j:ops[i]? = some o:=by rfl)
  (k:l.setIfInBounds i true=e:=by (first|(simp only[List.setIfInBounds_toArray,List.set_cons_zero,List.set_cons_succ];rfl)|rfl)):wpAnyH P md ops Q S (b+1) l a w:=by
 subst k;exact wpAnyH_ready hr (by simp) (AllReadyH.cons j h AllReadyH.nil)
theorem rd2 {P:Program}{ops:Array Oper}{Q:Exit->Act->World->Prop}{md:Region.Mode}{S:World->Prop}{o o2:Oper}{b:Nat}{l m p:Array Bool}{a:Act}{w:World}(i j:Nat)
  (h:∀K':Act->World->Prop,Shut (∀a w,S w->(S w->wpAnyH P md ops Q S b m a w)->K' a w)->if Region.wanted o (yielded ops a.tmps)=true then Oper.wp P o a w K' Q else K' (a.put o.dst undef) w)
  (q:∀K':Act->World->Prop,Shut (∀a w,S w->(S w->wpAnyH P md ops Q S b p a w)->K' a w)->if Region.wanted o2 (yielded ops a.tmps)=true then Oper.wp P o2 a w K' Q else K' (a.put o2.dst undef) w)
  (hr:Region.ready md ops l=[i,j]:=by kernel_rfl) (r:ops[i]? = some o:=by rfl) (e:ops[j]? = some o2:=by rfl)
  (u:l.setIfInBounds i true=m:=by (first|(simp only[List.setIfInBounds_toArray,List.set_cons_zero,List.set_cons_succ];rfl)|rfl))
  (k:l.setIfInBounds j true=p:=by (first|(simp only[List.setIfInBounds_toArray,List.set_cons_zero,List.set_cons_succ];rfl)|rfl)):wpAnyH P md ops Q S (b+1) l a w:=by
 subst u k;exact wpAnyH_ready hr (by simp) (AllReadyH.cons r h (AllReadyH.cons e q AllReadyH.nil))
theorem ko {P:Program}{ops:Array Oper}{Q:Exit->Act->World->Prop}{md:Region.Mode}{S:World->Prop}{b:Nat}{l:Array Bool}{a e:Act}{w:World}{K:Act->World->Prop}
  (i:Shut (∀a w,S w->(S w->wpAnyH P md ops Q S b l a w)->K a w)) (j:S w) (h:S w->wpAnyH P md ops Q S b l e w)
  (ha:a=e:=by (first|(simp only[Act.put,List.getElem_toArray,List.getElem_cons_succ,List.getElem_cons_zero,List.setIfInBounds_toArray,List.set_cons_zero,List.set_cons_succ];rfl)|rfl)):K a w:=by
 subst ha;exact i.out _ _ j h
end Go.Proofs.YtldheeicjnncoaaGreat
