/- Merged from templates. -/
import Derived.Test.YtoakmefajbbggaaGreatH7
import Derived.Maps.OwnSet
import Derived.Maps.StringElems
import Derived.StringKeys
import Derived.Laws.BytesArg
set_option maxRecDepth 100000
set_option maxHeartbeats 8000000
namespace Go.Proofs.YtoakmefajbbggaaGreat
open Go.RowKit
theorem tab_kept {B gb n W:Nat}{i p:World}{v1 j:Value}{b:List (List Int)}(h:TabAt B (λk=>v1.ownBlock=some k) i gb n b) (q:∀k,v1.ownBlock=some k->W<=k) (r:gb<W)
  (a:i.grownBy p v1.ownBlock) (l:j.ownBlock=v1.ownBlock\/∀k,j.ownBlock=some k->i.heap.size<=k):TabAt B (λk=>j.ownBlock=some k) p gb n b:=by
 refine h.kept a.size (λk hk m=>a.block k hk (λe => ?_)) (λk hk e => ?_)
 ·rcases m with rfl|m
  ·have:=q _ e.symm;omega
  ·exact m e.symm
 ·rcases l with h|h
  ·rw[<-h];exact e
  ·have:=h k e;omega
theorem tab_keptF {B gb n W p:Nat}{i q:World}{v1 j:Value}{b:List (List Int)}(h:TabAt B (λk=>v1.ownBlock=some k\/k<p) i gb n b) (r:∀k,v1.ownBlock=some k->W<=k) (u:gb<W)
  (a:i.grownBy q v1.ownBlock) (l:j.ownBlock=v1.ownBlock\/∀k,j.ownBlock=some k->i.heap.size<=k):TabAt B (λk=>j.ownBlock=some k\/k<p) q gb n b:=by
 refine h.kept a.size (λk hk m=>a.block k hk (λe => ?_)) (λk hk e => ?_)
 ·rcases m with rfl|m
  ·have:=r _ e.symm;omega
  ·exact m (.inl e.symm)
 ·rcases e with e|e
  ·rcases l with h|h
   ·rw[<-h];exact .inl e
   ·have:=h k e;omega
  ·exact .inr e
theorem SlO.shq {bad:Nat->Prop}{B:Nat}{w:World}{v:Value}{xs:List (List Int)}(h:RowsO B w v xs) (a:∀k,bad k->k<B):ShQ bad B w v xs:=by
 obtain⟨e,G,hl,hO,hG,_,j⟩:=h;refine⟨e,hl,QOwn.of hO,λi b=>Ints.sub (j i b).ints (λk hk _ => ?_)⟩;obtain⟨h1,h2,_⟩:=hG i k b hk;exact⟨λh=>by have:=a k h;omega,h2⟩
def HeldB (w0 a:World) (g:Nat) (w':World):Prop:=Ext w0 w'/\w'.heap[g]? = a.heap[g]?
theorem heldB_ext {w0 a w':World}{g:Nat}(b:Ext w0 a) (e:g<a.heap.size) (h:Ext a w'):HeldB w0 a g w':=⟨grown_trans b h,h.block g e (by simp)⟩
theorem HeldB.cell {w0 a w':World}{g i:Nat}{v:Value}(h:HeldB w0 a g w') (b:a.cell? ⟨g,i,none⟩=some v):w'.cell? ⟨g,i,none⟩=some v:=(World.cell?_of_block (w:=a) h.2).trans b
theorem l12CloseF_ok (P:Pr) (G:Grp P) (w:World) (pv lv:Value) (L:List (List Int)) (Sp Sr:Nat->Prop) (ct:PresV Sp w pv P) (hl:Rows2 Sr w lv L) (hL:∀x∈L,Vec P.orders x) (c5:L.length<=10000) :
  Calls Tryz.prog 214 #[pv,lv] w (Ret w λw' v=>ShQ (λk=>k<w.heap.size) w.heap.size w' v (cseq P (genP P (λx=>x∈L)))):=by
 have hP:=G.v;have dp:=hP.n6;obtain⟨vo,vp,vc,rfl,h3⟩:=ct;have bz:=PresP.box h3 28;have aI:Ext w (w.alloc (.cells #[vo,vp,vc] 28)):=World.grownBy_alloc _ _ _;have bA:(w.alloc (.cells #[vo,vp,vc] 28)).heap.size=w.heap.size+1:=by simp
 obtain⟨dq,vp6,vc6,_,_,hc0,a7,a8,E⟩:=bz.at;simp only[Nat.zero_add] at a7 a8;obtain⟨ao,X,rfl,_,_⟩:=E.o.shape;clear bz;obtain⟨al,capl,rfl,_,_⟩:=Sl.shape hl;have bB:∀x∈L,x.length<=1000000:=λx hx=>by rw[(hL x hx).1];omega
 have HL:=Lib.hid (And.intro hL bB);clear hL bB;go_enter Tryz.func214,Tryz.ntmps214;go_wp2_with (first|(at_make;refine wp_make_tab rfl _ _ rfl w.heap.size P.orders.length (w.heap.size+1) (by simp) _ rfl rfl rfl (by omega) (by omega) ?_;intro D bC bD bE)|fail)
 have HS:=Lib.hid bA;clear bA;generalize cx:w.alloc (.cells #[vo,vp,vc] 28)=w0 at *;clear cx;have bF:=Rows2.ext hl aI;clear hl;have ag:w.heap.size+1<D.heap.size:=bE;refine Calls.mono (l01Own2_ok D _ L Sr (Rows2.ext bF bD) HL.out.2 (by omega)) ?_;rintro e2 w2 ⟨a9,rfl,bG,hQ2⟩;have a':ShQ (λk=>k=w.heap.size+1) D.heap.size w2 a9 L:=hQ2.shq (λk hk=>by omega);have aY:=grown_trans bD bG;have ba:∀k,a9.ownBlock=some k->D.heap.size<=k:=λk hk=>(a'.lt k hk).1;have bH:TabAt w.heap.size (λk=>a9.ownBlock=some k\/k<w.heap.size) w2 (w.heap.size+1) P.orders.length (List.replicate P.orders.length []):=(bC _).ext bG;clear bC hQ2 bF;-- facts of the box and the orders
 have bI:∀w',Ext w0 w'->w'.cell? ⟨w.heap.size,0,none⟩=some (.slice ao P.orders.length X)/\w'.cell? ⟨w.heap.size,1,none⟩=some vp6/\w'.cell? ⟨w.heap.size,2,none⟩=some vc6:=λw' h=>⟨h.cell hc0 (by simp),h.cell a7 (by simp),h.cell a8 (by simp)⟩;have HB:=Lib.hid bI;clear bI hc0 a7 a8;obtain⟨Q,hQ⟩:∃Q:List Int->Prop,Q=λx=>x=zeros P.orders.length\/x∈L.reverse:=⟨_,rfl⟩
 have ah:∃R,AddInv P Q (gt (List.replicate P.orders.length [])) L.reverse R:=by
  rw[hQ];exact⟨_,G.addInv_start G.ind_one (λx hx=>HL.out.1 x (List.mem_reverse.1 hx))⟩
 have bJ:genP P Q=genP P (λx=>x∈L):=by
  rw[hQ,genP_one];congr 1
  funext x
  simp
 have bK:=Lib.hid (And.intro ah bJ);clear ah bJ hQ;go_wp2
 go_loopg [7] (miss (List.replicate P.orders.length ([]:List Int)) P.orders.length*(P.orders.length+3)+L.length) (λgk qv wr=>∃(b q:List (List Int)),gk<=20000/\gk=miss b P.orders.length*(P.orders.length+3)+q.length/\Ext w0 wr /\
  TabAt w.heap.size (λk=>qv.ownBlock=some k\/k<w.heap.size) wr (w.heap.size+1) P.orders.length b/\ShQ (λk=>k=w.heap.size+1) D.heap.size wr qv q/\Hid (∃R,AddInv P Q (gt b) q.reverse R))
 case atStart=>
  have bb:miss (List.replicate P.orders.length ([]:List Int)) P.orders.length*(P.orders.length+3)+L.length<=20000:=by
   have h3:miss (List.replicate P.orders.length ([]:List Int)) P.orders.length*(P.orders.length+3)<=6*9:=Nat.mul_le_mul (by have:=miss_le (List.replicate P.orders.length ([]:List Int)) P.orders.length;omega) (by omega);omega
  exact⟨_,L,bb,rfl,aY,bH,a',Lib.hid bK.out.1⟩
 case round =>
  clear bH a' ba aY;obtain⟨b,q,hgkb,bc,hg,hT,hq,p⟩:=hrel;have aJ:=hT.len;obtain⟨cz,hb2,hb3⟩:=HB.out wr hg
  have cA:q=[]\/∃l y,q=l++[y]:=by
   rcases List.eq_nil_or_concat q with h|⟨l,y,h⟩
   ·exact .inl h
   ·exact .inr ⟨l,y,by rw[h,List.concat_eq_append]⟩
  rcases cA with rfl|⟨l,y,rfl⟩
  ·obtain ⟨aq,capq,rfl,_⟩:=hq.shape
   have cB:w.heap.size<=wr.heap.size:=(grown_trans aI hg).size;have hI:Ind P (genP P Q) (gt b):=by obtain⟨R,p⟩:=p.out;exact G.addInv_end p
   have HI:=Lib.hid hI;clear hI p;go_wp2_with fail
   refine Calls.mono (l12FullF_ok P G wr _ _ b (genP P Q) Any _ ⟨_,_,_,rfl,Pres3.ext E hg⟩ (hT.rows (by omega)) aJ HI.out (λk=>k<w.heap.size) (λk hk=>⟨by have:=(grown_trans aI hg).size;omega,λe=>by rcases e with e|e;omega;exact e.2 (.inr hk)⟩)) ?_;rintro eF wF ⟨vF,rfl,cC,be⟩;rw[bK.out.2] at be;obtain⟨aR,capR,rfl,_⟩:=be.shape;go_wp2;go_ret;exact⟨_,rfl,grown_trans aI (grown_trans hg cC),be.weak cB⟩
  ·obtain ⟨aq, capq,rfl,_⟩:=hq.shape
   obtain⟨F,aK⟩:∃F,F=l.length:=⟨_,rfl⟩;obtain⟨gq,off,u,rfl,hgB,hglt,i,aL⟩:=ShQ.head hq l.length (by simp);rw[gt_concat] at aL
   have c9:F<=capq:=by
    obtain⟨vs,hvl,cD,_⟩:=hq;rcases cD with⟨h,_⟩|⟨g,o,cp,cur,hv,_,_,h1,_⟩
    ·simp at h
    ·simp only[Value.slice.injEq] at hv
     obtain⟨_,_,rfl⟩:=hv;simp at hvl;omega
   have bg:=hq.init;rw[<-aK] at i bg;have bh:(l++[y]).length=F+1:=by simp[aK]
   obtain⟨m,hm⟩:∃m,m=(l++[y]).length:=⟨_,rfl⟩;rw[<-hm] at bh bc ⊢;have bi:Vec P.orders y:=by obtain⟨R,p⟩:=p.out;exact p.vec _ (p.que _ (by simp))
   have aZ:∀d,d<P.orders.length->gt b d≠[]->T P d (gt b d)/\gt (gt b d) d=1:=by obtain⟨R,p⟩:=p.out;exact λd hd h=>(p.tab d hd h).2
   have bM:∃R,AddInv P Q (gt b) (y :: l.reverse) R:=by
    obtain⟨R,p⟩:=p.out;rw[List.reverse_append] at p;exact⟨R,p⟩
   obtain⟨ay,capy,bN,_,_⟩:=aL.shape;rw[bi.1] at bN;subst bN;have HY:=Lib.hid (And.intro bi (And.intro aZ (And.intro bM (And.intro aK bc))));clear bi aZ bM p aK bc;have du:m<=20000:=by have:=HY.out.2.2.2.2;omega
   have dv:(0:Int)<m:=by omega
   have cF:IntKind.i64.wrap ((m:Int)-1)=(F:Int):=by rw[show(m:Int)-1=(F:Int) by omega];exact IntWalk.i64_in _ (by omega)
   have dw:(F:Int)<m:=by omega
   have bb:(0:Int)<=F:=by omega
   have bO:=run_head_rows wr (some ⟨gq,off,none⟩) m capq (F:Int) bb (by omega);rw[show((F:Int)).toNat=F by omega] at bO;have HM:=Lib.hid (And.intro bh hm);clear bh hm;have bP:=hT.rows (by omega);go_wp2_with fail
   refine Calls.mono (l12Strip_ok P G wr _ _ _ b y Any _ _ ⟨_,_,_,rfl,Pres3.ext E hg⟩ bP aL HY.out.1 aJ HY.out.2.1) ?_;rintro eS wS ⟨vS,rfl,hgS,d,rv,Y,rfl,aM,hSY,hdn,hdY⟩;have r:=hSY.vec.1;have bj:=aM.ints (by rw[r.1];omega)
   have bQ:∃R,AddInv P Q (gt b) (Y :: l.reverse) R:=by
    obtain⟨R,p⟩:=HY.out.2.2.1;exact hSY.inv _ _ _ p
   obtain⟨ar,capr,bR,_,_⟩:=bj.shape;rw[r.1] at bR;subst bR;have J:=grown_trans hg hgS;have bk:=bg.ext hgS;have aN:TabAt w.heap.size (λk=>(Value.slice (some ⟨gq,off,none⟩) F capq).ownBlock=some k\/k<w.heap.size) wS (w.heap.size+1) P.orders.length b:=hT.ext hgS;have bS:=Lib.hid aJ;clear hT hq bg bP aL i bO cF cz hb2 hb3 aJ;have bT:=hSY.vec;have aj:=Lib.hid (And.intro bQ (And.intro bT r));clear bQ bT r hSY;by_cases hd:d=P.orders.length
   ·have bU:Y=zeros P.orders.length:=T.top hP (by rw[<-hd];exact aj.out.2.1)
    have cG:Hid (∃R,AddInv P Q (gt b) l.reverse R):=by
     obtain⟨R,p⟩:=aj.out.1;exact Lib.hid ⟨R,addInv_drop p bU⟩
    clear hdY bU;subst hd;go_wp2;go_roundg (gk-1)
    case measure=>have:=HY.out.2.2.2.2;omega
    case rel=>exact⟨b,l,by omega,by have:=HY.out.2.2.2.2;have:=HY.out.2.2.2.1;have:=HM.out.1;omega,J,aN,bk,cG⟩
   ·have A : d<P.orders.length:=by omega
    obtain⟨bV,bW⟩:=hdY A;clear hdY;have dx:((d:Int) == (P.orders.length:Int))=false:=by simp;omega
    have r:=aj.out.2.2;have ho:=hP.ord7 d A;have bX:=hP.ord d A;have cH:=r.2 d A;obtain⟨br,or_,rfl,_,_,hcr⟩:=Ints.at bj d (by rw[r.1];exact A);obtain⟨bo,oo,rfl,_,_,hco⟩:=Ints.at (Ints.ext E.o J) d A;have bZ:1<=gt Y d:=by omega
    have HD:=Lib.hid (And.intro bW (And.intro bX (And.intro bV hd)));clear bW bX bV hd;have dy:(0:Int)<=d:=by omega
    have db:(d:Int)<P.orders.length:=by omega
    have e1:∀w',Ext wS w'->w'.cell? ⟨w.heap.size,0,none⟩=some (.slice (some ⟨bo,oo,none⟩) P.orders.length X):=λw' h=>(HB.out w' (grown_trans J h)).1;have e2:∀w',Ext wS w'->w'.cell? ⟨w.heap.size,1,none⟩=some vp6:=λw' h=>(HB.out w' (grown_trans J h)).2.1;have e3:∀w',Ext wS w'->w'.cell? ⟨w.heap.size,2,none⟩=some vc6:=λw' h=>(HB.out w' (grown_trans J h)).2.2;have e4:∀w',Ext wS w'->w'.cell? ⟨br,or_+d,none⟩=some (.int .i64 (gt Y d)):=λw' h=>h.cell hcr (by simp);have e5:∀w',Ext wS w'->w'.cell? ⟨bo,oo+d,none⟩=some (.int .i64 (gt P.orders d)):=λw' h=>h.cell hco (by simp);clear hcr hco;go_wp2
    go_region_held3 (λw'=>Ext wS w') (first|exact grown_drew _ _|assumption)
     (first
      | (go_at_call 258;refine Calls.mono (Calls.rel (w0:=wS) (by first|exact grown_drew _ _|assumption) (l01Inv_ok (gt Y d) (gt P.orders d) _ HD.out.2.1 bZ cH.2)) ?_;rintro eI wI ⟨vI,rfl,hgI,hsI,kk,rfl,a0,hk2',hkk⟩;have HK:=Lib.hid hkk;clear hkk)
      | (go_at_call 257;refine Calls.mono (Calls.rel (w0:=wS) (by assumption) (l10Pow_ok P G _ _ _ Y _ Any Any ⟨_,_,_,rfl,Pres3.ext (Pres3.ext E J) (by assumption)⟩ (Ints.sub (Ints.ext bj (by assumption)) (λ_ _ _=>trivial)) r (by omega))) ?_;rintro eZ wZ ⟨zv,rfl,K,hsZ,ak⟩))
    clear e1 e2 e3 e4 e5;rw[pwZ_nat _ _ _ a0] at ak;obtain⟨Z,hZ⟩:∃Z,Z=pw P Y kk.toNat:=⟨_,rfl⟩;rw[<-hZ] at ak;have bl:Vec P.orders Z:=by rw[hZ];exact G.pw_vec r _
    have am:Z.length=P.orders.length:=bl.1;have an:Z≠[]:=λh=>by rw[h] at am;simp at am;omega
    have b3:=grown_trans J K;have dd:=hgS.size
    have aO:Ints (λk=>k≠w.heap.size+1/\¬((Value.slice (some ⟨gq,off,none⟩) F capq).ownBlock=some k\/k<w.heap.size)) wZ zv Z:=ints_of_own ak (by omega) (λk hk=>by
     have h1:=(ak.lt k hk).1;exact⟨by omega,λe=>e.elim (λe=>by have:=own_blk e;omega) (λe=>by omega)⟩)
    obtain⟨az,a,b4,_,_⟩:=aO.shape;rw[am] at b4;subst b4;obtain⟨b5,M⟩:=(aN.ext K).put d aO an;obtain⟨cK,ap⟩:=(aN.ext K).at d A;have cL:wZ.cell? ⟨w.heap.size+1,d,none⟩=some (.slice none 0 0):=ap.elim (λh=>h.2) (λh=>absurd HD.out.1 h.1);have au:∀(S:Nat->Prop) k,(k≠w.heap.size+1/\S k)->k<wZ.heap.size->(k≠w.heap.size+1/\S k)/\k<(wZ.setCell ⟨w.heap.size+1,d,none⟩ (.slice az P.orders.length a)).heap.size/\(wZ.setCell ⟨w.heap.size+1,d,none⟩ (.slice az P.orders.length a)).heap[k]? = wZ.heap[k]? :=λS k hk ad=>⟨hk,Nat.lt_of_lt_of_le ad M.size,M.block k ad (λe=>hk.1 (by cases e;rfl))⟩;have b6:=Ints.sub (Ints.mono aO (au _)) (S':=λk=>k≠w.heap.size+1/\¬((Value.slice (some ⟨gq,off,none⟩) F capq).ownBlock=some k)) (λk hk _=>⟨hk.1,λe=>hk.2 (.inl e)⟩)
    have b7:Ints (λk=>k≠w.heap.size+1/\¬((Value.slice (some ⟨gq,off,none⟩) F capq).ownBlock=some k)) (wZ.setCell ⟨w.heap.size+1,d,none⟩ (.slice az P.orders.length a)) (.slice (some ⟨br,or_,none⟩) P.orders.length capr) Y:=Ints.mono (ints_of_own (aM.ext0 K) (by rw[r.1];omega) (λk hk=>by
     have h1:=((aM.ext0 K).lt k hk).1;exact⟨by omega,λe=>by have:=own_blk e;omega⟩)) (au _)
    have b8:ShQ (λk=>k=w.heap.size+1) D.heap.size (wZ.setCell ⟨w.heap.size+1,d,none⟩ (.slice az P.orders.length a)) (.slice (some ⟨gq,off,none⟩) F capq) l:=(bk.ext K).kept M.size (λj hj hc=>M.block j hj (λe=>by
     have e:=Option.some.inj e;subst e;rcases hc with hc|hc
     ·have:=own_blk hc;omega
     ·exact hc rfl)) (λ_ _ h=>h)
    have a1:Ext w0 (wZ.setCell ⟨w.heap.size+1,d,none⟩ (.slice az P.orders.length a)):=grown_own b3 M (λj hj ad=>by cases hj;have:=HS.out;omega);have N:∀k,(Value.slice (some ⟨gq,off,none⟩) F capq).ownBlock=some k->D.heap.size<=k:=λk hk=>by have:=own_blk hk;omega
    have HZ:=Lib.hid (And.intro hZ (And.intro bl (And.intro am an)));clear hZ bl am an ap aN bk ak aM aO;have de:l.length<=20000:=by have:=HY.out.2.2.2.1;omega
    generalize cM:wZ.setCell ⟨w.heap.size+1,d,none⟩ (.slice az P.orders.length a)=w5 at *;have cN:D.heap.size<=w5.heap.size:=by have:=a1.size;have:=M.size;have:=K.size;omega
    go_wp2_with (first|(at_builtin;refine wp_shq_app rfl _ _ rfl (λk=>k=w.heap.size+1) D.heap.size _ _ l Y rfl w5 b8 rfl b7 rfl (by omega) cN ?_;intro v6 w6 aP aw bm;have aa:=grown_own a1 aw (λj hj ad=>by have:=N j hj;have:=HS.out;omega))|fail)
    have b':=tab_keptF b5 N ag aw bm;have bn:Ints (λk=>¬(k=w.heap.size+1)/\v6.ownBlock≠some k) w6 (.slice az P.orders.length a) Z:=Ints.mono b6 (q_kept (bad:=λk=>k=w.heap.size+1) aw bm);have dB:D.heap.size<=w6.heap.size:=by have:=aw.size;omega
    have O:∀k,v6.ownBlock=some k->D.heap.size<=k:=λk hk=>(aP.lt k hk).1;clear cM au b5 M b6 b7 b8 aw bm cK cL N;have ca:Vec P.orders (pw P Z (gt P.orders d).toNat):=G.pw_vec HZ.out.2.1 _;have cb:(pw P Z (gt P.orders d).toNat).length<=6:=by rw[ca.1];omega
    have cc:pwZ P Z (gt P.orders d)=pw P Z (gt P.orders d).toNat:=pwZ_nat _ _ _ (by omega);have cd:=Lib.hid (And.intro cb cc);clear cb cc ca;have e1:∀w',Ext w0 w'->w'.cell? ⟨w.heap.size,0,none⟩=some (.slice (some ⟨bo,oo,none⟩) P.orders.length X):=λw' h=>(HB.out w' h).1;have e2:∀w',Ext w0 w'->w'.cell? ⟨w.heap.size,1,none⟩=some vp6:=λw' h=>(HB.out w' h).2.1;have e3:∀w',Ext w0 w'->w'.cell? ⟨w.heap.size,2,none⟩=some vc6:=λw' h=>(HB.out w' h).2.2;obtain⟨_,_,ce,_,_,hco⟩:=Ints.at E.o d A;have e5:∀w',Ext w0 w'->w'.cell? ⟨bo,oo+d,none⟩=some (.int .i64 (gt P.orders d)):=λw' h=>h.cell (by cases ce;exact hco) (by simp);clear hco ce
    go_region_held3 (λw'=>Ext w0 w') (first|exact grown_trans aa (grown_drew _ _)|assumption|exact grown_trans a3 (World.grownBy_alloc _ _ _))
     (first
      | (go_at_call 257;refine Calls.mono (Calls.rel2 (w0:=w6) (grown_drew _ _) (l10Pow_ok P G _ _ _ Z (gt P.orders d) Any _ ⟨_,_,_,rfl,Pres3.ext E (grown_trans aa (grown_drew _ _))⟩ (bn.ext (grown_drew _ _)) HZ.out.2.1 (by omega))) ?_;rintro eT wT ⟨vT,rfl,C,hgT7,hsT,aQ⟩;have a3:=grown_trans aa C;rw[cd.out.2] at aQ;have bp:Ints (λk=>¬(k=w.heap.size+1)/\v6.ownBlock≠some k) wT vT (pw P Z (gt P.orders d).toNat):=ints_of_own aQ (by have:=cd.out.1;omega) (λk hk=>by
        have h1:=(aQ.lt k hk).1;have h3:=aa.size;exact⟨by omega,λe=>by have:=(aP.lt k e).2;omega⟩);obtain⟨aT,capT,hvT,_,_⟩:=bp.shape;subst hvT)
      | (refine step_shq_app rfl _ _ rfl (λk=>k=w.heap.size+1) D.heap.size v6 _ (l++[Y]) _ rfl wT (aP.ext C) rfl bp rfl (by simp;omega) (by have:=C.size;omega) ?_;intro v7 w7 bq ax bs;have cf:=grown_own a3 ax (λj hj ad=>by have:=O j hj;have:=HS.out;omega)))
    clear e1 e2 e3 e5;have cP:D.heap.size<=w7.heap.size:=by have:=ax.size;have:=C.size;omega
    have cg:=tab_keptF (b'.ext C) O ag ax bs;have ch:Ints (λk=>¬(k=w.heap.size+1)/\v7.ownBlock≠some k) w7 (.slice az P.orders.length a) Z:=Ints.mono (bn.ext C) (q_kept (bad:=λk=>k=w.heap.size+1) ax bs);obtain⟨T1,aA⟩:∃T1,T1=pw P Z (gt P.orders d).toNat:=⟨_,rfl⟩;rw[<-aA] at bq;have cQ:=Lib.hid aA;clear aA aP b' bn O bp aQ ax bs;go_wp2
    go_loopw [7,12] (λqv ev aB=>∃(e:Nat) (v8:Value),v8=qv/\ev=.int .i64 e/\e<=P.orders.length/\D.heap.size<=aB.heap.size/\Ext w0 aB/\TabAt w.heap.size (λj=>v8.ownBlock=some j\/j<w.heap.size) aB (w.heap.size+1) P.orders.length (b.set d Z) /\
     ShQ (λk=>k=w.heap.size+1) D.heap.size aB v8 (l++[Y]++[T1]++comsR P b Z e)/\Ints (λj=>¬(j=w.heap.size+1)/\v8.ownBlock≠some j) aB (.slice az P.orders.length a) Z) (λ_ ev _=>P.orders.length-(intOf ev).toNat)
    case atStart=>exact⟨0,v7,rfl,rfl,by omega,cP,cf,cg,by simpa [comsR] using bq,ch⟩
    case round=>
     obtain⟨e,v8,rfl,rfl,he,hs8,H,U,V,ae⟩:=hrel;clear cg bq ch;have W:∀j,v8.ownBlock=some j->D.heap.size<=j:=λj hj=>(V.lt j hj).1;by_cases ci:e<P.orders.length
     ·have dD:(e:Int)<P.orders.length:=by omega
      have dE:(0:Int)<=e:=by omega
      by_cases aD:e=d
      ·have I:comsR P b Z (e+1)=comsR P b Z e:=by simp only[comsR];rw[if_pos (by rw[aD];exact HD.out.1),List.append_nil]
       have cR:((e:Int) != (d:Int))=false:=by simp[aD]
       have HC:=Lib.hid I;clear I aD;go_wp2;go_roundw
       case rel=>exact⟨e+1,v8,rfl,by go_num,by omega,hs8,H,U,by rw[HC.out];exact V,ae⟩
       case measure=>simp[intOf];omega
      ·have cR:((e:Int) != (d:Int))=true:=by simp;omega
       have cj:gt (b.set d Z) e=gt b e:=gt_set_ne _ _ _ _ (λh=>aD h.symm);obtain⟨_,ap⟩:=U.at e ci;rw[cj] at ap;clear cj aD;rcases ap with⟨h0,i⟩|⟨aU,ab,ck,i,cS⟩
       ·have I:comsR P b Z (e+1)=comsR P b Z e:=by simp only[comsR];rw[if_pos h0,List.append_nil]
        have HC:=Lib.hid I;clear I h0;go_wp2;go_roundw
        case rel=>exact⟨e+1,v8,rfl,by go_num,by omega,hs8,H,U,by rw[HC.out];exact V,ae⟩
        case measure=>simp[intOf];omega
       ·have I:comsR P b Z (e+1)=comsR P b Z e++[comR P Z (gt b e)]:=by simp only[comsR];rw[if_neg aU]
        have aV:=(HY.out.2.1 e ci aU).1.1;have cm:Vec P.orders (comR P Z (gt b e)):=G.mulV (G.invV (G.mulV aV HZ.out.2.1)) (G.mulV HZ.out.2.1 aV)
        have dF:(0:Int)<(gt b e).length:=by
         have:0<(gt b e).length:=List.length_pos_iff.2 aU;omega
        have aW:=comsR_len P b Z e;have HC:=Lib.hid (And.intro I (And.intro aV (And.intro cm aW)));clear I aV cm aW aU;have ac:w.heap.size+1<wr.heap.size:=by have:=U.lt;omega
        go_wp2;have e1:∀w',HeldB w0 wr (w.heap.size+1) w'->w'.cell? ⟨w.heap.size,0,none⟩=some (.slice (some ⟨bo,oo,none⟩) P.orders.length X):=λw' h=>(HB.out w' h.1).1;have e2:∀w',HeldB w0 wr (w.heap.size+1) w'->w'.cell? ⟨w.heap.size,1,none⟩=some vp6:=λw' h=>(HB.out w' h.1).2.1;have e3:∀w',HeldB w0 wr (w.heap.size+1) w'->w'.cell? ⟨w.heap.size,2,none⟩=some vc6:=λw' h=>(HB.out w' h.1).2.2;have e4:∀w',HeldB w0 wr (w.heap.size+1) w'->w'.cell? ⟨w.heap.size+1,e,none⟩=some (.slice (some ab) (gt b e).length ck):=λw' h=>h.cell i;clear i
        go_region_held3 (λw'=>HeldB w0 wr (w.heap.size+1) w') (first|exact heldB_ext H ac (grown_drew _ _)|assumption|exact heldB_ext H ac B|exact heldB_ext H ac (grown_trans B (World.grownBy_alloc _ _ _)))
         (first
          | (go_at_call 259;refine Calls.mono (Calls.rel2 (w0:=wr) (grown_drew _ _) (l10Comm_ok P G _ _ _ _ Z (gt b e) Any _ _ ⟨_,_,_,rfl,Pres3.ext E (grown_trans H (grown_drew _ _))⟩ (ae.ext (grown_drew _ _)) (Ints.ext cS (grown_drew _ _)) HZ.out.2.1 HC.out.2.1)) ?_;rintro eC wC ⟨vC,rfl,B,hgC2,hsC,bt⟩;have bu:Ints (λk=>¬(k=w.heap.size+1)/\v8.ownBlock≠some k) wC vC (comR P Z (gt b e)):=ints_of_own bt (by rw[HC.out.2.2.1.1];omega) (λk hk=>by
            have h1:=(bt.lt k hk).1;exact⟨by omega,λe=>by have:=(V.lt k e).2;omega⟩);obtain⟨aC,capC,hvC,_,_⟩:=bu.shape;subst hvC)
          | (refine step_shq_app rfl _ _ rfl (λk=>k=w.heap.size+1) D.heap.size v8 _ (l++[Y]++[T1]++comsR P b Z e) _ rfl wC (V.ext B) rfl bu rfl (by have:=HC.out.2.2.2;simp;omega) (by have:=B.size;omega) ?_;intro v9 w9 cU af bv;have cV:HeldB w0 wr (w.heap.size+1) w9:=⟨grown_own (grown_trans H B) af (λj hj ad=>by have:=W j hj;have:=HS.out;omega),(af.block _ (by have:=B.size;omega) (λe=>by have:=W _ e.symm;omega)).trans (B.block _ ac (by simp))⟩))
        clear e1 e2 e3 e4;have cW:D.heap.size<=w9.heap.size:=by have:=af.size;have:=B.size;omega
        have cX:=tab_keptF (U.ext B) W ag af bv;have cY:Ints (λk=>¬(k=w.heap.size+1)/\v9.ownBlock≠some k) w9 (.slice az P.orders.length a) Z:=Ints.mono (ae.ext B) (q_kept (bad:=λk=>k=w.heap.size+1) af bv);clear V U ae af bv bu bt;go_wp2;go_roundw
        case rel=>exact⟨e+1,v9,rfl,by go_num,by omega,cW,cV.1,cX,by rw[HC.out.1,<-List.append_assoc];exact cU,cY⟩
        case measure=>simp[intOf];omega
     ·have cZ:e=P.orders.length:=by omega
      subst cZ;have aX:=miss_set (b:=b) (z:=Z) HD.out.1 HZ.out.2.2.2 P.orders.length (by rw[bS.out];exact Nat.le_refl _);rw[if_pos A] at aX;have aW:=comsR_len P b Z P.orders.length;have cn:(l++[Y]++[T1]++comsR P b Z P.orders.length).length<=l.length+2+P.orders.length:=by simp;omega
      have a5:miss b P.orders.length*(P.orders.length+3)=miss (b.set d Z) P.orders.length*(P.orders.length+3)+(P.orders.length+3):=by rw[<-aX,Nat.add_mul,Nat.one_mul]
      have c0:Hid (∃R,AddInv P Q (gt (b.set d Z)) (l++[Y]++[T1]++comsR P b Z P.orders.length).reverse R):=by
       obtain⟨R,p⟩:=aj.out.1
       have ah:=G.close_step (q':=(l++[Y]++[T1]++comsR P b Z P.orders.length).reverse) p A aj.out.2.1 HD.out.1 bS.out kk a0 HK.out (λx=>by
        rw[<-HZ.out.1,<-cQ.out];simp only[List.mem_reverse,List.mem_append,List.mem_singleton,or_assoc])
       rw[<-HZ.out.1] at ah;exact Lib.hid ah
      have a6:miss (b.set d Z) P.orders.length*(P.orders.length+3)+(l++[Y]++[T1]++comsR P b Z P.orders.length).length<gk:=by
       have:=HY.out.2.2.2.2;have:=HY.out.2.2.2.1;have:=HM.out.1;omega
      have HX:=Lib.hid (And.intro cn (And.intro a6 (And.intro a5 aX)));clear cn a5 aX a6 aW ae;go_wp2;go_roundg (miss (b.set d Z) P.orders.length*(P.orders.length+3)+(l++[Y]++[T1]++comsR P b Z P.orders.length).length)
      case measure=>exact HX.out.2.1
      case rel=>exact⟨b.set d Z,_,by have:=HX.out.2.1;omega,rfl,H,U,V,c0⟩
theorem l12Close_ok (P:Pr) (G:Grp P) (w:World) (pv b:Value) (L:List (List Int)) (i j:Nat->Prop) (e:PresV i w pv P) (k:Rows2 j w b L) (l:∀x∈L,Vec P.orders x) (a:L.length<=10000) :
  Calls Tryz.prog 214 #[pv,b] w (Ret w λw' v=>Rows2 Any w' v (cseq P (genP P (λx=>x∈L)))):=
 (l12CloseF_ok P G w pv b L i j e k l a).mono (λ_ _ ⟨v,he,hg,h⟩=>⟨v,he,hg,h.rows⟩)
theorem l01Same2_ok (v1 A:Value) (j l:List (List Int)) (w:World) (H I:Nat->Prop) (h1:Rows2 H w v1 j) (B:Rows2 I w A l) :
  Calls Tryz.prog 232 #[v1,A] w (Ret w λ_ v=>v=.bool (eqB j l)):=by
 obtain⟨a,cap,rfl,_,_⟩:=Sl.shape h1;obtain⟨a2,cap2,rfl,_,_⟩:=Sl.shape B;by_cases p:j.length=l.length
 ·have J:((j.length:Int) != (l.length:Int))=false:=by simp[p]
  have K:j.length<=l.length/\l.length<=j.length:=by omega
  have y:=Lib.hid p;clear p;go_enter Tryz.func232,Tryz.ntmps232;go_wp2;go_loopw [5] (λi wr=>∃k:Nat,i=.int .i64 k/\k<=j.length/\Ext w wr/\∀i,i<k->gt j i=gt l i) (λi _=>j.length-(intOf i).toNat)
  case atStart=>exact⟨0,rfl,by omega,Ext.refl _,λi C=>by omega⟩
  case round=>
   obtain⟨k,rfl,hk,q,hz⟩:=hrel;have D:=Lib.hid hz;clear hz;by_cases z:k<j.length
   ·obtain ⟨b,off,L,c1,rfl,_,_,hc,r⟩:=Rows2.at (Rows2.ext h1 q) k z
    obtain⟨b2,off2,M,c2,rfl,_,_,hc2,u⟩:=Rows2.at (Rows2.ext B q) k (by omega);have E:∀w',Ext wr w'->w'.cell? ⟨b,off+k,none⟩=some (.slice L (gt j k).length c1):=λw' h=>h.cell hc (by simp);have F:∀w',Ext wr w'->w'.cell? ⟨b2,off2+k,none⟩=some (.slice M (gt l k).length c2):=λw' h=>h.cell hc2 (by simp);clear hc hc2;have G:k<l.length:=by omega
    go_wp2;cases hx:eqB (gt j k) (gt l k) with
    | true=>
     have m:=Lib.hid hx
     go_region_held3 (λw'=>Ext wr w') (first|exact grown_drew _ _|assumption)
      (first
       | (go_at_call 275;refine Calls.mono (Calls.rel (w0:=wr) (by assumption) (l01Same_ok _ _ _ _ _ Any Any (Ints.sub (Ints.ext r (by assumption)) (λ_ _ _=>trivial)) (Ints.sub (Ints.ext u (by assumption)) (λ_ _ _=>trivial)))) ?_;rintro N O ⟨Q,rfl,hgA,hsA,rfl⟩))
     clear E F;go_wp2;go_roundw
     case rel=>exact⟨k+1,by go_num,by omega,grown_trans q hgA,λi C=>by
      rcases Nat.lt_or_ge i k with h1|h1
      ·exact D.out i h1
      ·have:i=k:=by omega
       rw[this];exact eqB_true.1 m.out⟩
     case measure=>simp[intOf];omega
    | false=>
     have m:=Lib.hid hx
     go_region_held3 (λw'=>Ext wr w') (first|exact grown_drew _ _|assumption)
      (first
       | (go_at_call 275;refine Calls.mono (Calls.rel (w0:=wr) (by assumption) (l01Same_ok _ _ _ _ _ Any Any (Ints.sub (Ints.ext r (by assumption)) (λ_ _ _=>trivial)) (Ints.sub (Ints.ext u (by assumption)) (λ_ _ _=>trivial)))) ?_;rintro N O ⟨Q,rfl,hgA,hsA,rfl⟩))
     clear E F;go_wp2;go_ret;exact⟨_,rfl,grown_trans q hgA,by rw[eqB_false_at (hx:=eqB_false.1 m.out)];rfl⟩
   ·go_wp2
    go_ret;exact⟨_,rfl,q,by rw[eqB_true.2 (ext_gt y.out (λi C=>D.out i (by omega)))];rfl⟩
 ·have J:((j.length:Int) != (l.length:Int))=true:=by simp;omega
  have y:=Lib.hid p;clear p;go_enter Tryz.func232,Tryz.ntmps232;go_wp2;go_ret;exact⟨_,rfl,Ext.refl _,by rw[eqB_false.2 (λe=>y.out (by rw[e]))];rfl⟩
theorem rows3One {S:Nat->Prop}{w:World}{u:Value}{U:List (List Int)}(h:Rows2 S w u U):Rows3 Any (w.alloc (.cells #[u] 25)) (.slice (some ⟨w.heap.size,0,none⟩) 1 1) [U]:=by
 refine⟨_,1,rfl,⟨by simp,by simp,λh=>by cases h⟩,λi a => ?_⟩;have:i=0:=by simpa using a
 subst this;refine⟨w.heap.size,0,u,rfl,trivial,by simp,by rw[World.cell?_alloc_at _ _ _ _ rfl];rfl,?_⟩;exact Rows2.sub (Rows2.ext h (World.grownBy_alloc _ _ _)) (λ_ _ _=>trivial)
theorem rows3Two {S S':Nat->Prop}{w:World}{u v:Value}{U V:List (List Int)}(h:Rows2 S w u U) (k:Rows2 S' w v V):Rows3 Any (w.alloc (.cells #[u,v] 25)) (.slice (some ⟨w.heap.size,0,none⟩) 2 2) [U,V]:=by
 refine⟨_,2,rfl,⟨by simp,by simp,λh=>by cases h⟩,λi a => ?_⟩;rcases(show i=0\/i=1 by simp at a;omega) with rfl|rfl
 ·refine ⟨w.heap.size,0,u,rfl,trivial,by simp,by rw[World.cell?_alloc_at _ _ _ _ rfl];rfl,?_⟩
  exact Rows2.sub (Rows2.ext h (World.grownBy_alloc _ _ _)) (λ_ _ _=>trivial)
 ·refine ⟨w.heap.size,0,v,rfl,trivial,by simp,by rw[World.cell?_alloc_at _ _ _ _ rfl];rfl,?_⟩
  exact Rows2.sub (Rows2.ext k (World.grownBy_alloc _ _ _)) (λ_ _ _=>trivial)
def conjL (P:Pr) (L:List (List Int)) (X:List Int):List (List Int):=L.map (λy=>rConj P y X)
theorem conjugates_ok (P:Pr) (G:Grp P) (w:World) (p K M:Value) (L:List (List Int)) (X:List Int) (N O Q:Nat->Prop) (R:PresP N w p P) (S:Rows2 O w K L) (T:∀y∈L,Vec P.orders y) (U:L.length<=10000) (hx:Ints Q w M X) (V:Vec P.orders X) :
  Calls Tryz.prog 203 #[p,K,M] w (Ret w λw' v=>RowsO w.heap.size w' v (conjL P L X)):=by
 have hP:=G.v;have Z:=hP.n6;obtain⟨pb,po,rfl⟩:=R.shape;obtain⟨al,capl,rfl,_,_⟩:=Sl.shape S;obtain⟨ax,capx,rfl,_,_⟩:=hx.shape;have B:=Lib.hid (And.intro T V);clear T V;have m:(conjL P L X).length=L.length:=by unfold conjL;rw[List.length_map]
 have e:=Lib.hid m;clear m;go_enter Tryz.func203,Tryz.ntmps203;go_wp2;go_loopw [7,12] (λov D wr=>∃(k:Nat) (v4:Value),v4=ov/\D=.int .i64 k/\k<=L.length/\Ext w wr/\RowsO w.heap.size wr v4 ((conjL P L X).take k)) (λ_ D _=>L.length-(intOf D).toNat)
 case atStart=>exact⟨0,_,rfl,rfl,by omega,Ext.refl _,SlO.nil _ _ _ _⟩
 case round=>
  obtain⟨k,v4,rfl,rfl,hk,l,hO⟩:=hrel;by_cases i:k<L.length
  ·have W:(k:Int)<L.length:=by omega
   obtain⟨b,off,a2,cap2,rfl,_,_,hc,hi⟩:=Rows2.at (Rows2.ext S l) k i;have q:=B.out.1 _ (gtMem i)
   have a:(conjL P L X).take (k+1)=(conjL P L X).take k++[rConj P (gt L k) X]:=by
    rw[take_succ_gt _ k (by rw[e.out];exact i)];unfold conjL;rw[gt_map _ _ _ i]
   have E:((conjL P L X).take k).length<=1000000:=by rw[List.length_take];have:=e.out;omega
   have C:=Lib.hid (And.intro a q);clear a q;go_wp2_with fail
   refine Calls.mono (conjugate_ok P hP wr _ _ _ (gt L k) X N O Q (R.ext l) hi (hx.ext l) C.out.2 B.out.2) ?_;rintro eC Y ⟨vC,rfl,F,r⟩;rw[G.iConj_eq C.out.2 B.out.2] at r;have u:=G.conjV C.out.2 B.out.2;have z:OwnIn (From wr.heap.size) Y vC (rConj P (gt L k) X):=OwnIn.of r (by rw[u.1];omega) (λj h1 _=>h1);obtain⟨ay,capy,hvy,_,_⟩:=z.ints.shape;subst hvy;clear hc u;go_wp2_with (first|(at_builtin;refine wp_app_row rfl _ _ rfl w.heap.size wr Y v4 _ ((conjL P L X).take k) (rConj P (gt L k) X) rfl hO F z rfl rfl E l.size ?_;intro v5 w5 H I ae;have A:=hO.extw l (Nat.le_refl _) I)|fail)
   go_roundw
   case rel=>exact⟨k+1,v5,rfl,by go_num,by omega,A,by rw[C.out.1];exact H⟩
   case measure=>simp[intOf];omega
  ·have J:k=L.length:=by omega
   subst J;rw[List.take_of_length_le (by rw[e.out];exact Nat.le_refl _)] at hO;obtain⟨az,capz,hvz,_,_⟩:=SlD.shape (hO.toD (by rw[e.out];omega));subst hvz;go_wp2;go_ret;exact⟨_,rfl,l,hO⟩
theorem conjugateSubgroup_ok (P:Pr) (G:Grp P) (w:World) (p k l:Value) (L:List (List Int)) (X:List Int) (m u A:Nat->Prop) (q:PresP m w p P) (B:Rows2 u w k L) (C:∀y∈L,Vec P.orders y) (e:L.length<=10000) (hx:Ints A w l X) (D:Vec P.orders X) :
  Calls Tryz.prog 142 #[p,k,l] w (Ret w λw' v=>RowsO w.heap.size w' v (cseq P (genP P (λz=>z∈conjL P L X)))):=by
 have i:(conjL P L X).length=L.length:=by unfold conjL;rw[List.length_map]
 have a:=conjugates_ok P G w p k l L X m u A q B C e hx D;obtain⟨pb,po,rfl⟩:=q.shape;obtain⟨I,capl,rfl,_,_⟩:=Sl.shape B;obtain⟨J,capx,rfl,_,_⟩:=hx.shape
 have j:∀z∈conjL P L X,Vec P.orders z:=λz E=>by
  unfold conjL at E;obtain⟨y,hy,rfl⟩:=List.mem_map.1 E;exact G.conjV (C y hy) D
 have r:=Lib.hid (And.intro j i);clear j i;go_enter Tryz.func142,Tryz.ntmps142;go_wp2_with fail
 refine Calls.mono a ?_;rintro K H ⟨v1,rfl,b,hO⟩;clear a;have F:=RowsD.rows (hO.toD (by rw[r.out.2];omega));obtain⟨a1,cap1,hv1,_,_⟩:=Sl.shape F;subst hv1;go_wp2_with fail
 refine Calls.mono (generated_ok P G H _ _ (conjL P L X) m _ (q.ext b) F r.out.1 (by rw[r.out.2];omega)) ?_;rintro M N ⟨O,rfl,hg2,hO2⟩;go_wp2;go_ret;exact⟨_,rfl,grown_trans b hg2,hO2.weak b.size⟩
theorem l13Conj_ok (P:Pr) (G:Grp P) (w:World) (pv uv xv:Value) (L:List (List Int)) (X:List Int) (Sp Su Sx:Nat->Prop) (W:PresV Sp w pv P) (Y:Rows2 Su w uv L) (Z:∀y∈L,Vec P.orders y) (ap:L.length<=10000) (hx:Ints Sx w xv X) (hX:Vec P.orders X) :
  Calls Tryz.prog 157 #[pv,uv,xv] w (Ret w λw' v=>Rows2 Any w' v (cseq P (genP P (λz=>z∈conjL P L X)))):=by
 have hP:=G.v;have aD:=hP.n6;obtain⟨vo,vp,vc,rfl,h3⟩:=W;have C:=PresP.box h3 28;have p:Ext w (w.alloc (.cells #[vo,vp,vc] 28)):=World.grownBy_alloc _ _ _;have D:(w.alloc (.cells #[vo,vp,vc] 28)).heap.size=w.heap.size+1:=by simp
 have ab:=Rows2.ext Y p;have ac:=hx.ext p;obtain⟨au,capu,rfl,_,_⟩:=Sl.shape Y;obtain⟨ax,capx,rfl,_,_⟩:=hx.shape;obtain⟨ad,vp6,vc6,_,_,hc0,q,r,h36⟩:=C.at;simp only[Nat.zero_add] at q r;have E:(conjL P L X).length=L.length:=by unfold conjL;rw[List.length_map]
 have F:∀z∈conjL P L X,Vec P.orders z:=λz hz=>by
  unfold conjL at hz;obtain⟨y,hy,rfl⟩:=List.mem_map.1 hz;exact G.conjV (Z y hy) hX
 have m:=Lib.hid (And.intro Z (And.intro hX (And.intro E F)));clear Z hX E F C Y hx;go_enter Tryz.func157,Tryz.ntmps157;go_wp2;have HS:=Lib.hid D;clear D;generalize ae:w.alloc (.cells #[vo,vp,vc] 28)=w0 at *;clear ae;have f1:∀w',Ext w0 w'->w'.cell? ⟨w.heap.size,0,none⟩=some ad:=λw' h=>h.cell hc0 (by simp);have f2:∀w',Ext w0 w'->w'.cell? ⟨w.heap.size,1,none⟩=some vp6:=λw' h=>h.cell q (by simp);have f3:∀w',Ext w0 w'->w'.cell? ⟨w.heap.size,2,none⟩=some vc6:=λw' h=>h.cell r (by simp);have HF:=Lib.hid (And.intro f1 (And.intro f2 f3));clear f1 f2 f3 hc0 q r;go_loopw [7,8] (λov iv wr=>∃(k:Nat) (v4:Value),v4=ov/\iv=.int .i64 k/\k<=L.length/\Ext w0 wr/\ShQ (λ_=>False) w0.heap.size wr v4 ((conjL P L X).take k)) (λ_ iv _=>L.length-(intOf iv).toNat)
 case atStart=>exact⟨0,_,rfl,rfl,by omega,World.grownBy_alloc _ _ _,by rw[<-HS.out];exact ShQ.lit _ _ _ (Nat.le_refl _)⟩
 case round=>
  obtain⟨k,v4,rfl,rfl,hk,B,H⟩:=hrel;by_cases a:k<L.length
  ·have ay:(k:Int)<L.length:=by omega
   obtain⟨b,off,a2,I,rfl,_,_,hc,hr⟩:=Rows2.at ab k a;have u:=m.out.1 _ (gtMem a)
   have i:(conjL P L X).take (k+1)=(conjL P L X).take k++[rConj P (gt L k) X]:=by
    rw[take_succ_gt _ k (by rw[m.out.2.2.1];exact a)];unfold conjL;rw[gt_map _ _ _ a]
   have J:((conjL P L X).take k).length<=1000000:=by rw[List.length_take];have:=m.out.2.2.1;omega
   have K:=G.conjV u m.out.2.1;have M:∀j,v4.ownBlock=some j->w0.heap.size<=j:=λj N=>(H.lt j N).1;have l:=Lib.hid (And.intro i (And.intro u (And.intro J K)));clear i u J K;obtain⟨f1,f2,f3⟩:=HF.out;have f4:∀w',Ext w0 w'->w'.cell? ⟨b,off+k,none⟩=some (.slice a2 (gt L k).length I):=λw' h=>h.cell hc (by simp);clear hc;go_wp2
   go_region_held3 (λw'=>Ext w0 w') (first|exact grown_trans B (grown_drew _ _)|assumption|exact grown_trans A (World.grownBy_alloc _ _ _))
    (first
     | (go_at_call 213;refine Calls.mono (Calls.rel2 (w0:=w0) (by assumption) (l10Conj_ok P hP _ _ _ _ (gt L k) X Any Any Any ⟨_,_,_,rfl,Pres3.ext h36 (by assumption)⟩ (Ints.sub (Ints.ext hr (by assumption)) (λ_ _ _=>trivial)) (Ints.sub (Ints.ext ac (by assumption)) (λ_ _ _=>trivial)) l.out.2.1 m.out.2.1)) ?_;rintro eC wC ⟨vC,rfl,A,O,hsC,Q⟩;have R:Ext wr wC:=grown_trans (grown_drew _ _) O;have S:Ints (λj=>¬False/\v4.ownBlock≠some j) wC vC (rConj P (gt L k) X):=ints_of_own Q (by rw[l.out.2.2.2.1];omega) (λj N=>⟨id,λe=>by have h1:=(Q.lt j N).1;have h2:=(H.lt j e).2;have h3:wr.heap.size<=wr.drew.heap.size:=(grown_drew wr none).size;omega⟩);obtain⟨aC,capC,hvC,_,_⟩:=S.shape;subst hvC)
     | (refine step_shq_app rfl _ _ rfl (λ_=>False) w0.heap.size v4 _ ((conjL P L X).take k) _ rfl wC (H.ext R) rfl S rfl l.out.2.2.1 A.size ?_;intro v5 w5 T ah aK;have U:Ext w0 w5:=grown_own A ah (λj N a=>by have:=M j N;omega)))
   clear f1 f2 f3 f4;rw[<-l.out.1] at T;go_wp2;go_roundw
   case rel=>exact⟨k+1,v5,rfl,by go_num,by omega,U,T⟩
   case measure=>simp[intOf];omega
  ·have ai:k=L.length:=by omega
   subst ai;rw[List.take_of_length_le (by rw[m.out.2.2.1];exact Nat.le_refl _)] at H;obtain⟨f1,f2,f3⟩:=HF.out;have aj:=f1 wr B;have ak:=f2 wr B;have al:=f3 wr B;clear f1 f2 f3;have V:=H.rows;obtain⟨aq,capq,hvq,_,_⟩:=Sl.shape V;subst hvq;go_wp2_with fail
   clear aj ak al;refine Calls.mono (l12Close_ok P G wr _ _ (conjL P L X) Any Any ⟨_,_,_,rfl,Pres3.ext h36 B⟩ V m.out.2.2.2 (by have:=m.out.2.2.1;omega)) ?_;rintro eF wF ⟨vF,rfl,am,hRF⟩;go_wp2;go_ret;exact⟨_,rfl,grown_trans p (grown_trans B am),hRF⟩
end Go.Proofs.YtoakmefajbbggaaGreat
namespace Go.Proofs.YtoakmefajbbggaaGreat
abbrev gU (P:Pr) (U:List (List Int)):List Int->Prop:=genP P (λx=>x∈U)
def twoOk (P:Pr) (U V:List (List Int)):Prop:=rconsB P=true/\SubB P U/\SubB P V
def dcSeen (P:Pr) (H K:List Int->Prop) (c:List (List Int)) (a:Int):Prop:=∃x∈c,∃v u,H v/\K u/\a=num P (rMul P (rMul P v x) u)
open Classical in
noncomputable def dcTo (P:Pr) (H K:List Int->Prop):Nat->List (List Int)
 | 0=>[]
 | k+1=>if dcSeen P H K (dcTo P H K k) k then dcTo P H K k else dcTo P H K k++[elAt P k]
theorem dcTo_seen {P:Pr}{H K:List Int->Prop}{k:Nat}(h:dcSeen P H K (dcTo P H K k) k):dcTo P H K (k+1)=dcTo P H K k:=by
 rw[dcTo,if_pos h]
theorem dcTo_new {P:Pr}{H K:List Int->Prop}{k:Nat}(h:¬dcSeen P H K (dcTo P H K k) k):dcTo P H K (k+1)=dcTo P H K k++[elAt P k]:=by
 rw[dcTo,if_neg h]
section
variable {P:Pr}(G:Grp P)
include G
end
section
variable {P:Pr}{G:Grp P}
def nrm (L N:El G->Prop):Prop:=∀g x,L g->N x->N (g⁻¹ * (x*g))
structure AbF (N M:El G->Prop):Prop where
 sn:SG N
 sm:SG M
 le:∀x,N x->M x
 nn:nrm M N
 ab:∀x y,M x->M y->N (x⁻¹ * (y⁻¹ * (x*y)))
section
variable {N M:El G->Prop}(A:AbF N M)
include A
theorem AbF.mul {x x' y a:El G}(h:eqv N x x') (k:eqv N y a) (hy:M y):eqv N (x*y) (x'*a):=by
 have h1:=A.sn.mul _ _ (A.nn y _ hy h) k;unfold eqv;have e:(x*y)⁻¹ * (x'*a)=y⁻¹ * (x⁻¹ * x'*y)*(y⁻¹ * a):=by simp only[El.mi,El.ass,El.irc]
 rw[e];exact h1
theorem AbF.comm {x y:El G}(hx:M x) (hy:M y):eqv N (x*y) (y*x):=by
 have h1:=A.ab y x hy hx;unfold eqv;rw[El.mi,El.ass];exact h1
theorem AbF.ep {x y:El G}(hx:M x) (h:eqv N x y):∀k,eqv N (ep x k) (ep y k)
 | 0=>eqv_refl A.sn _
 | k+1=>A.mul (AbF.ep hx h k) h hx
theorem AbF.ep_mul {x y:El G}(hx:M x) (hy:M y):∀k,eqv N (Go.Proofs.YtoakmefajbbggaaGreat.ep (x*y) k) (Go.Proofs.YtoakmefajbbggaaGreat.ep x k*Go.Proofs.YtoakmefajbbggaaGreat.ep y k)
 | 0=>by
  show eqv N (1:El G) (1*1)
  rw[El.ol];exact eqv_refl A.sn _
 | k+1=>by
  have b:=AbF.ep_mul hx hy k;have e:=A.sm.ep hx k;have a:=A.sm.ep hy k;have h1:=A.mul b (eqv_refl A.sn (x*y)) (A.sm.mul _ _ hx hy);refine eqv_trans A.sn h1 ?_;show eqv N (Go.Proofs.YtoakmefajbbggaaGreat.ep x k*Go.Proofs.YtoakmefajbbggaaGreat.ep y k*(x*y)) (Go.Proofs.YtoakmefajbbggaaGreat.ep x k*x*(Go.Proofs.YtoakmefajbbggaaGreat.ep y k*y))
  have i:=A.mul (eqv_refl A.sn (Go.Proofs.YtoakmefajbbggaaGreat.ep x k)) (A.mul (A.comm a hx) (eqv_refl A.sn y) hy) (A.sm.mul _ _ (A.sm.mul _ _ a hx) hy);simpa only[El.ass] using i
end
def lp:List (El G)->El G
 | []=>1
 | x :: l=>x*lp l
theorem lp_mem {M:El G->Prop}(S:SG M):∀ {l:List (El G)},(∀x∈l,M x)->M (lp l)
 | [],_=>S.one
 | x :: _,h=>S.mul _ _ (h x (List.mem_cons_self ..)) (lp_mem S (λy hy=>h y (List.mem_cons_of_mem _ hy)))
section
variable {N M:El G->Prop}(A:AbF N M)
include A
theorem AbF.lp_perm {l m:List (El G)}(h:l.Perm m):(∀x∈l,M x)->eqv N (lp l) (lp m):=by
 induction h with
 | nil=>intro _;exact eqv_refl A.sn _
 | cons x h j=>
  intro a;have b:=λy hy=>a y (List.mem_cons_of_mem _ hy);exact A.mul (eqv_refl A.sn x) (j b) (lp_mem A.sm b)
 | swap x y l=>
  intro a;have hx:=a x (by simp);have hy:=a y (by simp);have k:=lp_mem A.sm (λz p=>a z (List.mem_cons_of_mem _ (List.mem_cons_of_mem _ p)));have h1:=A.mul (A.comm hy hx) (eqv_refl A.sn (lp l)) k;show eqv N (y*(x*lp l)) (x*(y*lp l))
  simpa only[El.ass] using h1
 | trans h1 q e i=>
  intro a;exact eqv_trans A.sn (e a) (i (λx hx=>a x (h1.mem_iff.2 hx)))
theorem AbF.lp_congr {a:Type}{f g:a->El G} : ∀ {l:List a},(∀x∈l,M (f x))->(∀x∈l,eqv N (f x) (g x))->eqv N (lp (l.map f)) (lp (l.map g))
 | [],_,_=>eqv_refl A.sn _
 | x :: l,h,k=>by
  have b:∀y∈l,M (f y):=λy hy=>h y (List.mem_cons_of_mem _ hy);refine A.mul (k x (List.mem_cons_self ..)) (AbF.lp_congr b (λy hy=>k y (List.mem_cons_of_mem _ hy))) (lp_mem A.sm ?_);intro z e;obtain⟨y,hy,rfl⟩:=List.mem_map.1 e;exact b y hy
theorem AbF.lp_cn {k:Type}{f:k->El G}{y v:El G}(b:∀x,M x->M (y⁻¹ * (x*y))) (a:M v):∀ {l:List k},(∀x∈l,M (f x)) ->
  eqv N (lp (l.map (λx=>y⁻¹ * (f x*y)*v))) (y⁻¹ * (lp (l.map f)*y)*Go.Proofs.YtoakmefajbbggaaGreat.ep v l.length)
 | [],_=>by
  show eqv N (1:El G) (y⁻¹ * (1*y)*1)
  rw[El.ol,El.il,El.or];exact eqv_refl A.sn _
 | x :: l,h=>by
  have e:∀y∈l,M (f y):=λy hy=>h y (List.mem_cons_of_mem _ hy);have p:=AbF.lp_cn b a e
  have q:M (lp (l.map f)):=lp_mem A.sm (λz i=>by
   obtain⟨y,hy,rfl⟩:=List.mem_map.1 i;exact e y hy)
  have r:M (lp (l.map (λx=>y⁻¹ * (f x*y)*v))):=lp_mem A.sm (λz i=>by
   obtain⟨u,w,rfl⟩:=List.mem_map.1 i;exact A.sm.mul _ _ (b _ (e u w)) a)
  have j:=A.sm.ep a l.length;have m:=A.sm.mul _ _ (b _ q) j;have hx:=b _ (h x (List.mem_cons_self ..));have h1:=A.mul (eqv_refl A.sn (y⁻¹ * (f x*y)*v)) p r;refine eqv_trans A.sn h1 ?_;have B:=A.mul (eqv_refl A.sn (y⁻¹ * (f x*y))) (A.comm a m) (A.sm.mul _ _ a m);have C:y⁻¹ * (f x*y)*v*(y⁻¹ * (lp (l.map f)*y)*Go.Proofs.YtoakmefajbbggaaGreat.ep v l.length)=y⁻¹ * (f x*y)*(v*(y⁻¹ * (lp (l.map f)*y)*Go.Proofs.YtoakmefajbbggaaGreat.ep v l.length)):=El.ass _ _ _
  have D:y⁻¹ * (lp ((x :: l).map f)*y)*Go.Proofs.YtoakmefajbbggaaGreat.ep v (x :: l).length=y⁻¹ * (f x*y)*(y⁻¹ * (lp (l.map f)*y)*Go.Proofs.YtoakmefajbbggaaGreat.ep v l.length*v):=by
   show y⁻¹ * (f x*lp (l.map f)*y)*(Go.Proofs.YtoakmefajbbggaaGreat.ep v l.length*v)=_
   simp only[El.ass,El.irc]
  rw[C,D];exact B
end
theorem SG.of_mul {H:El G->Prop}(h1:H 1) (a:∀x y,H x->H y->H (x*y)):SG H:=by
 refine⟨h1,a,λx hx => ?_⟩;obtain⟨k,hk⟩:=G.inv_pw x.2;have e:x⁻¹ = Go.Proofs.YtoakmefajbbggaaGreat.ep x k:=Subtype.ext (hk.trans (ep_val x k).symm);rw[e]
 have:∀k,H (Go.Proofs.YtoakmefajbbggaaGreat.ep x k):=λk=>by
  induction k with
  | zero=>exact h1
  | succ k b=>exact a _ _ b hx
 exact this k
def prS (A N:El G->Prop) (x:El G):Prop:=∃a n,A a/\N n/\x=a*n
theorem prS_sg {A N:El G->Prop}(e:SG A) (i:SG N) (h:nrm A N):SG (prS A N):=by
 refine⟨⟨1,1,e.one,i.one,(El.ol _).symm⟩,?_,?_⟩
 ·rintro x y ⟨a,n,ha,j,rfl⟩ ⟨b,m,k,l,rfl⟩
  refine⟨a*b,b⁻¹ * (n*b)*m,e.mul _ _ ha k,i.mul _ _ (h b n k j) l,?_⟩;simp only[El.ass,El.irc]
 ·rintro x ⟨a,n,ha,j,rfl⟩
  refine⟨a⁻¹,a⁻¹⁻¹ * (n⁻¹ * a⁻¹),e.inv _ ha,h _ _ (e.inv _ ha) (i.inv _ j),?_⟩;rw[El.mi,El.irc]
theorem prS_ep {A N:El G->Prop}(b:SG N) (h:nrm A N) {a n:El G}(ha:A a) (i:N n):∀k,∃m,N m/\ep (a*n) k=ep a k*m
 | 0=>⟨1,b.one,(El.or _).symm⟩
 | k+1=>by
  obtain⟨m,j,e⟩:=prS_ep b h ha i k;refine⟨a⁻¹ * (m*a)*n,b.mul _ _ (h a m ha j) i,?_⟩;show ep (a*n) k*(a*n)=ep a k*a*_
  rw[e];simp only[El.ass,El.irc]
noncomputable def aP (P:Pr) (π : Int->Prop):Nat:=prd P (λd=>π (gt P.orders d)) P.orders.length 0
noncomputable def bP (P:Pr) (π : Int->Prop):Nat:=prd P (λd=>¬ π (gt P.orders d)) P.orders.length 0
theorem ab_cop (G:Grp P) (π : Int->Prop):Nat.Coprime (aP P π) (bP P π):=
 prd_cop G _ _ (Nat.zero_add _) (λ_ _ _ _ h1 a e=>a (e▸h1))
theorem a_ndvd (G:Grp P) {π : Int->Prop}{d:Nat}(a:d<P.orders.length) (h:¬ π (gt P.orders d)):Nat.Coprime (gt P.orders d).toNat (aP P π):=by
 obtain⟨q,h1,b,h3⟩:=ordN G a;refine prd_cop1 G (by rw[b];exact h3) _ _ (Nat.zero_add _) (λk hk i e=>h ?_);obtain⟨r,g1,g2,_⟩:=ordN G hk;have:gt P.orders d=gt P.orders k:=by omega
 rw[this];exact i
theorem b_ndvd (G:Grp P) {π : Int->Prop}{d:Nat}(a:d<P.orders.length) (h:π (gt P.orders d)):Nat.Coprime (gt P.orders d).toNat (bP P π):=by
 obtain⟨q,h1,b,h3⟩:=ordN G a;refine prd_cop1 G (by rw[b];exact h3) _ _ (Nat.zero_add _) (λk hk i e=>i ?_);obtain⟨r,g1,g2,_⟩:=ordN G hk;have:gt P.orders k=gt P.orders d:=by omega
 rw[this];exact h
theorem cop_ndvd {G:Grp P}{d k:Nat}(a:d<P.orders.length) (h:Nat.Coprime (gt P.orders d).toNat k):¬(gt P.orders d).toNat∣k:=λhk=>by
 obtain⟨q,h1,h2,h3⟩:=ordN G a;have:=Nat.Coprime.eq_one_of_dvd h hk;omega
theorem ep_order {d:Nat}(a:d<P.orders.length) {x:El G}(h:dT d x):dT (d+1) (ep x (gt P.orders d).toNat):=by
 have:=G.pw_order a (dT_T.1 h);rw[dT_T,ep_val];exact this
theorem ep_all (x:El G) (π : Int->Prop):ep x (aP P π * bP P π)=1:=by
 have key:∀f d (x:El G),d+f=P.orders.length->dT d x->ep x (prd P (λ_=>True) f d)=1:=by
  intro f;induction f with
  | zero=>
   intro d x b a;have:d=P.orders.length:=by omega
   subst this;rw[dT_top a];exact ep_one _
  | succ f i=>
   intro d x b a;rw[prd,if_pos trivial,ep_mul];exact i (d+1) _ (by omega) (ep_order (by omega) a)
 have e:aP P π * bP P π = prd P (λ_=>True) P.orders.length 0:=by
  unfold aP bP;rw[prd_mul _ _ (λk _ _ h1 j=>j h1)];exact prd_congr _ _ (λk _ _=>⟨λ_=>trivial,λ_=>Classical.em _⟩)
 rw[e];exact key _ 0 x (Nat.zero_add _) (dT_zero x)
theorem pv_of_exp {N B:El G->Prop}{k d:Nat}(h:∀x,B x->N (ep x k)) (b:pv B d) (e:¬pv N d):(gt P.orders d).toNat∣k:=by
 refine Classical.byContradiction λhk=>e ?_;obtain⟨h1,x,hx,a,h0⟩:=b;exact⟨h1,_,h x hx,ep_dT (Nat.le_of_lt h1) a k,lead_ne h1 a h0 hk⟩
theorem exp_of_pv {B:El G->Prop}(S:SG B) {π : Int->Prop}(h:∀d,pv B d->π (gt P.orders d)) {x:El G}(hx:B x):ep x (aP P π)=1:=by
 have key:∀f d (x:El G),d+f=P.orders.length->B x->dT d x->ep x (prd P (λd=>π (gt P.orders d)) f d)=1:=by
  intro f;induction f with
  | zero=>
   intro d x i _ a;have:d=P.orders.length:=by omega
   subst this;rw[dT_top a];exact ep_one _
  | succ f e=>
   intro d x i hx a;rw[prd];by_cases b:π (gt P.orders d)
   ·rw [if_pos b,ep_mul]
    exact e (d+1) _ (by omega) (S.ep hx _) (ep_order (by omega) a)
   ·rw [if_neg b,Nat.one_mul]
    exact e (d+1) x (by omega) hx (dT_up a (Classical.byContradiction λj=>b (h d ⟨by omega,x,hx,a,j⟩)))
 exact key _ 0 x (Nat.zero_add _) hx (dT_zero x)
def Dom (L N:El G->Prop) (π : Int->Prop):Prop:=∀A B:El G->Prop,SG A->SG B->(∀x,N x->A x)->(∀x,N x->B x)->(∀x,A x->L x)->(∀x,B x->L x) ->
 (∀x,A x->N (ep x (aP P π)))->(∀x,B x->N (ep x (aP P π)))->(∀d,pv L d->¬pv A d->¬ π (gt P.orders d))->∃g,L g/\∀x,B x->A (g⁻¹ * (x*g))
theorem dom_top {L:El G->Prop}(S:SG L) (π : Int->Prop):Dom L L π :=λA B _ _ a _ _ hB _ _ _=>
 ⟨1,S.one,λx hx=>by rw[El.or,El.io,El.ol];exact a x (hB x hx)⟩
theorem nrm_mono {L K N:El G->Prop}(h:nrm L N) (hk:∀x,K x->L x):nrm K N:=λg x a hx=>h g x (hk g a) hx
theorem dom_in {L N M:El G->Prop}{π : Int->Prop}(k:SG M) (u:∀x,M x->L x) (T:SG L) (w:∀x,N x->M x) (K:nrm L M) (U:∀x,M x->N (ep x (aP P π))) (h:Dom L M π):Dom L N π :=by
 intro A B y O z V j p Q W hH;have D:=nrm_mono K j;have R:=nrm_mono K p;have q:=prS_sg y k D;have E:=prS_sg O k R;have r:∀x,A x->prS A M x:=λx hx=>⟨x,1,hx,k.one,(El.or x).symm⟩;have F:∀x,B x->prS B M x:=λx hx=>⟨x,1,hx,k.one,(El.or x).symm⟩
 have hex:∀ {C:El G->Prop},nrm C M->(∀x,C x->N (ep x (aP P π)))->∀x,prS C M x->M (ep x (aP P π)):=by
  rintro C X Y x ⟨a,n,ha,i,rfl⟩;obtain⟨m,Z,e⟩:=prS_ep k X ha i (aP P π);rw[e];exact k.mul _ _ (w _ (Y a ha)) Z
 have b:∀ {C:El G->Prop},(∀x,C x->L x)->∀x,prS C M x->L x:=by
  rintro C hC x ⟨a,n,ha,i,rfl⟩;exact T.mul _ _ (hC a ha) (u n i)
 obtain ⟨g,hg,H⟩:=h _ _ q E (λx hx=>⟨1,x,y.one,hx,(El.ol x).symm⟩) (λx hx=>⟨1,x,O.one,hx,(El.ol x).symm⟩) (b j) (b p) (hex D Q) (hex R W)
  (λd l i=>hH d l (λhp=>i (pv_mono r hp)))
 have I:∀x,prS A M x->A x:=by
  refine le_of_pv y q r (λd l=>Classical.byContradiction λi => ?_);have J:=hH d (pv_mono (b j) l) i;have S:=a_ndvd G l.1 J
  have h2:∀x,prS A M x->A (ep x (aP P π * aP P π)):=λx hx=>by
   rw[ep_mul];exact z _ (U _ (hex D Q x hx))
  exact cop_ndvd (G:=G) l.1 (Nat.Coprime.mul_right S S) (pv_of_exp h2 l i)
 exact⟨g,hg,λx hx=>I _ (H x (F x hx))⟩
theorem cop_inv:∀(b a:Nat),Nat.Coprime a b->0<a->0<b->∃l m:Nat,a*l=1+b*m:=by
 intro b;induction b using Nat.strongRecOn with
 | ind b A=>
  intro a B ha p;by_cases h1:b=1
  ·subst h1
   exact⟨1,a-1,by omega⟩
  ·have y:a%b<b:=Nat.mod_lt _ p
   have j:Nat.Coprime b (a%b):=by
    have:Nat.gcd b (a%b)=Nat.gcd a b:=by rw[Nat.gcd_comm a b,Nat.gcd_rec b a,Nat.gcd_comm]
    unfold Nat.Coprime;rw[this];exact B
   have i:0<a%b:=by
    rcases Nat.eq_zero_or_pos (a%b) with h|h
    ·rw [h] at j
     have:b=1:=by simpa [Nat.Coprime] using j
     exact absurd this h1
    ·exact h
   obtain⟨l,m,e⟩:=A (a%b) y b j p i;-- b * l = 1 + r * m, a = b * (a / b) + r
   have k:=Nat.div_add_mod a b;obtain⟨r,u⟩:∃r,r=a%b:=⟨_,rfl⟩;obtain⟨q,C⟩:∃q,q=a/b:=⟨_,rfl⟩;rw[<-u] at e k i y;rw[<-C] at k;-- r * (b * (m + 1) - m) = r * b * (m + 1) - r * m; pick l' = b * (m + 1) - m, a * l' = 1 + b * ..
   have w:m<=b*(m+1):=Nat.le_trans (Nat.le_succ m) (Nat.le_mul_of_pos_left _ p)
   have D:((r:Int)*(b*(m+1)-m))=1+b*(r*(m+1)-l):=by
    have e':(b:Int)*l=1+r*m:=by exact_mod_cast e
    have:(r:Int)*m=b*l-1:=by omega
    calc (r:Int)*(b*(m+1)-m)=b*(r*(m+1))-r*m:=by rw[Int.mul_sub,Int.mul_left_comm]
     _=b*(r*(m+1))-(b*l-1):=by rw[this]
     _=1+b*(r*(m+1)-l):=by rw[Int.mul_sub];omega
   have E:l<=r*(m+1):=by
    have:b*l<=b*(r*(m+1)):=by
     rw[e];have F:b*(r*(m+1))=r*(b*(m+1)):=Nat.mul_left_comm ..;rw[F];have I:r*m+1<=r*(m+1):=by rw[Nat.mul_succ];omega
     have J:r*(m+1)<=r*(b*(m+1)):=Nat.mul_le_mul_left _ (Nat.le_mul_of_pos_left _ p);omega
    exact Nat.le_of_mul_le_mul_left this p
   refine⟨b*(m+1)-m,r*(m+1)-l+q*(b*(m+1)-m),?_⟩
   have z:r*(b*(m+1)-m)=1+b*(r*(m+1)-l):=by
    have G:((b*(m+1)-m:Nat):Int)=(b:Int)*(m+1)-m:=by rw[Int.ofNat_sub w];push_cast;rfl
    have H:((r*(m+1)-l:Nat):Int)=(r:Int)*(m+1)-l:=by rw[Int.ofNat_sub E];push_cast;rfl
    have:((r*(b*(m+1)-m):Nat):Int)=((1+b*(r*(m+1)-l):Nat):Int):=by
     rw[Int.natCast_mul,G,Int.natCast_add,Int.natCast_mul,H];exact D
    exact Int.ofNat.inj this
   generalize b*(m+1)-m=K at z ⊢;rw[<-k,Nat.add_mul,z,Nat.mul_add b,Nat.mul_assoc];omega
theorem dom_out {L N M:El G->Prop}{π : Int->Prop}(SL:SG L) (F:AbF N M) (R:∀x,M x->L x) (nN:nrm L N) (nM:nrm L M) (he:∀x,M x->N (ep x (bP P π))) (h:Dom L M π):Dom L N π :=by
 intro A B S SB az aA T ae eA eB hH;have nA:=nrm_mono nM T;have nB:=nrm_mono nM ae;have aB:=prS_sg S F.sm nA;have aC:=prS_sg SB F.sm nB;have aD:∀x,A x->prS A M x:=λx hx=>⟨x,1,hx,F.sm.one,(El.or x).symm⟩;have aE:∀x,B x->prS B M x:=λx hx=>⟨x,1,hx,F.sm.one,(El.or x).symm⟩
 have hex:∀ {C:El G->Prop},nrm C M->(∀x,C x->N (ep x (aP P π)))->∀x,prS C M x->M (ep x (aP P π)):=by
  rintro C nC eC x ⟨a,n,ha,r,rfl⟩;obtain⟨m,hm,e⟩:=prS_ep F.sm nC ha r (aP P π);rw[e];exact F.sm.mul _ _ (F.le _ (eC a ha)) hm
 have D:∀ {C:El G->Prop},(∀x,C x->L x)->∀x,prS C M x->L x:=by
  rintro C Y x ⟨a,n,ha,r,rfl⟩;exact SL.mul _ _ (Y a ha) (R n r)
 obtain ⟨g,hg,hgB⟩:=h _ _ aB aC (λx hx=>⟨1,x,S.one,hx,(El.ol x).symm⟩) (λx hx=>⟨1,x,SB.one,hx,(El.ol x).symm⟩) (D T) (D ae) (hex nA eA) (hex nB eB)
  (λd hd r=>hH d hd (λhp=>r (pv_mono aD hp)))
 -- the conjugate C of B lies in A M
 obtain⟨C,Y⟩:∃C:El G->Prop,C=λx=>B (g*(x*g⁻¹)):=⟨_,rfl⟩
 have I:SG C:=by
  rw[Y];refine⟨?_,?_,?_⟩
  ·show B (g*(1*g⁻¹));rw[El.ol,El.ir];exact SB.one
  ·intro x y hx hy
   have:=SB.mul _ _ hx hy;have e:g*(x*g⁻¹)*(g*(y*g⁻¹))=g*(x*y*g⁻¹):=by simp only[El.ass,El.ilc]
   rwa [e] at this
  ·intro x hx
   have:=SB.inv _ hx;have e:(g*(x*g⁻¹))⁻¹ = g*(x⁻¹ * g⁻¹):=by simp only[El.mi,El.ii,El.ass]
   rwa [e] at this
 have af:∀x,C x->∃y,B y/\x=g⁻¹ * (y*g):=λx hx=>by
  rw[Y] at hx;exact⟨_,hx,by simp only[El.ass,El.il,El.ilc,El.or]⟩
 have aH:∀x,B x->C (g⁻¹ * (x*g)):=λx hx=>by
  rw[Y];show B (g*(g⁻¹ * (x*g)*g⁻¹))
  have e:g*(g⁻¹ * (x*g)*g⁻¹)=x:=by simp only[El.ass,El.ir,El.irc,El.or]
  rw[e];exact hx
 have E:∀x,N x->C x:=λx hx=>by
  rw[Y];have:=aA _ (nN g⁻¹ x (SL.inv _ hg) hx);rwa [El.ii] at this
 have ag:∀x,C x->prS A M x:=λx hx=>by
  obtain⟨y,hy,rfl⟩:=af x hx;exact hgB y (aE y hy)
 have H:∀x,C x->L x:=λx hx=>D T x (ag x hx)
 have eC:∀x,C x->N (ep x (aP P π)):=λx hx=>by
  obtain⟨y,hy,rfl⟩:=af x hx;rw[ep_conj];exact nN g _ hg (eB y hy)
 -- A and M meet in N
 have U:∀x,A x->M x->N x:=λx h1 J=>by
  have ha:=eA x h1;have hb:=he x J;have V:0<bP P π := prd_pos G _ _ _ (Nat.zero_add _);obtain⟨l,m,e⟩:=cop_inv (bP P π) (aP P π) (ab_cop G π) (prd_pos G _ _ _ (Nat.zero_add _)) V;have K:=F.sn.ep ha l;rw[<-ep_mul,e,ep_add,ep_1,ep_mul] at K;have h4:=F.sn.mul _ _ K (F.sn.inv _ (F.sn.ep hb m));rwa [El.ass,El.ir,El.or] at h4
 -- the difference
 have ai:∀x,∃v,C x->M v/\A (x*v):=λx=>by
  by_cases hx:C x
  ·obtain ⟨a,n,ha,r,e⟩:=ag x hx
   exact⟨n⁻¹,λ_=>⟨F.sm.inv _ r,by rw[e,El.ass,El.ir,El.or];exact ha⟩⟩
  ·exact⟨1,λh=>absurd h hx⟩
 obtain⟨ν,i⟩:=Classical.axiomOfChoice ai
 have Q:∀x w1 w2,M w1->M w2->A (x*w1)->A (x*w2)->eqv N w1 w2:=λx w1 w2 m1 Z a1 a2=>by
  refine U _ ?_ (F.sm.mul _ _ (F.sm.inv _ m1) Z);have:=S.mul _ _ (S.inv _ a1) a2;rwa [El.mi,El.ass,El.ilc] at this
 have ak:∀x y,C x->C y->eqv N (ν (x*y)) (y⁻¹ * (ν x*y)*ν y):=λx y hx hy=>by
  obtain⟨m1,a1⟩:=i x hx;obtain⟨Z,a2⟩:=i y hy;obtain⟨m3,a3⟩:=i _ (I.mul _ _ hx hy);refine Q (x*y) _ _ m3 (F.sm.mul _ _ (nM y _ (H y hy) m1) Z) a3 ?_;have:=S.mul _ _ a1 a2;have e:x*ν x*(y*ν y)=x*y*(y⁻¹ * (ν x*y)*ν y):=by simp only[El.ass,El.irc]
  rwa [e] at this
 have al:∀x x',C x->C x'->eqv N x x'->eqv N (ν x) (ν x'):=λx x' hx aI aJ=>by
  obtain⟨m1,a1⟩:=i x hx;obtain⟨Z,a2⟩:=i x' aI;have r:N (x⁻¹ * x'):=aJ
  have h1:eqv N (ν x) (x⁻¹ * x'*ν x'):=Q x _ _ m1 (F.sm.mul _ _ (F.le _ r) Z) a1 (by
   have e:x*(x⁻¹ * x'*ν x')=x'*ν x':=by simp only[El.ass,El.irc]
   rw[e];exact a2)
  refine eqv_trans F.sn h1 ?_;have J:=nN _ _ (R _ Z) (F.sn.inv _ r);unfold eqv;have e:(x⁻¹ * x'*ν x')⁻¹ * ν x'=(ν x')⁻¹ * ((x⁻¹ * x')⁻¹ * ν x'):=by rw[El.mi,El.ass]
  rw[e];exact J
 -- the mean
 obtain⟨ts,q⟩:∃ts,ts=trv N C:=⟨_,rfl⟩;have p:∀t∈ts,C t:=λt ht=>by rw[q] at ht;exact(trv_mem.1 ht).1
 have aK:Nat.Coprime ts.length (bP P π):=by
  rw[q,trv_len F.sn I E];refine prd_cop G _ _ (Nat.zero_add _) (λj k hj hk h1 J e=>J ?_);rw[<-e];refine Classical.byContradiction λr => ?_;exact cop_ndvd (G:=G) hj (a_ndvd G hj r) (pv_of_exp eC h1.1 h1.2)
 have V:0<bP P π := prd_pos G _ _ _ (Nat.zero_add _)
 have aL:0<ts.length:=by
  rw[q,trv_len F.sn I E];exact prd_pos G _ _ _ (Nat.zero_add _)
 obtain⟨l,m,hlm⟩:=cop_inv _ _ aK aL V;obtain⟨t,ht⟩:∃t,t=lp (ts.map ν):=⟨_,rfl⟩
 have W:M t:=by
  rw[ht];refine lp_mem F.sm (λz X => ?_);obtain⟨u,hu,rfl⟩:=List.mem_map.1 X;exact(i u (p u hu)).1
 have O:∀y,C y->eqv N t (y⁻¹ * (t*y)*ep (ν y) ts.length):=λy hy=>by
  have nC:∀n,N n->N (y⁻¹ * (n*y)):=λn r=>nN y n (H y hy) r
  have an:(ts.map (λx=>rp N (x*y))).Perm ts:=by
   have ao:(ts.map (λx=>rp N (x*y))).Nodup:=by
    refine List.nodup_iff_pairwise_ne.2 ?_;rw[List.pairwise_map];have aM:ts.Nodup:=by rw[q];exact elsIn_nodup _
    refine(List.nodup_iff_pairwise_ne.1 aM).imp_of_mem (λ{a b} ha hb aN e=>aN ?_);have h1:=rp_eqv F.sn (a*y);rw[e] at h1;have J:=eqv_trans F.sn (eqv_symm F.sn h1) (rp_eqv F.sn (b*y));have K:=nN y⁻¹ _ (SL.inv _ (H y hy)) J;have e2:y⁻¹⁻¹ * ((a*y)⁻¹ * (b*y)*y⁻¹)=a⁻¹ * b:=by simp only[El.mi,El.ii,El.ass,El.ir,El.irc,El.or]
    rw[e2] at K;rw[q] at ha hb;exact trv_one F.sn ha hb K
   have ap:∀z∈ts.map (λx=>rp N (x*y)),z∈ts:=λz X=>by
    obtain⟨u,hu,rfl⟩:=List.mem_map.1 X;rw[q];exact rp_in F.sn I E (I.mul _ _ (p u hu) hy)
   refine(List.perm_ext_iff_of_nodup ao (by rw[q];exact elsIn_nodup _)).2 (λz=>⟨ap z,λX=>Classical.byContradiction λaQ => ?_⟩);have h4:(z :: ts.map (λx=>rp N (x*y))).Nodup:=List.nodup_cons.2 ⟨aQ,ao⟩
   have h5:=nodup_sub_len _ ts h4 (λw hw=>by
    rcases List.mem_cons.1 hw with rfl|hw
    ·exact X
    ·exact ap w hw)
   simp only[List.length_cons,List.length_map] at h5;omega
  have p1:=F.lp_perm ((an.map ν).symm) (λz X=>by
   obtain⟨u,hu,rfl⟩:=List.mem_map.1 X;exact(i u (p u hu)).1)
  rw[<-ht,List.map_map] at p1;refine eqv_trans F.sn p1 ?_
  have p2:eqv N (lp (ts.map (ν ∘ λx=>rp N (x*y)))) (lp (ts.map (λx=>y⁻¹ * (ν x*y)*ν y))):=by
   refine F.lp_congr (λx hx => ?_) (λx hx => ?_)
   ·have:rp N (x*y)∈ts:=by rw[q];exact rp_in F.sn I E (I.mul _ _ (p x hx) hy)
    exact(i _ (p _ this)).1
   ·have hr:rp N (x*y)∈ts:=by rw[q];exact rp_in F.sn I E (I.mul _ _ (p x hx) hy)
    exact eqv_trans F.sn (al _ _ (p _ hr) (I.mul _ _ (p x hx) hy) (rp_eqv F.sn _)) (ak x y (p x hx) hy)
  refine eqv_trans F.sn p2 ?_;have p3:=F.lp_cn (f:=ν) (y:=y) (v:=ν y) (λx hx=>nM y x (H y hy) hx) (i y hy).1 (l:=ts) (λx hx=>(i x (p x hx)).1);rw[<-ht] at p3;exact p3
 obtain⟨s,hs⟩:∃s,s=ep t l:=⟨_,rfl⟩;have aS:M s:=by rw[hs];exact F.sm.ep W l
 have aq:∀y,C y->A (s⁻¹ * (y*s)):=λy hy=>by
  obtain⟨ar,aν⟩:=i y hy;have aT:=H y hy;have h1:=F.ep W (O y hy) l;have J:=F.ep_mul (nM y t aT W) (F.sm.ep ar ts.length) l;rw[ep_conj,<-ep_mul,hlm,ep_add,ep_1,ep_mul] at J;have K:=eqv_trans F.sn h1 J;rw[<-hs] at K;-- h3 : s alike (y⁻¹ s y) (ν y * n)
  obtain⟨n,r⟩:∃n,n=ep (ep (ν y) (bP P π)) m:=⟨_,rfl⟩;have aU:N n:=by rw[r];exact F.sn.ep (he _ ar) m
  rw[<-r] at K;have h4:N (s⁻¹ * (y⁻¹ * (s*y)*(ν y*n))):=K;have h5:=F.sn.mul _ _ h4 (F.sn.inv _ aU);have e:s⁻¹ * (y⁻¹ * (s*y)*(ν y*n))*n⁻¹ = s⁻¹ * (y⁻¹ * (s*(y*ν y))):=by simp only[El.ass,El.ir,El.or]
  rw[e] at h5;have h6:=S.mul _ _ aν (S.inv _ (az _ h5));have e2:y*ν y*(s⁻¹ * (y⁻¹ * (s*(y*ν y))))⁻¹ = s⁻¹ * (y*s):=by simp only[El.mi,El.ii,El.ass,El.irc]
  rwa [e2] at h6
 refine⟨g*s,SL.mul _ _ hg (R s aS),λx hx => ?_⟩;have:=aq _ (aH x hx);have e:s⁻¹ * (g⁻¹ * (x*g)*s)=(g*s)⁻¹ * (x*(g*s)):=by simp only[El.mi,El.ass]
 rwa [e] at this
def genE (Q:El G->Prop) (x:El G):Prop:=∀H,SG H->(∀y,Q y->H y)->H x
theorem genE_sg (Q:El G->Prop):SG (genE Q):=⟨λ_ S _=>S.one,λ_ _ h k H S hH=>S.mul _ _ (h H S hH) (k H S hH),λ_ h H S hH=>S.inv _ (h H S hH)⟩
theorem genE_mem {Q:El G->Prop}{x:El G}(h:Q x):genE Q x:=λ_ _ hH=>hH x h
theorem pull_sg {H:El G->Prop}(S:SG H) (g:El G):SG (λx=>H (g⁻¹ * (x*g))):=by
 refine⟨?_,?_,?_⟩
 ·show H (g⁻¹ * (1*g));rw[El.ol,El.il];exact S.one
 ·intro x y hx hy
  have:=S.mul _ _ hx hy;have e:g⁻¹ * (x*g)*(g⁻¹ * (y*g))=g⁻¹ * (x*y*g):=by simp only[El.ass,El.irc]
  rwa [e] at this
 ·intro x hx
  have:=S.inv _ hx;have e:(g⁻¹ * (x*g))⁻¹ = g⁻¹ * (x⁻¹ * g):=by simp only[El.mi,El.ii,El.ass]
  rwa [e] at this
def dser (L:El G->Prop):Nat->El G->Prop
 | 0=>L
 | k+1=>genE (λz=>∃x y,dser L k x/\dser L k y/\z=x⁻¹ * (y⁻¹ * (x*y)))
theorem dser_sg {L:El G->Prop}(S:SG L):∀k,SG (dser L k)
 | 0=>S
 | _+1=>genE_sg _
theorem dser_le {L:El G->Prop}(S:SG L) (k:Nat):∀x,dser L (k+1) x->dser L k x:=λx hx=>
 hx _ (dser_sg S k) (λz ⟨a,b,ha,i,e⟩=>by
  have R:=dser_sg S k;rw[e];exact R.mul _ _ (R.inv _ ha) (R.mul _ _ (R.inv _ i) (R.mul _ _ ha i)))
theorem dser_in {L:El G->Prop}(S:SG L):∀k x,dser L k x->L x
 | 0,_,h=>h
 | k+1,x,h=>dser_in S k x (dser_le S k x h)
theorem dser_nrm {L:El G->Prop}(S:SG L):∀k,nrm L (dser L k)
 | 0=>λg x i hx=>S.mul _ _ (S.inv _ i) (S.mul _ _ hx i)
 | k+1=>λg x i hx=>by
  have j:=dser_nrm S k;refine hx _ (pull_sg (genE_sg _) g) (λz ⟨a,b,ha,hb,e⟩=>genE_mem ⟨g⁻¹ * (a*g),g⁻¹ * (b*g),j g a i ha,j g b i hb,?_⟩);rw[e];simp only[El.mi,El.ii,El.ass,El.irc]
theorem dser_deep {L:El G->Prop} : ∀k,k<=P.orders.length->∀x,dser L k x->dT k x
 | 0,_,x,_=>dT_zero x
 | k + 1,hk,x,hx=>by
  have l:=dser_deep (L:=L) k (by omega);refine hx _ (dT_sg hk) (λz ⟨a,b,ha,hb,e⟩ => ?_);have S:=dT_sg (G:=G) (d:=k) (by omega);have i:=l a ha;have j:=l b hb
  have h1:=el_diff (x:=b*a) (y:=a*b) (show k<P.orders.length by omega) (S.mul _ _ j i) (S.mul _ _ i j) (by
   have m:=(G.right (show k<=P.orders.length by omega) a.2 (dT_T.1 j)).2 (by omega);have p:=(G.right (show k<=P.orders.length by omega) b.2 (dT_T.1 i)).2 (by omega);show gt (rMul P b.1 a.1) k=gt (rMul P a.1 b.1) k
   rw[m,p,Int.add_comm])
  rw[e];have q:a⁻¹ * (b⁻¹ * (a*b))=(b*a)⁻¹ * (a*b):=by rw[El.mi,El.ass]
  rw[q];exact h1
theorem dom_all {L:El G->Prop}(S:SG L) (π : Int->Prop):Dom L (λx=>x=1) π :=by
 have key:∀k,Dom L (dser L k) π :=by
  intro k;induction k with
  | zero=>exact dom_top S π
  | succ k C=>
   have j:=dser_sg S k;have a:=dser_sg S (k+1);have w:=dser_nrm S k;have m:=dser_nrm S (k+1);have b:=dser_in S k;have z:=dser_in S (k+1);have q:AbF (dser L (k+1)) (dser L k):=⟨a,j,dser_le S k,nrm_mono m b,λx y hx hy=>genE_mem ⟨x,y,hx,hy,rfl⟩⟩;-- between them: the elements whose power lies below
   obtain⟨E,l⟩:∃E:El G->Prop,E=λx=>dser L k x/\dser L (k+1) (ep x (aP P π)):=⟨_,rfl⟩
   have A:SG E:=by
    rw[l];refine⟨⟨j.one,by rw[ep_one];exact a.one⟩,λx y hx hy=>⟨j.mul _ _ hx.1 hy.1,?_⟩,λx hx=>⟨j.inv _ hx.1,?_⟩⟩
    ·have h1:=eqv_symm a (q.ep_mul hx.1 hy.1 (aP P π))
     have r:=a.mul _ _ (a.mul _ _ hx.2 hy.2) h1;rwa [El.irc] at r
    ·have h1:=q.ep_mul hx.1 (j.inv _ hx.1) (aP P π)
     rw[El.ir,ep_one] at h1
     have r:dser L (k+1) (ep x (aP P π)*ep x⁻¹ (aP P π)):=by
      unfold eqv at h1;rwa [El.io,El.ol] at h1
     have D:=a.mul _ _ (a.inv _ hx.2) r;rwa [El.ilc] at D
   have p:∀x,E x->dser L k x:=λx hx=>by rw[l] at hx;exact hx.1
   have i:∀x,dser L (k+1) x->E x:=λx hx=>by rw[l];exact⟨dser_le S k x hx,a.ep hx _⟩
   have u:nrm L E:=λg x B hx=>by
    rw[l] at hx ⊢;exact⟨w g x B hx.1,by rw[ep_conj];exact m g _ B hx.2⟩
   have F:AbF E (dser L k):=⟨A,j,p,nrm_mono u b,λx y hx hy=>i _ (q.ab x y hx hy)⟩
   have h1:Dom L E π := dom_out S F b u w (λx hx=>by
    rw[l];refine⟨j.ep hx _,?_⟩;rw[<-ep_mul,Nat.mul_comm,ep_all];exact a.one) C
   exact dom_in A (λx hx=>b x (p x hx)) S i u (λx hx=>by rw[l] at hx;exact hx.2) h1
 have h:=key P.orders.length;have e:dser L P.orders.length=λx=>x=1:=funext λx=>propext ⟨λhx=>dT_top (dser_deep _ (Nat.le_refl _) x hx),λhx=>by rw[hx];exact(dser_sg S _).one⟩;rwa [e] at h
theorem one_sg:SG (λx:El G=>x=1):=⟨rfl,λx y hx hy=>by rw[hx,hy,El.ol],λx hx=>by rw[hx,El.io]⟩
theorem pv_one {d:Nat} : ¬pv (λx:El G=>x=1) d:=λ⟨_,x,hx,_,h0⟩=>h0 (by rw[hx];exact gt_replicate _ _)
theorem hall_tail (G:Grp P) (π : Int->Prop):∀f i,i+f=P.orders.length->∃A:El G->Prop,SG A/\(∀x,A x->dT i x)/\∀d,pv A d↔(d<P.orders.length/\i<=d/\π (gt P.orders d))
 | 0,i,hi=>⟨λx=>x=1,one_sg,λx hx=>by rw[hx];exact(dT_sg (by omega)).one,λd=>⟨λh=>absurd h pv_one,λh=>by omega⟩⟩
 | f + 1,i,hi=>by
  obtain⟨K,j,B,p⟩:=hall_tail G π f (i+1) (by omega);have a:i<P.orders.length:=by omega
  have ST:=dT_sg (G:=G) (d:=i) (by omega);have E:=dT_sg (G:=G) (d:=i+1) (by omega);have L:∀d,pv K d->π (gt P.orders d):=λd b=>((p d).1 b).2.2;have D:∀x,K x->ep x (aP P π)=1:=λx hx=>exp_of_pv j L hx;by_cases hp:π (gt P.orders i)
  ·-- an element beyond the tail that keeps K
   obtain⟨u,hu⟩:∃u:El G,u=⟨unitV P.orders.length i,(T.unit G.v (Nat.le_refl i) a).1⟩:=⟨_,rfl⟩;have M:dT i u:=by rw[hu];exact dT_T.2 (T.unit G.v (Nat.le_refl i) a)
   have ae:gt u.1 i=1:=by rw[hu];show gt (unitV P.orders.length i) i=1;rw[gt_unit _ _ _ a,if_pos rfl]
   have nT:∀g x:El G,dT i g->dT (i+1) x->dT (i+1) (g⁻¹ * (x*g)):=λg x J hx=>by
    have h1:=el_diff (x:=g) (y:=x*g) a J (ST.mul _ _ (dT_down hx) J) (by
     have e1:=(G.right (show i<=P.orders.length by omega) x.2 (dT_T.1 J)).2 a;show gt g.1 i=gt (rMul P x.1 g.1) i
     have hb:=g.2.2 i a;rw[e1,hx i (by omega),Int.zero_add,Int.emod_eq_of_lt hb.1 hb.2])
    exact h1
   obtain⟨C,hC⟩:∃C:El G->Prop,C=λx=>K (u*(x*u⁻¹)):=⟨_,rfl⟩
   have SC:SG C:=by
    have:=pull_sg j u⁻¹;simp only[El.ii] at this;rw[hC];exact this
   have O:∀x,C x->∃y,K y/\x=u⁻¹ * (y*u):=λx hx=>by
    rw[hC] at hx;exact⟨_,hx,by simp only[El.ass,El.il,El.ilc,El.or]⟩
   have ag:∀x,K x->C (u⁻¹ * (x*u)):=λx hx=>by
    rw[hC];show K (u*(u⁻¹ * (x*u)*u⁻¹))
    have e:u*(u⁻¹ * (x*u)*u⁻¹)=x:=by simp only[El.ass,El.ir,El.irc,El.or]
    rw[e];exact hx
   obtain ⟨g,J,hgC⟩:=dom_all E π K C j SC (λx hx=>by rw[hx];exact j.one) (λx hx=>by rw[hx];exact SC.one) B
    (λx hx=>by obtain⟨y,hy,rfl⟩:=O x hx;exact nT u y M (B y hy)) D
    (λx hx=>by
     obtain⟨y,hy,rfl⟩:=O x hx;rw[ep_conj,D y hy,El.ol,El.il])
    (λd b hn hq=>by
     obtain⟨h1,x,hx,hT,h0⟩:=b;refine hn ((p d).2 ⟨h1,?_,hq⟩);refine Classical.byContradiction λQ=>h0 (hx d (by omega)))
   obtain⟨y,hy⟩:∃y,y=u*g:=⟨_,rfl⟩
   have aj:∀x,K x->K (y⁻¹ * (x*y)):=λx hx=>by
    have:=hgC _ (ag x hx);have e:g⁻¹ * (u⁻¹ * (x*u)*g)=y⁻¹ * (x*y):=by rw[hy];simp only[El.mi,El.ass]
    rwa [e] at this
   have R:dT i y:=by rw[hy];exact ST.mul _ _ M (dT_down J)
   have ak:gt y.1 i=1:=by
    have h1:dT (i+1) (u⁻¹ * y):=by rw[hy,El.ilc];exact J
    rw[<-el_same a h1];exact ae
   have al:∀k x,K x->K ((ep y k)⁻¹ * (x*ep y k)):=by
    intro k;induction k with
    | zero=>intro x hx;show K ((1:El G)⁻¹ * (x*1));rw[El.io,El.ol,El.or];exact hx
    | succ k ih=>
     intro x hx;have:=aj _ (ih x hx)
     have e:y⁻¹ * ((ep y k)⁻¹ * (x*ep y k)*y)=(ep y (k+1))⁻¹ * (x*ep y (k+1)):=by
      show _=(ep y k*y)⁻¹ * (x*(ep y k*y))
      simp only[El.mi,El.ass]
     rwa [e] at this
   obtain⟨q,hq1,hq2,hq3⟩:=ordN G a;-- the power that lies in K
   obtain⟨z,hz⟩:∃z,z=ep y (bP P π):=⟨_,rfl⟩;have F:dT i z:=by rw[hz];exact ep_dT (by omega) R _
   have am:gt z.1 i≠0:=by rw[hz];exact lead_ne a R (by rw[ak];decide) (cop_ndvd (G:=G) a (b_ndvd G a hp))
   have S:∀k x,K x->K ((ep z k)⁻¹ * (x*ep z k)):=λk x hx=>by
    rw[hz,<-ep_mul];exact al _ x hx
   obtain⟨w,hw⟩:∃w,w=ep z q:=⟨_,rfl⟩;have an:dT (i+1) w:=by rw[hw,<-hq2];exact ep_order a F
   have ao:ep w (aP P π)=1:=by
    have h1:=ep_all y π;rw[hw,<-ep_mul,hz,<-ep_mul,show bP P π * (q*aP P π)=aP P π * bP P π * q by rw[Nat.mul_comm (aP P π * bP P π) q,Nat.mul_comm (aP P π) (bP P π),Nat.mul_left_comm],ep_mul,h1,ep_one]
   have U:∀x,K x->∀k,K ((ep w k)⁻¹ * (x*ep w k)):=λx hx k=>by
    rw[hw,<-ep_mul];exact S _ x hx
   -- powers of an element that keeps K, times K
   have V:∀v:El G,(∀k x,K x->K ((ep v k)⁻¹ * (x*ep v k)))->nrm (λx=>∃k,x=ep v k) K/\SG (prS (λx=>∃k,x=ep v k) K):=by
    intro v hv;have hn:nrm (λx=>∃k,x=ep v k) K:=λg x ⟨k,hk⟩ hx=>by rw[hk];exact hv k x hx
    refine⟨hn,SG.of_mul ⟨1,1,⟨0,rfl⟩,j.one,(El.ol _).symm⟩ ?_⟩;rintro x x' ⟨_,c,⟨k,rfl⟩,l,rfl⟩ ⟨_,c',⟨k',rfl⟩,ap,rfl⟩;refine⟨ep v (k+k'),(ep v k')⁻¹ * (c*ep v k')*c',⟨_,rfl⟩,j.mul _ _ (hv k' c l) ap,?_⟩;rw[ep_add];simp only[El.ass,El.irc]
   -- the power of z lies in K
   have aq:K w:=by
    obtain⟨nW,SW⟩:=V w (λk x hx=>U x hx k);obtain⟨W,X⟩:∃W,W=prS (λx=>∃k,x=ep w k) K:=⟨_,rfl⟩;rw[<-X] at SW;have ar:∀x,K x->W x:=λx hx=>by rw[X];exact⟨1,x,⟨0,rfl⟩,hx,(El.ol x).symm⟩
    have au:∀x,W x->dT (i+1) x:=λx hx=>by
     rw[X] at hx;obtain⟨_,c,⟨k,rfl⟩,l,rfl⟩:=hx;exact E.mul _ _ (E.ep an k) (B c l)
    have av:∀x,W x->ep x (aP P π * aP P π)=1:=λx hx=>by
     rw[X] at hx;obtain⟨_,c,⟨k,rfl⟩,l,rfl⟩:=hx;obtain⟨m,hm,e⟩:=prS_ep j nW ⟨k,rfl⟩ l (aP P π);rw[ep_mul,e,<-ep_mul,Nat.mul_comm,ep_mul,ao,ep_one,El.ol];exact D m hm
    refine le_of_pv j SW ar (λd b => ?_) w (by rw[X];exact⟨w,1,⟨1,(ep_1 w).symm⟩,j.one,(El.or w).symm⟩);have I:=b.1;refine(p d).2 ⟨I,?_,Classical.byContradiction λhq => ?_⟩
    ·obtain ⟨_,x,hx,hT,h0⟩:=b
     exact Classical.byContradiction λQ=>h0 (au x hx d (by omega))
    ·have l:=a_ndvd G I hq
     exact cop_ndvd (G:=G) I (Nat.Coprime.mul_right l l) (pv_of_exp (N:=λx=>x=1) av b pv_one)
   obtain⟨nZ,SZ⟩:=V z S;obtain⟨H,hH⟩:∃H,H=prS (λx=>∃k,x=ep z k) K:=⟨_,rfl⟩;rw[<-hH] at SZ;have ax:∀x,K x->H x:=λx hx=>by rw[hH];exact⟨1,x,⟨0,rfl⟩,hx,(El.ol x).symm⟩
   have Y:∀x,H x->dT i x:=λx hx=>by
    rw[hH] at hx;obtain⟨_,c,⟨k,rfl⟩,l,rfl⟩:=hx;exact ST.mul _ _ (ST.ep F k) (dT_down (B c l))
   have ay:∀x,H x->ep x (q*aP P π)=1:=λx hx=>by
    rw[hH] at hx;obtain⟨_,c,⟨k,rfl⟩,l,rfl⟩:=hx;obtain⟨m,hm,e⟩:=prS_ep j nZ ⟨k,rfl⟩ l q;rw[ep_mul,e,<-ep_mul,Nat.mul_comm,ep_mul,<-hw];exact D _ (j.mul _ _ (j.ep aq k) hm)
   refine⟨H,SZ,Y,λd=>⟨λb=>⟨b.1,?_,?_⟩,λb => ?_⟩⟩
   ·obtain ⟨_,x,hx,hT,h0⟩:=b
    exact Classical.byContradiction λQ=>h0 (Y x hx d (by omega))
   ·refine Classical.byContradiction λZ => ?_
    obtain⟨r,g1,g2,g3⟩:=ordN G b.1;have l:=a_ndvd G b.1 Z
    have az:Nat.Coprime (gt P.orders d).toNat q:=by
     rw[g2];refine cop7 g3 hq3 (λe=>Z ?_);have:gt P.orders d=gt P.orders i:=by omega
     rw[this];exact hp
    exact cop_ndvd (G:=G) b.1 (Nat.Coprime.mul_right az l) (pv_of_exp (N:=λx=>x=1) ay b pv_one)
   ·by_cases aA:d=i
    ·rw [aA]
     exact⟨a,z,by rw[hH];exact⟨z,1,⟨1,(ep_1 z).symm⟩,j.one,(El.or z).symm⟩,F,am⟩
    ·exact pv_mono ax ((p d).2 ⟨b.1,by omega,b.2.2⟩)
  ·refine ⟨K,j,λx hx=>dT_down (B x hx),λd=>⟨λh => ?_,λh => ?_⟩⟩
   ·have:=(p d).1 h
    exact⟨this.1,by omega,this.2.2⟩
   ·refine (p d).2 ⟨h.1,?_,h.2.2⟩
    rcases Nat.lt_or_ge i d with h1|h1
    ·exact h1
    ·have:d=i:=by omega
     subst this;exact absurd h.2.2 hp
theorem hall_ex (G:Grp P) (π : Int->Prop):∃A:El G->Prop,SG A/\∀d,pv A d↔(d<P.orders.length/\π (gt P.orders d)):=by
 obtain⟨A,h1,_,a⟩:=hall_tail G π P.orders.length 0 (Nat.zero_add _);exact⟨A,h1,λd=>(a d).trans ⟨λh=>⟨h.1,h.2.2⟩,λh=>⟨h.1,Nat.zero_le _,h.2⟩⟩⟩
theorem hall_dom {π : Int->Prop}{A B:El G->Prop}(a:SG A) (b:SG B) (i:∀d,pv A d↔(d<P.orders.length/\π (gt P.orders d))) (hB:∀d,pv B d->π (gt P.orders d)):∃g,∀x,B x->A (g⁻¹ * (x*g)):=by
 have ST:=dT_sg (G:=G) (d:=0) (Nat.zero_le _)
 obtain ⟨g,_,hg⟩:=dom_all ST π A B a b (λx hx=>by rw[hx];exact a.one) (λx hx=>by rw[hx];exact b.one) (λx _=>dT_zero x) (λx _=>dT_zero x)
  (λx hx=>exp_of_pv a (λd e=>((i d).1 e).2) hx) (λx hx=>exp_of_pv b hB hx) (λd e j k=>j ((i d).2 ⟨e.1,k⟩))
 exact⟨g,hg⟩
end
def cjS (P:Pr) (K:List Int->Prop) (g x:List Int):Prop:=∃y,K y/\x=rConj P y g
section
variable {P:Pr}(G:Grp P)
include G
theorem Grp.conj_zeros {g:List Int}(a:Vec P.orders g):rConj P (zeros P.orders.length) g=zeros P.orders.length:=by
 unfold rConj;rw[G.grp.el _ a,G.inv_mul a]
theorem Grp.conj_inv {x g:List Int}(hx:Vec P.orders x) (a:Vec P.orders g):rConj P (rInv P x) g=rInv P (rConj P x g):=by
 refine G.inv_of (G.conjV hx a) (G.conjV (G.invV hx) a) ?_;rw[<-G.conj_hom hx (G.invV hx) a,G.mul_inv hx,G.conj_zeros a]
theorem Grp.pull_sub {H:List Int->Prop}(S:Sub P H) {g:List Int}(a:Vec P.orders g):Sub P (λy=>Vec P.orders y/\H (rConj P y g)):=
 ⟨λ_ h=>h.1,⟨G.oneV,by rw[G.conj_zeros a];exact S.one⟩,λx y hx hy=>⟨G.mulV hx.1 hy.1,by rw[G.conj_hom hx.1 hy.1 a];exact S.mul _ _ hx.2 hy.2⟩,
  λx hx=>⟨G.invV hx.1,by rw[G.conj_inv hx.1 a];exact S.inv _ hx.2⟩⟩
theorem Grp.cj_sub {K:List Int->Prop}(S:Sub P K) {g:List Int}(b:Vec P.orders g):Sub P (cjS P K g):=by
 refine⟨?_,⟨_,S.one,(G.conj_zeros b).symm⟩,?_,?_⟩
 ·rintro x ⟨y,hy,rfl⟩;exact G.conjV (S.vec y hy) b
 ·rintro x x' ⟨y,hy,rfl⟩ ⟨e,a,rfl⟩
  exact⟨_,S.mul _ _ hy a,(G.conj_hom (S.vec y hy) (S.vec e a) b).symm⟩
 ·rintro x ⟨y,hy,rfl⟩
  exact⟨_,S.inv _ hy,(G.conj_inv (S.vec y hy) b).symm⟩
theorem Grp.genP_conjL {K:List Int->Prop}(S:Sub P K) {g:List Int}(b:Vec P.orders g):genP P (λz=>z∈conjL P (cseq P K) g)=cjS P K g:=by
 have e:=(G.seq_facts S).2.1
 have i:∀z,z∈conjL P (cseq P K) g->Vec P.orders z:=λz a=>by
  unfold conjL at a;obtain⟨y,hy,rfl⟩:=List.mem_map.1 a;exact G.conjV (S.vec y (e y hy)) b
 have j:=G.genP_sub (Q:=λz=>z∈conjL P (cseq P K) g) i;refine funext λx=>propext ⟨λh=>h _ (G.cj_sub S b) (λz a => ?_),?_⟩
 ·unfold conjL at a
  obtain⟨y,hy,rfl⟩:=List.mem_map.1 a;exact⟨y,e y hy,rfl⟩
 ·rintro ⟨y,hy,rfl⟩
  have h1:genP P (λz=>z∈cseq P K) y:=by rw[G.genP_cseq S];exact hy
  exact(h1 _ (G.pull_sub j b) (λz a=>⟨S.vec z (e z a),genP_mem (List.mem_map.2 ⟨z,a,rfl⟩)⟩)).2
end
end Go.Proofs.YtoakmefajbbggaaGreat
namespace Go.Proofs.YtoakmefajbbggaaGreat
open Go.RowKit
open Go.Maps (Keyed)
structure MapK (κ ν : Type) where
 t:TypeId
 k:TypeId
 e:TypeId
 kv:κ -> Value
 kl:κ -> Lit
 okK:κ -> Prop
 ev:ν -> Value
 el:ν -> Lit
 okV:ν -> Prop
 z:ν
 keyed:Keyed Tryz.prog k
 und:Tryz.prog.underlying t=some (.map k e)
 key:∀a,okK a->keyOf Tryz.prog k (kv a)=some (kl a)
 inj:∀a c,kl a=kl c->a=c
 isKey:∀a,WideAt.IsKeyLit (kl a)
 elem:∀x,okV x->plainElem (H:=Unit) Tryz.prog e (ev x)=some (.lit (el x),[])
 inv:∀v x ps,plainElem (H:=Unit) Tryz.prog e v=some (.lit (el x),ps)->v=ev x
 zero:∀w,(zeroValue e).run Tryz.prog w=.ok (ev z) w
 okz:okV z
variable {κ ν : Type}
def MapAt (M:MapK κ ν) (w:World) (b:Nat) (f:κ -> ν) (m:Nat):Prop:=
 ∃(n:Nat) (D:DataW Unit),w.ownsMap Tryz.prog M.k (plainElem Tryz.prog M.e) b n D/\n<=m/\Maps.IsMap D/\∀a,M.okK a->D.atKey (M.kl a) (.lit (M.el M.z))=.lit (M.el (f a))
theorem MapAt.made (M:MapK κ ν) (w:World):MapAt M (w.alloc (.map #[] 0)) w.heap.size (λ_=>M.z) 0:=
 ⟨0,.map [],World.ownsMap_made _ _ _ _,Nat.le_refl _,Maps.isMap_empty,λa _=>by simp[WideAt.atKey_none]⟩
theorem MapAt.lt {M:MapK κ ν}{w:World}{b:Nat}{f:κ -> ν}{m:Nat}(h:MapAt M w b f m):b<w.heap.size:=by
 obtain⟨n,D,h,_⟩:=h;exact h.lt
theorem MapAt.kept {M:MapK κ ν}{w w':World}{b:Nat}{f:κ -> ν}{m:Nat}{r:Option Nat}(h:MapAt M w b f m) (e:w.grownBy w' r) (a:some b≠r):MapAt M w' b f m:=by
 obtain⟨n,D,h,h2⟩:=h;exact⟨n,D,h.kept e a,h2⟩
theorem MapAt.ext {M:MapK κ ν}{w w':World}{b:Nat}{f:κ -> ν}{m:Nat}(h:MapAt M w b f m) (a:Ext w w'):MapAt M w' b f m:=h.kept a (by simp)
theorem MapAt.look {M:MapK κ ν}{w:World}{b:Nat}{f:κ -> ν}{m:Nat}(h:MapAt M w b f m) (a:κ) (ha:M.okK a) :
  (Instr.lookup M.t (.map (some b)) (M.kv a) false).run Tryz.prog w=.ok (M.ev (f a)) w:=by
 obtain⟨n,D,h,_,_,i⟩:=h;obtain⟨v,ps,e,j⟩:=h.lookup M.keyed M.und (M.zero w) (M.elem M.z M.okz) (M.key a ha);rw[i a ha] at j;rw[e,M.inv _ _ _ j]
theorem MapAt.update [DecidableEq κ] {M:MapK κ ν}{w:World}{b:Nat}{f:κ -> ν}{m:Nat}(h:MapAt M w b f m) (a:κ) (ha:M.okK a) (x:ν) (hx:M.okV x) (l:m<=1048576) :
  ∃w',(Instr.mapUpdate M.t (.map (some b)) (M.kv a) (M.ev x)).run Tryz.prog w=.ok () w'/\MapAt M w' b (λc=>if c=a then x else f c) (m+1)/\w.grownBy w' (some b):=by
 obtain⟨n,D,h,hn,j,hat⟩:=h;obtain⟨w',hrun,hown,hg⟩:=h.update M.keyed M.und (by unfold maxLen;omega) (M.key a ha) (M.elem x hx);refine⟨w',hrun,⟨n+1,_,hown,by omega,j.put _ _,?_⟩,hg⟩;intro c k;by_cases i:c=a
 ·subst i
  rw[Maps.atKey_put_same j (M.isKey c)];simp
 ·rw[Maps.atKey_put_other (λe=>i (M.inj _ _ e)),hat c k];simp[i]
end Go.Proofs.YtoakmefajbbggaaGreat
namespace Go.Proofs.YtoakmefajbbggaaGreat
open Go.RowKit
def keyRow (x:List Int):List Int:=x++[59]
def keyL (u:List (List Int)):List Int:=(u.map keyRow).flatten
def keyS (u:List (List Int)):ByteArray:=strOfNums (keyL u)
def byV (l:List Int):List Value:=l.map (Value.int .u8)
theorem keyL_take (u:List (List Int)) (k:Nat) (h:k<u.length):keyL (u.take (k+1))=keyL (u.take k)++keyRow (gt u k):=by
 unfold keyL;rw[take_succ_gt u k h,List.map_append,List.flatten_append];simp
theorem keyL_len (u:List (List Int)) (b:Nat) (h:∀x∈u,x.length<=b):(keyL u).length<=(b+1)*u.length:=by
 induction u with
 | nil=>simp[keyL]
 | cons x u a=>
  have h1:=a (λy hy=>h y (List.mem_cons_of_mem _ hy));have e:=h x (List.mem_cons_self ..);unfold keyL at h1 ⊢;simp only[List.map_cons,List.flatten_cons,List.length_append,List.length_cons,keyRow,List.length_nil,Nat.mul_succ];omega
theorem keyS_size (u:List (List Int)):(keyS u).size=(keyL u).length:=strOfNums_size _
theorem und_bytes:Tryz.prog.underlying 22=some (.slice 5):=by kernel_rfl
theorem und_byte:Tryz.prog.underlying 5=some (.int .u8):=by kernel_rfl
theorem und_str:Tryz.prog.underlying 9=some .string:=by kernel_rfl
theorem Tryz.infoByte:(Tryz.prog.info? 5).map (λi=>(i.zero,i.size,i.bytes))=some (some (.int .u8 0),1,1):=by kernel_rfl
theorem conv_bytes {B:Nat}{w:World}{v:Value}{l:List Int}(h:OwnV B 5 w v (byV l)):(convert 22 9 v).run Tryz.prog w=.ok (.string (strOfNums l)) w:=by
 rcases h.form with⟨rfl,a⟩|⟨g,cap,rfl,_⟩
 ·have:l=[]:=by unfold byV at a;rw[List.map_eq_nil_iff] at a;exact a
  subst this;rw[run_convert_bytes_nil w _ _ und_bytes und_byte 0 0 _ und_str];rfl
 ·have b:(byV l).length=l.length:=by unfold byV;rw[List.length_map]
  rw[b];refine run_convert_bytes_arg w _ _ und_bytes und_byte g 0 l.length cap l rfl (λi e => ?_) _ und_str;have:=h.cell i (by rw[b];exact e);rw[Nat.zero_add,this];unfold byV;rw[gt_map _ _ _ e];rfl
theorem keyOf_ok (u:List (List Int)) (w:World) (Y:Value) (S:Nat->Prop) (h:Rows2 S w Y u) (Z:∀x∈u,∀e∈x,0<=e/\e<256) (J:∀x∈u,x.length<=1000) (hn:u.length<=100) :
  Calls Tryz.prog 138 #[Y] w (Ret w λ_ v=>v=.string (keyS u)):=by
 obtain⟨au,capu,rfl,_,_⟩:=Sl.shape h
 have a:∀k,(keyL (u.take k)).length<=1001*100:=λk=>by
  have h1:=keyL_len (u.take k) 1000 (λx hx=>J x (List.mem_of_mem_take hx));have:(u.take k).length<=100:=by rw[List.length_take];omega
  have:=Nat.mul_le_mul_left 1001 this;omega
 have K:=Lib.hid (And.intro Z (And.intro J a));clear Z J a;go_enter Tryz.func138,Tryz.ntmps138;go_wp2;go_loopw [3,10] (λL M wr=>∃(k:Nat) (v4:Value),v4=L/\M=.int .i64 k/\k<=u.length/\Ext w wr/\OwnV w.heap.size 5 wr v4 (byV (keyL (u.take k)))) (λ_ M _=>u.length-(intOf M).toNat)
 case atStart=>exact⟨0,_,rfl,rfl,by omega,Ext.refl _,World.ownsRow_nil _ _ _ _⟩
 case round=>
  obtain⟨k,v4,rfl,rfl,hk,q,hO⟩:=hrel;by_cases l:k<u.length
  ·have aa:(k:Int)<u.length:=by omega
   obtain⟨b,off,a2,cap2,rfl,_,_,hc0,hi⟩:=Rows2.at h k l;have hc:=q.cell hc0 (by simp);clear hc0;have hx:=K.out.1 _ (gtMem l);have z:=K.out.2.1 _ (gtMem l);have i:=keyL_take u k l;have A:=K.out.2.2 k;obtain⟨x,B⟩:∃x,x=gt u k:=⟨_,rfl⟩;rw[<-B] at hx z i hc hi;obtain⟨r,C⟩:∃r,r=keyL (u.take k):=⟨_,rfl⟩;rw[<-C] at i A hO;have D:=Lib.hid (And.intro hx (And.intro z (And.intro i (And.intro A (And.intro B C)))));clear hx z i A B C;have ad:x.length<=1000:=D.out.2.1;go_wp2;clear hc;go_loopw [3,16] (λL N wr=>∃(j:Nat) (v4:Value),v4=L/\N=.int .i64 j/\j<=x.length/\Ext w wr/\OwnV w.heap.size 5 wr v4 (byV (r++x.take j))) (λ_ N _=>x.length-(intOf N).toNat)
   case atStart=>exact⟨0,v4,rfl,rfl,by omega,q,by rw[List.take_zero,List.append_nil];exact hO⟩
   case round=>
    clear hO q;obtain⟨j,v4,rfl,rfl,I,q,hO⟩:=hrel;by_cases p:j<x.length
    ·have O:(j:Int)<x.length:=by omega
     obtain⟨b2,off2,rfl,_,_,Q⟩:=Ints.at (Ints.ext hi q) j p;have hx:=D.out.1 _ (gtMem p)
     have m:byV (r++x.take (j+1))=byV (r++x.take j)++[.int .u8 (gt x j)]:=by
      unfold byV;rw[take_succ_gt x j p,<-List.append_assoc,List.map_append];rfl
     have a:(byV (r++x.take j)).length<=1000000:=by
      have h1:=D.out.2.1;have h2:=D.out.2.2.2.1;unfold byV;rw[List.length_map,List.length_append,List.length_take];omega
     obtain⟨e,R⟩:∃e,e=gt x j:=⟨_,rfl⟩;rw[<-R] at hx m Q
     have ah:IntKind.u8.wrap e=e:=by
      simp only[IntKind.wrap,IntKind.signed,IntKind.bits];simp;omega
     have H:=Lib.hid (And.intro m (And.intro a (And.intro R hx)));clear m a R hx;go_wp2_with (first|(at_builtin;refine wp_app_val 22 5 (.int .u8 0) 1 und_bytes Tryz.infoByte rfl (by decide) rfl _ _ rfl w.heap.size v4 _ (byV (r++x.take j)) rfl wr hO rfl rfl rfl H.out.2.1 q.size ?_;intro T U E F;have G:Ext w U:=grown_own q F (λj I l=>by have:=(hO.lt j I).1;omega))|fail)
     go_roundw
     case rel=>exact⟨j+1,T,rfl,by go_num,by omega,G,by rw[H.out.1];exact E⟩
     case measure=>simp[intOf];omega
    ·have V:j=x.length:=by omega
     subst V;rw[List.take_length] at hO
     have m:byV (keyL (u.take (k+1)))=byV (r++x)++[.int .u8 59]:=by
      rw[D.out.2.2.1];unfold byV keyRow;rw[<-List.append_assoc,List.map_append (l₂:=[59])];rfl
     have a:(byV (r++x)).length<=1000000:=by
      have h1:=D.out.2.1;have h2:=D.out.2.2.2.1;unfold byV;rw[List.length_map,List.length_append];omega
     have H:=Lib.hid (And.intro m a);clear m a;go_wp2_with (first|(at_builtin;refine wp_app_val 22 5 (.int .u8 0) 1 und_bytes Tryz.infoByte rfl (by decide) rfl _ _ rfl w.heap.size v4 _ (byV (r++x)) rfl wr hO rfl rfl rfl H.out.2 q.size ?_;intro T U E F;have G:Ext w U:=grown_own q F (λj I l=>by have:=(hO.lt j I).1;omega))|fail)
     go_roundw
     case rel=>exact⟨k+1,T,rfl,by go_num,by omega,G,by rw[H.out.1];exact E⟩
     case measure=>simp[intOf];omega
  ·have W:k=u.length:=by omega
   subst W;rw[List.take_length] at hO;have ai:=conv_bytes hO
   have X:∃az nz y,v4=.slice az nz y:=by
    rcases hO.form with⟨h1,_⟩|⟨g,cp,h1,_⟩
    ·exact⟨_,_,_,h1⟩
    ·exact⟨_,_,_,h1⟩
   obtain⟨az,nz,y,rfl⟩:=X;go_wp2;go_ret;exact⟨_,rfl,q,rfl⟩
end Go.Proofs.YtoakmefajbbggaaGreat
namespace Go.Proofs.YtoakmefajbbggaaGreat
open Go.RowKit
open Go.Maps (Keyed)
theorem und_boolL:Tryz.prog.underlying 4=some .bool:=by kernel_rfl
end Go.Proofs.YtoakmefajbbggaaGreat
namespace Go.Proofs.YtoakmefajbbggaaGreat
open Go.RowKit
theorem MapAt.congr {κ ν : Type}{M:MapK κ ν}{w:World}{b:Nat}{f e:κ -> ν}{m:Nat}(h:MapAt M w b f m) (i:∀a,f a=e a):MapAt M w b e m:=by
 have:f=e:=funext i;rw[<-this];exact h
theorem und_r3:Tryz.prog.underlying 26=some (.slice 25):=by kernel_rfl
theorem Tryz.infoR3:(Tryz.prog.info? 25).map (λi=>(i.zero,i.size,i.bytes))=some (some (.slice none 0 0),1,24):=by kernel_rfl
end Go.Proofs.YtoakmefajbbggaaGreat
