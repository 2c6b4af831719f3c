/- Merged from templates. -/
import Derived.Test.YtdcobapnlpeaaaaGreatX12
import Derived.Maps.OwnSet
import Derived.Maps.StringElems
import Derived.StringKeys
set_option maxRecDepth 100000
set_option maxHeartbeats 8000000
namespace Go.Proofs.YtdcobapnlpeaaaaGreat
open Go.RowKit
theorem l12Elements_ok (P:Pr) (G:Grp P) (w:World) (pv uv:Value) (H:List Int->Prop) (Sp Su:Nat->Prop) (S:Sub P H) (a6:PresV Sp w pv P) (hu:Rows2 Su w uv (cseq P H)) :
  Calls Tryz.prog 254 #[pv,uv] w (Ret w λw' v=>RowsO w.heap.size w' v (elemsIn P H)):=by
 have hP:=G.v;have bJ:=hP.n6;have br:ordP P<=729:=hP.le729;have bs:=hP.ordP_pos;have hl:=G.cseq_len S;have B:=(G.seq_facts S).1;have af:∀z∈cseq P H,Vec P.orders z:=λz hz=>S.vec z ((G.seq_facts S).2.1 z hz);have Q:=G.marks_elems S;obtain⟨U,hU⟩:∃U,U=cseq P H:=⟨_,rfl⟩;rw[<-hU] at hl B af Q hu;have a8:=prodU_729 hP B U.length (Nat.le_refl _);have ag:=ordsU_len P U
 have u:Valid (shapeP (ordsU P U)):=by
  refine shapeP_valid (by omega) (λi hi => ?_) ?_
  ·rw [ordsU_at P U i (by omega)]
   exact hP.ord _ (B.1 _ (gtMem (by omega))).2.1
  ·rw[ag,prodTo_ordsU P U U.length (Nat.le_refl _)];exact a8.2
 obtain⟨vo,vp,vc,rfl,h3⟩:=a6;have aB:=PresP.box h3 28;have aC:Ext w (w.alloc (.cells #[vo,vp,vc] 28)):=World.grownBy_alloc _ _ _;have ah:=Rows2.ext hu aC;have D:(w.alloc (.cells #[vo,vp,vc] 28)).heap.size=w.heap.size+1:=by simp
 obtain⟨au,capu,rfl,_,_⟩:=Sl.shape hu;obtain⟨aD,fB,fu,_,_,R,E,F,fq⟩:=aB.at;simp only[Nat.zero_add] at E F;have T:∀w',Ext (w.alloc (.cells #[vo,vp,vc] 28)) w'->w'.cell? ⟨w.heap.size,0,none⟩=some aD/\w'.cell? ⟨w.heap.size,1,none⟩=some fB/\w'.cell? ⟨w.heap.size,2,none⟩=some fu:=λw' h=>⟨h.cell R (by simp),h.cell E (by simp),h.cell F (by simp)⟩;have HB:=Lib.hid T;clear T;have hE:=l12Order_ok P hP (w.alloc (.cells #[vo,vp,vc] 28)) _ _ U Any Su ⟨_,_,_,rfl,fq⟩ ah B (by omega);have I:=Lib.hid (And.intro B (And.intro af (And.intro u (And.intro hU ag))));clear B af u hU ag aB hu;go_enter Tryz.func254,Tryz.ntmps254;go_wp2_with fail
 have HS:=Lib.hid D;clear D R E F;generalize a':w.alloc (.cells #[vo,vp,vc] 28)=w0 at *;clear a';refine Calls.mono hE ?_;rintro e1 w1 ⟨v1,rfl,hg1,rfl⟩;clear hE;obtain⟨n,hb1,hb2⟩:=HB.out w1 hg1;go_wp2_with fail
 clear n hb1 hb2;refine Calls.mono (l10Order_ok w1 _ P Any hP ⟨_,_,_,rfl,Pres3.ext fq hg1⟩) ?_;rintro e2 l ⟨v2,rfl,hg2,rfl⟩;have y:=grown_trans hg1 hg2;obtain⟨n,hb1,hb2⟩:=HB.out l y;have bz:=hg1.size;have bA:=hg2.size;go_wp2_with (first|(at_make;refine wp_make_bools rfl _ _ rfl l.heap.size (ordP P).toNat l.heap.size rfl (ordP P) rfl rfl (by omega) (by omega) (Nat.le_refl _) ?_;intro w3 aF ai bB;have aG:=HB.out w3 (grown_trans y ai);obtain⟨R,E,F⟩:=aG)|fail)
 clear n hb1 hb2 R E F;have J:=grown_trans y ai;refine Calls.mono (l12Orders_ok P hP w3 _ _ U Any Su ⟨_,_,_,rfl,Pres3.ext fq J⟩ (Rows2.ext ah J) I.out.1 (by omega)) ?_;rintro e4 p ⟨ov,rfl,V,W⟩;have aH:=W.ints (by rw[I.out.2.2.2.2];omega);obtain⟨g,a,iJ,_,_⟩:=aH.shape;subst iJ;have bE:=grown_trans J V;have bM:w.heap.size<l.heap.size:=by have:=HS.out;omega
 have bN:w3.heap.size<=p.heap.size:=V.size;have bO:l.heap.size≠p.heap.size:=by omega
 have aj:Ext p (p.alloc (.cells #[.slice g (ordsU P U).length a,.slice none 0 0,.slice none 0 0] 28)):=World.grownBy_alloc _ _ _
 have ak:∀k,k<3->(p.alloc (.cells #[.slice g (ordsU P U).length a,.slice none 0 0,.slice none 0 0] 28)).cell? ⟨p.heap.size,k,none⟩=some (gt [Value.slice g (ordsU P U).length a,.slice none 0 0,.slice none 0 0] k):=λk hk=>by
  rw[World.cell?_alloc_at _ _ _ _ rfl];rcases(show k=0\/k=1\/k=2 by omega) with rfl|rfl|rfl<;>rfl
 have ba:Ints (λk=>w3.heap.size<=k) (p.alloc (.cells #[.slice g (ordsU P U).length a,.slice none 0 0,.slice none 0 0] 28)) (.slice g (ordsU P U).length a) (ordsU P U):=(ints_of_own W (by rw[I.out.2.2.2.2];omega) (λk hk=>(W.lt k hk).1)).ext aj;have al:=(aF.ext0 V).ext0 aj;have aI:=grown_trans ai (grown_trans V aj);have aa:(p.alloc (.cells #[.slice g (ordsU P U).length a,.slice none 0 0,.slice none 0 0] 28)).heap.size=p.heap.size+1:=by simp
 have bP:=Lib.hid aa;clear aa;go_wp2_with fail
 generalize bb:p.alloc (.cells #[.slice g (ordsU P U).length a,.slice none 0 0,.slice none 0 0] 28)=w5 at *;clear bb W aH aF;obtain⟨N,hN⟩:∃N,N=(ordP P).toNat:=⟨_,rfl⟩;obtain⟨f,hf⟩:∃f:Nat->Nat,f=λk=>(num P (prodN P U k)).toNat:=⟨_,rfl⟩;rw[<-hf,<-hN] at Q;have HN:=Lib.hid (And.intro hf (And.intro Q hN));clear hf Q;rw[<-hN] at al ⊢;have aJ:(N:Int)=ordP P:=by omega
 clear hN;have X:=Lib.hid aJ;clear aJ;have aK:BOwn l.heap.size w5 (.slice (some ⟨l.heap.size,0,none⟩) N N) (markAt N f 0):=al;clear al;go_loopw [8] (λkv wr=>∃k:Nat,kv=.int .i64 k/\(k:Int)<=prodU P U U.length/\w5.grownBy wr (some l.heap.size)/\BOwn l.heap.size wr (.slice (some ⟨l.heap.size,0,none⟩) N N) (markAt N f k)) (λkv _=>(prodU P U U.length).toNat-(intOf kv).toNat)
 case atStart=>exact⟨0,rfl,by omega,grown_refl _ _,aK⟩
 case round=>
  clear aK;obtain⟨k,rfl,hk,q,hM⟩:=hrel;have aL:Ext l wr:=grown_own aI q (λj hj be=>by cases hj;omega);have b:=grown_trans y aL;by_cases be:(k:Int)<prodU P U U.length
  ·have bQ:(k:Int)<=729:=by omega
   have bR:w5.heap.size<=wr.heap.size:=q.size;have bf:=HB.out wr b;obtain⟨n,hb1,hb2⟩:=bf;have D:wr.cell? ⟨p.heap.size,0,none⟩=some (.slice g (ordsU P U).length a):=q.cell (ak 0 (by omega)) (by simp;omega);have aM:wr.cell? ⟨p.heap.size,1,none⟩=some (.slice none 0 0):=q.cell (ak 1 (by omega)) (by simp;omega);have ab:wr.cell? ⟨p.heap.size,2,none⟩=some (.slice none 0 0):=q.cell (ak 2 (by omega)) (by simp;omega);have bg:Ints Any wr (.slice g (ordsU P U).length a) (ordsU P U):=Ints.mono ba (frame_of q (λj hj _=>⟨trivial,λe=>by cases e;omega⟩));have am:=elAt_vec I.out.2.2.1 (k:Int) (by omega);have K:(elAt (shapeP (ordsU P U)) (k:Int)).length=U.length:=am.1.trans I.out.2.2.2.2
   have aN:∀i,i<U.length->0<=gt (elAt (shapeP (ordsU P U)) (k:Int)) i/\gt (elAt (shapeP (ordsU P U)) (k:Int)) i<=1000:=λi hi=>by
    have h1:0<=gt (elAt (shapeP (ordsU P U)) (k:Int)) i/\gt (elAt (shapeP (ordsU P U)) (k:Int)) i<gt (ordsU P U) i:=am.2 i (by show i<(ordsU P U).length;rw[I.out.2.2.2.2];exact hi);have h2:2<=gt (ordsU P U) i/\gt (ordsU P U) i<=7:=I.out.2.2.1.ord7 i (by show i<(ordsU P U).length;rw[I.out.2.2.2.2];exact hi);omega
   have Y:Vec P.orders (prodN P U k):=G.prodR_vec I.out.2.1 _ _ (Nat.le_refl _);have aO:(prodN P U k).length<=6:=by rw[Y.1];omega
   have bh:=num_bd hP Y;have aP:prodR P U (elAt (shapeP (ordsU P U)) (k:Int)) U.length=prodN P U k:=rfl;have an:f k=(num P (prodN P U k)).toNat:=by rw[HN.out.1]
   have aQ:=X.out;obtain⟨n0,n1⟩:=bh;obtain⟨m,hm⟩:∃m,m=num P (prodN P U k):=⟨_,rfl⟩;rw[<-hm] at n0 n1 an;have bU:m<N:=by omega
   have ac:markAt N f (k+1)=(markAt N f k).set m.toNat true:=by rw[<-an];rfl
   have HV:=Lib.hid (And.intro K (And.intro aN (And.intro Y (And.intro aO (And.intro aP (And.intro hm ac))))));clear K aN Y aO aP hm ac am an aQ;have ae:=hM.cell m.toNat (by rw[markAt_len];omega);have bj:=hM.frozen m.toNat;have e1:∀w',Near wr l.heap.size w'->w'.cell? ⟨w.heap.size,0,none⟩=some aD:=λw' h=>h.cell n (by simp;omega);have e2:∀w',Near wr l.heap.size w'->w'.cell? ⟨w.heap.size,1,none⟩=some fB:=λw' h=>h.cell hb1 (by simp;omega);have e3:∀w',Near wr l.heap.size w'->w'.cell? ⟨w.heap.size,2,none⟩=some fu:=λw' h=>h.cell hb2 (by simp;omega);have e4:∀w',Near wr l.heap.size w'->w'.cell? ⟨p.heap.size,0,none⟩=some (.slice g (ordsU P U).length a):=λw' h=>h.cell D (by simp;omega);have e5:∀w',Near wr l.heap.size w'->w'.cell? ⟨p.heap.size,1,none⟩=some (.slice none 0 0):=λw' h=>h.cell aM (by simp;omega);have e6:∀w',Near wr l.heap.size w'->w'.cell? ⟨p.heap.size,2,none⟩=some (.slice none 0 0):=λw' h=>h.cell ab (by simp;omega);clear n hb1 hb2 D aM ab;have aR:=Pres3.ext fq b;have bk:=Rows2.ext ah b;go_wp2
   go_region_held3 (λw'=>Near wr l.heap.size w') (first|exact Near.of (grown_drew _ _)|exact Near.of (by assumption)|exact Near.store (by assumption)|assumption)
    (first
     | (go_at_call 107;refine Calls.mono (Calls.rel (w0:=wr) (by first|exact grown_drew _ _|assumption) (l10AtO_ok (ordsU P U) I.out.2.2.1 _ _ _ _ (k:Int) Any (Ints.ext bg (by first|exact grown_drew _ _|assumption)) (by omega) (by omega))) ?_;rintro eE wE ⟨vE,rfl,lJ,gJ,xk⟩;have bl:=xk.ints (by rw[HV.out.1];omega))
     | (go_at_call 299;refine Calls.mono (Calls.rel (w0:=wr) (by assumption) (l12Product_ok P G _ _ _ _ U _ Any Any Any ⟨_,_,_,rfl,Pres3.ext aR (by assumption)⟩ (Rows2.sub (Rows2.ext bk (by assumption)) (λ_ _ _=>trivial)) bl I.out.2.1 (by rw[HV.out.1];exact Nat.le_refl _) HV.out.2.1)) ?_;rintro eF wF ⟨vF,rfl,jk,iY,aS⟩;rw[HV.out.2.2.2.2.1] at aS;have bm:=aS.ints (by have:=HV.out.2.2.2.1;omega))
     | (go_at_call 255;refine Calls.mono (Calls.rel (w0:=wr) (by assumption) (l10Number_ok P hP _ _ _ _ Any Any ⟨_,_,_,rfl,Pres3.ext aR (by assumption)⟩ bm HV.out.2.2.1)) ?_;rintro eG wG ⟨vG,rfl,Z,mR,aT⟩;rw[<-HV.out.2.2.2.2.2.1] at aT;subst aT;have ao:=Z.cell ae (by simp);have aU:=(hM.ext0 Z).frozen m.toNat))
   clear e1 e2 e3 e4 e5 e6;obtain⟨aV,aW⟩:=(hM.ext0 Z).store m.toNat true;have bn:w5.grownBy (wG.setCell ⟨l.heap.size,m.toNat,none⟩ (.bool true)) (some l.heap.size):=grown_trans (grown_trans q (grown_of_ext _ Z)) aW;rw[<-HV.out.2.2.2.2.2.2] at aV;clear ae ao bj aU aW;go_wp2;go_roundw
   case rel=>exact⟨k+1,by go_num,by omega,bn,aV⟩
   case measure=>simp[intOf];omega
  ·have ap:k=(prodU P U U.length).toNat:=by omega
   obtain⟨wo,rfl⟩:∃wo:World,wo=wr:=⟨_,rfl⟩;rw[ap] at hM;have HK:=Lib.hid ap;clear ap;go_wp2;go_loopw [9,10] (λov tv wr=>∃(t:Nat) (v4:Value),v4=ov/\tv=.int .i64 t/\t<=N/\Ext wo wr/\RowsO wo.heap.size wr v4 (elemsTo P H t)) (λ_ tv _=>N-(intOf tv).toNat)
   case atStart=>exact⟨0,_,rfl,rfl,by omega,World.grownBy_alloc _ _ _,[],λ_ _=>False,by simp[elemsTo],World.ownsRow_lit wo #[] 0 (Nat.le_refl _) (by decide) rfl,by simp,by simp,by simp[elemsTo]⟩
   case round=>
    obtain⟨t,v4,rfl,rfl,ht,r,hO⟩:=hrel;by_cases aX:t<N
    ·have bG:(t:Int)<N:=by omega
     have aq:=r.cell (hM.cell t (by rw[markAt_len];exact aX)) (by simp);have A:=HN.out.2.1 t aX;have C:=elemsTo_succ P H t;have L:=elemsTo_len P H t;have T:=HB.out wr (grown_trans b r);obtain⟨n,hb1,hb2⟩:=T;cases hq:gt (markAt N f (prodU P U U.length).toNat) t with
     | true=>
      rw[hq] at aq;rw[if_pos (A.1 hq)] at C;have aY:=X.out;have aZ:=elAt_vec hP (t:Int) (by omega);have K:(elAt P (t:Int)).length=P.orders.length:=aZ.1;have M:=Lib.hid (And.intro C (And.intro K aY));clear C K A hq aZ aY;have O:N<=729:=by have:=M.out.2.2;omega
      go_wp2_with fail
      clear n hb1 hb2 aq;refine Calls.mono (l10At_ok P hP wr _ (t:Int) Any ⟨_,_,_,rfl,Pres3.ext fq (grown_trans b r)⟩ (by omega) (by omega)) ?_;rintro eA wA ⟨vA,rfl,eH,jm⟩;have a0:OwnIn (From wr.heap.size) wA vA (elAt P (t:Int)):=OwnIn.of jm (by rw[M.out.2.1];omega) (λj h1 _=>h1);obtain⟨ay,capy,gM,_,_⟩:=a0.ints.shape;subst gM;go_wp2_with (first|(at_builtin;refine wp_app_row rfl _ _ rfl wo.heap.size wr wA v4 _ (elemsTo P H t) (elAt P (t:Int)) rfl hO eH a0 rfl rfl (by omega) r.size ?_;intro v5 w6 bo bp b1;have a1:=hO.extw r (Nat.le_refl _) bp)|fail)
      go_roundw
      case rel=>exact⟨t+1,v5,rfl,by go_num,by omega,a1,by rw[M.out.1];exact bo⟩
      case measure=>simp[intOf];omega
     | false=>
      rw[hq] at aq;rw[if_neg (λh=>by have:=A.2 h;rw[hq] at this;cases this),List.append_nil] at C;have M:=Lib.hid C;clear C A hq;have O:N<=729:=by have:=X.out;omega
      go_wp2;go_roundw
      case rel=>exact⟨t+1,v4,rfl,by go_num,by omega,r,by rw[M.out];exact hO⟩
      case measure=>simp[intOf];omega
    ·have ar:t=N:=by omega
     have av:elemsTo P H t=elemsIn P H:=by rw[ar,HN.out.2.2];exact elemsTo_all P H
     have L:=elemsTo_len P H t;rw[av] at hO L;have O:N<=729:=by have:=X.out;omega
     obtain⟨az,capz,fM,_,_⟩:=SlD.shape (hO.toD (by omega));subst fM;have HX:=Lib.hid (And.intro ar av);clear ar av;go_wp2;go_ret;exact⟨_,rfl,grown_trans aC (grown_trans b r),hO.weak (by have:=b.size;have:=HS.out;omega)⟩
def gZ (n:Nat) (L:List (List Int)):List Bool:=(List.range n).map (λd=>L.any (λy=>dep y == d))
theorem oK (n:Nat) (L:List (List Int)):(gZ n L).length=n:=by unfold gZ;simp
theorem xl (n:Nat):gZ n []=List.replicate n false:=by
 refine List.ext_getElem (by simp[gZ]) (λi h1 a => ?_);simp[gZ]
theorem xm (n:Nat) (L:List (List Int)) (x:List Int):(gZ n L).set (dep x) true=gZ n (L++[x]):=by
 refine List.ext_getElem (by simp[gZ]) (λi h1 b => ?_);rw[List.getElem_set];unfold gZ;simp only[List.getElem_map,List.getElem_range,List.any_append,List.any_cons,List.any_nil,Bool.or_false];by_cases a:dep x=i
 ·simp[a]
 ·have:(dep x == i)=false:=by simpa using a
  rw[if_neg a,this,Bool.or_false]
theorem xq {n d:Nat}{L:List (List Int)}(a:d<n):gt (gZ n L) d=true↔∃y∈L,dep y=d:=by
 rw[gt_eq _ _ (by rw[oK];exact a)];simp[gZ]
theorem ShQ.xu {bad:Nat->Prop}{B:Nat}{w:World}{v:Value}{xs:List (List Int)}(h:ShQ bad B w v xs) (m:∀k,bad k->k<B):Rows2 (λk=>¬bad k) w v xs:=by
 obtain⟨n,e,p,q⟩:=h;rcases p with⟨rfl,rfl⟩|⟨g,off,cap,cur,rfl,hB,j,hnc,hcm,hsz,hc⟩
 ·have:xs=[]:=List.eq_nil_of_length_eq_zero (by simpa using e.symm)
  subst this;exact⟨none,0,rfl,⟨by simp,by simp,λ_=>rfl⟩,λi a=>by simp at a⟩
 ·have b:g<w.heap.size:=(Array.getElem?_eq_some_iff.1 j).1
  have l:cap<=9223372036854775807:=by unfold maxLen at hcm;omega
  refine⟨_,cap,by rw[e],⟨by omega,by omega,λh=>by cases h⟩,λi a=>⟨g,off,gt n i,rfl,λh=>by have:=m g h;omega,b,?_,Ints.sub (q i a) (λk hk _=>hk.1)⟩⟩;simp only[World.cell?,j,Option.isSome_none,Bool.false_eq_true,if_false];exact hc i (by omega)
def iR (L:List (List Int)) (d:Nat) (x:List Int) (e:Nat):Prop:=dep x=d/\gt x d=1/\∀e',d<e'->e'<e->(∃y∈L,dep y=e')->gt x e'=0
theorem xw (P:Pr) (L:List (List Int)) (d:Nat) (x:List Int):iR L d x P.orders.length↔Fits P L d x:=Iff.rfl
theorem xx {L:List (List Int)}{d:Nat}{x:List Int}{e:Nat}(g:d<e):iR L d x (e+1)↔iR L d x e/\((∃y∈L,dep y=e)->gt x e=0):=
 ⟨λ⟨h1,h2,h3⟩=>⟨⟨h1,h2,λe' a b=>h3 e' a (by omega)⟩,h3 e g (by omega)⟩,λ⟨⟨h1,h2,h3⟩,h4⟩=>⟨h1,h2,λe' a b=>by
  rcases Nat.lt_succ_iff_lt_or_eq.1 b with h|h
  ·exact h3 e' a h
  ·subst h;exact h4⟩⟩
open Classical in
noncomputable def gN (P:Pr) (L:List (List Int)) (d k:Nat):List (List Int):=(L.take k).filter (λx=>decide (Fits P L d x))
theorem xy {P:Pr}{L:List (List Int)}{d k:Nat}(hk:k<L.length) (h:Fits P L d (gt L k)):gN P L d (k+1)=gN P L d k++[gt L k]:=by
 unfold gN;rw[take_succ_gt L k hk,List.filter_append];simp[h]
theorem xz {P:Pr}{L:List (List Int)}{d k:Nat}(hk:k<L.length) (h:¬Fits P L d (gt L k)):gN P L d (k+1)=gN P L d k:=by
 unfold gN;rw[take_succ_gt L k hk,List.filter_append];simp[h]
theorem rC (P:Pr) (L:List (List Int)) (d:Nat):seqTo P L d++gN P L d L.length=seqTo P L (d+1):=by
 unfold gN;rw[List.take_length];rfl
open Classical in
theorem rD (P:Pr) (L:List (List Int)) (d k:Nat):(gN P L d k).length<=k:=by
 unfold gN;have:=List.length_filter_le (λx=>decide (Fits P L d x)) (L.take k);rw[List.length_take] at this;omega
theorem xA (P:Pr) (L:List (List Int)) (d:Nat):(seqTo P L d).length<=d*L.length:=by
 induction d with
 | zero=>simp[seqTo]
 | succ d a=>
  have:=rD P L d L.length;rw[<-rC,List.length_append,Nat.succ_mul];omega
theorem xB (P:Pr) (G:Grp P) (w:World) (pv:Value) (H:List Int->Prop) (Sp:Nat->Prop) (S:Sub P H) (bJ:ordP P<=32) (bK:PresV Sp w pv P) :
  Calls Tryz.prog 304 #[pv,.int .i64 ((msk P H:Nat):Int)] w (Ret w λw' v=>Rows2 (From w.heap.size) w' v (cseq P H)):=by
 have hP:=G.v;have aY:=hP.n6;have aZ:=hP.ordP_pos;obtain⟨n,hn⟩:∃n,n=P.orders.length:=⟨_,rfl⟩;rw[<-hn] at aY;have ad:=Lib.hid hn;obtain⟨vo,vp,vc,rfl,h3⟩:=bK;obtain⟨ao,g,a0,_,_⟩:=h3.o.shape;rw[<-hn] at a0;subst a0;clear hn;have a1:=PresP.box h3 28;have bL:Ext w (w.alloc (.cells #[.slice ao n g,vp,vc] 28)):=World.grownBy_alloc _ _ _;obtain⟨bM,fB,fu,_,_,T,I,J,fq⟩:=a1.at;simp only[Nat.zero_add] at I J;have aj:∀w',Ext (w.alloc (.cells #[.slice ao n g,vp,vc] 28)) w'->w'.cell? ⟨w.heap.size,0,none⟩=some bM/\w'.cell? ⟨w.heap.size,1,none⟩=some fB/\w'.cell? ⟨w.heap.size,2,none⟩=some fu:=λw' h=>⟨h.cell T (by simp),h.cell I (by simp),h.cell J (by simp)⟩;have a3:(w.alloc (.cells #[.slice ao n g,vp,vc] 28)).heap.size=w.heap.size+1:=by simp
 have HB:=Lib.hid (And.intro aj a3);clear aj a3 a1;obtain⟨N,hN⟩:∃N,N=(ordP P).toNat:=⟨_,rfl⟩;have a4:ordP P=(N:Int):=by omega
 have b3:N<=32:=by omega
 have aD:1<=N:=by omega
 have q:=G.seqTo_eq S;obtain⟨m,hm⟩:∃m,m=msk P H:=⟨_,rfl⟩;rw[<-hm,<-hN] at q;rw[<-hm];have HN:=Lib.hid (And.intro hN (And.intro a4 (And.intro hm q)));clear hN a4 hm q aZ bJ;go_enter Tryz.func304,Tryz.ntmps304;have a5:((w.alloc (.cells #[.slice ao n g,vp,vc] 28)).alloc (.cells #[] 24)).heap.size=w.heap.size+1+1:=by simp
 have a6:Ext (w.alloc (.cells #[.slice ao n g,vp,vc] 28)) ((w.alloc (.cells #[.slice ao n g,vp,vc] 28)).alloc (.cells #[] 24)):=World.grownBy_alloc _ _ _
 have a7:SlOA OwnIn 24 (w.heap.size+1) (λk=>k=w.heap.size+1+1) ((w.alloc (.cells #[.slice ao n g,vp,vc] 28)).alloc (.cells #[] 24)) (.slice (some ⟨w.heap.size+1,0,none⟩) 0 0) []:=by
  refine⟨[],λ_ _=>False,rfl,?_,by simp,by simp,by simp,by simp,λk hk=>by have:=own_blk hk;omega⟩;have:OwnV (w.alloc (.cells #[.slice ao n g,vp,vc] 28)).heap.size 24 ((w.alloc (.cells #[.slice ao n g,vp,vc] 28)).alloc (.cells #[] 24)) (.slice (some ⟨(w.alloc (.cells #[.slice ao n g,vp,vc] 28)).heap.size,0,none⟩) 0 0) []:=World.ownsRow_lit (w.alloc (.cells #[.slice ao n g,vp,vc] 28)) #[] 0 (Nat.le_refl _) (by decide) rfl;rw[HB.out.2] at this;exact this
 have aE:=Lib.hid (And.intro a5 (And.intro a6 a7));clear a5 a6 a7;go_wp2_with (first|(at_make;refine wp_make_bools rfl _ _ rfl (w.heap.size+1+1) n (w.heap.size+1+1) aE.out.1 (n:Int) rfl rfl rfl (by omega) (Nat.le_refl _) ?_;intro w3 aF a8 ar)|fail)
 clear T I J;generalize bO:w.alloc (.cells #[.slice ao n g,vp,vc] 28)=w0 at *;clear bO;have a9:=grown_trans aE.out.2.1 a8;have aG:=aE.out.2.2.ext rdOwn a8;have b9:w0.heap.size=w.heap.size+1:=HB.out.2;obtain⟨Q,aH⟩:∃Q,Q=w.heap.size+1+1:=⟨_,rfl⟩;rw[<-aH] at aF aG ar;rw[<-aH];have b4:w.heap.size+1<Q:=by omega
 clear aH;have aI:=Lib.hid (And.intro aG aF);clear aG aF;go_loopw [5,7] (λov tv wr=>∃(t:Nat) (v5:Value),v5=ov/\tv=.int .i64 t/\1<=t/\t<=N/\Ext w0 wr/\Q<wr.heap.size/\SlOA OwnIn 24 (w.heap.size+1) (λk=>k=Q) wr v5 (memL P m t)/\BOwn Q wr (.slice (some ⟨Q,0,none⟩) n n) (gZ n (memL P m t))) (λ_ tv _=>N-(intOf tv).toNat)
 case atStart=>exact⟨1,_,rfl,rfl,by omega,aD,a9,ar,aI.out.1,by rw[show memL P m 1=[] from rfl,xl];exact aI.out.2⟩
 case round =>
  clear aI;obtain⟨t,v5,rfl,rfl,ht1,ht,R,hdl,hL,hD⟩:=hrel;obtain⟨T,I,J⟩:=HB.out.1 wr R;have aJ:=l10Order_ok wr _ P Any hP ⟨_,_,_,rfl,Pres3.ext fq R⟩;rw[HN.out.2.1] at aJ;have bP:=memL_len P m t;go_wp2_with fail
  clear T I J;refine Calls.mono aJ ?_;rintro eo wo ⟨b',rfl,hgo,rfl⟩;clear aJ;have u:=grown_trans R hgo;have D:=hL.ext rdOwn hgo;have U:=hD.ext0 hgo;have ba:Q<wo.heap.size:=Nat.lt_of_lt_of_le hdl hgo.size;clear hL hD hdl;by_cases p:t<N
  ·have bc:(t:Int)<N:=by omega
   have l:=mQ m t;cases A:m.testBit t with
   | false=>
    rw[A] at l;have l:((m:Int)/2 ^ t).tmod 2=0:=l;have i:memL P m (t+1)=memL P m t:=by rw[memL,if_neg (by rw[A];simp)]
    have HS:=Lib.hid i;clear i A;go_wp2;clear l;go_roundw
    case rel=>exact⟨t+1,v5,rfl,by go_num,by omega,by omega,u,ba,by rw[HS.out];exact D,by rw[HS.out];exact U⟩
    case measure=>simp[intOf];omega
   | true=>
    rw[A] at l;have l:((m:Int)/2 ^ t).tmod 2=1:=l;have i:memL P m (t+1)=memL P m t++[elAt P (t:Int)]:=by rw[memL,if_pos ⟨by omega,A⟩]
    have be:t<(ordP P).toNat:=by have:=HN.out.1;omega
    have V:Vec P.orders (elAt P (t:Int)):=G.elAtV be
    have aK:dep (elAt P (t:Int))<n:=by
     have h1:=dep_le (elAt P (t:Int));rw[V.1] at h1;rcases Nat.lt_or_ge (dep (elAt P (t:Int))) P.orders.length with h2|h2
     ·rw[ad.out];exact h2
     ·have h4:=(dep_top hP V).1 (by omega)
      have h5:=G.num_el be;rw[h4,num_zeros hP] at h5;omega
    have y:=xm n (memL P m t) (elAt P (t:Int));obtain⟨x,hx⟩:∃x,x=elAt P (t:Int):=⟨_,rfl⟩;have K:x.length<=6:=by rw[hx,V.1,<-ad.out];exact aY
    rw[<-hx] at i V aK y;obtain⟨d,hd⟩:∃d,d=dep x:=⟨_,rfl⟩;rw[<-hd] at aK y;rw[<-i] at y;have HS:=Lib.hid (And.intro i (And.intro V (And.intro y (And.intro hx (And.intro hd K)))));clear i A y V hx hd K;obtain⟨T,I,J⟩:=HB.out.1 wo u;go_wp2_with fail
    clear l T I J;refine Calls.mono (l10At_ok P hP wo _ (t:Int) Any ⟨_,_,_,rfl,Pres3.ext fq u⟩ (by omega) (by omega)) ?_;rintro eX wX ⟨xv,rfl,ae,aL⟩;rw[<-HS.out.2.2.2.1] at aL;have ak:OwnIn (From wo.heap.size) wX xv x:=OwnIn.of aL (by have:=HS.out.2.2.2.2.2;omega) (λk h1 _=>h1);obtain⟨xa,xc,xC,_,_⟩:=ak.ints.shape;subst xC;have bf:(memL P m t).length<=1000000:=by omega
    go_wp2_with (first|(at_builtin;refine wp_app_rowA rfl _ _ rfl (w.heap.size+1) (λk=>k=Q) wo wX v5 _ (memL P m t) x rfl D (λk hk=>by omega) none ae (λk hk=>by cases hk) ak rfl rfl bf (by have:=u.size;omega) ?_;intro v8 w8 bh E)|fail)
    have aM:=D.avoids;have bi:Ext w0 w8:=grown_own (grown_trans u ae) E (λb A p=>by have:=(aM b A).2.1;omega)
    have bj:BOwn Q w8 (.slice (some ⟨Q,0,none⟩) n n) (gZ n (memL P m t)):=by
     have h1:=U.ext0 ae;cases hv:v5.ownBlock with
     | none=>rw[hv] at E;exact h1.ext0 E
     | some r=>rw[hv] at E;exact h1.keep E (λe=>(aM r hv).1 e.symm)
    have bk:Ints Any w8 (.slice xa x.length xc) x:=Ints.mono ak.ints (frame_of E (λk hk _=>⟨trivial,λe=>by
     have h1:wo.heap.size<=k:=hk;have:=(aM k e).2.2;omega⟩))
    have cg:Q<w8.heap.size:=Nat.lt_of_lt_of_le ba (Nat.le_trans ae.size E.size);clear D U E ae ak aL;refine Calls.mono (l12Depth_ok _ x w8 Any bk) ?_;rintro eD wD ⟨dv,rfl,M,bm⟩;rw[<-HS.out.2.2.2.2.1] at bm;subst bm;have W:=bj.ext0 M;have bn:=bh.ext rdOwn M;have bo:=W.cell d (by rw[oK];exact aK);have bS:=W.frozen d;have b6:(d:Int)<n:=by omega
    obtain⟨aN,am⟩:=W.store d true;have aO:=bn.kept rdOwn am rfl;have ax:=grown_own (grown_trans bi M) am (λb A p=>by cases A;omega);rw[HS.out.2.2.1] at aN;rw[<-HS.out.1] at aO;have bp:Q<(wD.setCell ⟨Q,d,none⟩ (.bool true)).heap.size:=by have:=am.size;have:=M.size;omega
    have HF:=Lib.hid (And.intro aN (And.intro aO (And.intro ax bp)));clear aN aO ax bp am bn W bh bj bk;go_wp2;clear bo bS;go_roundw
    case rel=>exact⟨t+1,v8,rfl,by go_num,by omega,by omega,HF.out.2.2.1,HF.out.2.2.2,HF.out.2.1,HF.out.1⟩
    case measure=>simp[intOf];omega
  ·have bq : t=N:=by omega
   rw[bq] at D U;have br:=memL_len P m N;obtain⟨L,an⟩:∃L,L=memL P m N:=⟨_,rfl⟩;rw[<-an] at D U br
   have bs:∀x∈L,x.length=n:=λx hx=>by
    rw[an] at hx;obtain⟨t',h1,_,_,rfl⟩:=memL_mem.1 hx;rw[(G.elAtV (by have:=HN.out.1;omega)).1,ad.out]
   have q:=HN.out.2.2.2;rw[<-an,<-ad.out] at q
   have af:∀d k,d<=n->k<=L.length->(seqTo P L d++gN P L d k).length<=1000000:=λd k hd hk=>by
    have h1:=xA P L d;have h2:=rD P L d k;have h3:d*L.length<=6*32:=Nat.mul_le_mul (by omega) (by omega);rw[List.length_append];omega
   have ap:=RowsD.rows (D.o.toD (by omega));obtain⟨al,bt,hvl,_,_⟩:=Sl.shape ap;subst hvl;have HL:=Lib.hid (And.intro bs (And.intro q af));clear bs q af an bP D;have bU:¬(t:Int)<N:=by omega
   have ap:Rows2 (From (w.heap.size+1)) wo (.slice al L.length bt) L:=ap;go_wp2;clear bU bq p ht ht1 R hgo;obtain⟨wL,rfl⟩:∃wL:World,wL=wo:=⟨_,rfl⟩;go_loopw [9,10] (λov dv wr=>∃(d:Nat) (X:Value),X=ov/\dv=.int .i64 d/\d<=n/\Ext wL wr/\ShQ (λk=>k<w.heap.size) wL.heap.size wr X (seqTo P L d)) (λ_ dv _=>n-(intOf dv).toNat)
   case atStart=>exact⟨0,_,rfl,rfl,by omega,World.grownBy_alloc _ _ _,ShQ.lit _ _ _ (Nat.le_refl _)⟩
   case round =>
    obtain⟨d,X,rfl,rfl,hd,R,hQ⟩:=hrel;by_cases b7:d<n
    ·have bV:(d:Int)<n:=by omega
     go_wp2;go_loopw [9,11] (λov kv wr=>∃(k:Nat) (X:Value),X=ov/\kv=.int .i64 k/\k<=L.length/\Ext wL wr/\ShQ (λk=>k<w.heap.size) wL.heap.size wr X (seqTo P L d++gN P L d k)) (λ_ kv _=>L.length-(intOf kv).toNat)
     case atStart=>exact⟨0,X,rfl,rfl,by omega,R,by rw[show gN P L d 0=[] by simp[gN],List.append_nil];exact hQ⟩
     case round=>
      clear R hQ;obtain⟨k,X,rfl,rfl,hk,R,hQ⟩:=hrel;by_cases p:k<L.length
      ·have bc:(k:Int)<L.length:=by omega
       obtain⟨bb,off,a2,aA,oM,_,_,hc,hr⟩:=Rows2.at ap k p;subst oM;have aP:=R.cell hc (by simp);have K:=HL.out.1 _ (gtMem p);have ag:=xy (P:=P) (d:=d) p;have aQ:=xz (P:=P) (d:=d) p;have af:=HL.out.2.2 d k hd hk;obtain⟨x,hx⟩:∃x,x=gt L k:=⟨_,rfl⟩;rw[<-hx] at hc aP hr K ag aQ;rw[K] at hc aP;have aR:Ints (From (w.heap.size+1)) wL (.slice a2 n aA) x:=by rw[<-K];exact hr
       have HX:=Lib.hid (And.intro K (And.intro ag (And.intro aQ (And.intro af hx))));clear ag aQ af hr hx hc;go_wp2_with fail
       clear aP;refine Calls.mono (l12Depth_ok _ x wr _ (Ints.ext aR R)) ?_;rintro eD wD ⟨dv,rfl,M,rfl⟩;have z:=grown_trans R M;have bu:=Ints.ext aR z;have aq:=hQ.ext M;obtain⟨bd,od,hbd,_,_,hcd⟩:=Ints.at bu d (by omega);subst hbd;have W:=U.ext0 z;have bY:(dep x=d/\gt x d=1)\/(dep x=d/\¬gt x d=1)\/¬dep x=d:=by omega
       clear hQ R;rcases bY with⟨h1,h2⟩|⟨h1,h2⟩|h1;have Y:Hid ((true=true)↔iR L d x (d+1)):=Lib.hid ⟨λ_=>⟨h1,h2,λe' a b=>by omega⟩,λ_=>rfl⟩;have aS:((dep x:Nat):Int)=(d:Int):=by omega
       clear h1;go_wp2;rotate_left;have Y:Hid ((false=true)↔iR L d x (d+1)):=Lib.hid ⟨λh=>(by cases h),λh=>absurd h.2.1 h2⟩;have h2:(gt x d == 1)=false:=by simpa using h2
       have aS:((dep x:Nat):Int)=(d:Int):=by omega
       clear h1;go_wp2;rotate_left;have Y:Hid ((false=true)↔iR L d x (d+1)):=Lib.hid ⟨λh=>(by cases h),λh=>absurd h.1 h1⟩;have aS:¬((dep x:Nat):Int)=(d:Int):=by omega
       have h2:True:=trivial;clear h1;go_wp2;rotate_left
       all_goals
        clear hcd;go_loopw [13,14] (λfv ev wr=>∃(f:Bool) (e:Nat),fv=.bool f/\ev=.int .i64 e/\d+1<=e/\e<=n/\wr=wD/\Hid (f=true↔iR L d x e)) (λ_ ev _=>n-(intOf ev).toNat)
        case atStart=>exact⟨_,d+1,rfl,rfl,by omega,by omega,rfl,by first|exact Y|exact Lib.hid (by have h3:=Y.out;simpa using h3)|exact Lib.hid (by have h3:=Y.out;rw[h2];exact h3)⟩
        case round=>
         clear Y aS h2;obtain⟨f,e,rfl,rfl,he1,he2,hw,hF⟩:=hrel;subst hw;by_cases aB:e<n
         ·have bZ:(e:Int)<n:=by omega
          have Z:=W.cell e (by rw[oK];exact aB);obtain⟨bx,ox,aj,_,_,ah⟩:=Ints.at bu e (by omega);cases aj
          have aa:=xq (L:=L) aB;have B:=xx (L:=L) (x:=x) (show d<e by omega);cases f with
          | false=>
           have O:Hid ((false=true)↔iR L d x (e+1)):=Lib.hid ⟨λh=>(by cases h),λh=>hF.out.2 (B.1 h).1⟩;clear aa B hF Z ah;go_wp2;go_roundw
           case rel=>exact⟨false,e+1,rfl,by go_num,by omega,by omega,by first|rfl|trivial,O⟩
           case measure=>simp[intOf];omega
          | true=>
           cases A:gt (gZ n L) e with
           | false=>
            rw[A] at Z;have O:Hid ((true=true)↔iR L d x (e+1)):=Lib.hid ⟨λ_=>B.2 ⟨hF.out.1 rfl,λh=>by rw[aa.2 h] at A;cases A⟩,λ_=>rfl⟩;clear aa B hF A ah;go_wp2;clear Z;go_roundw
            case rel=>exact⟨true,e+1,rfl,by go_num,by omega,by omega,by first|rfl|trivial,O⟩
            case measure=>simp[intOf];omega
           | true=>
            rw[A] at Z;have aT:=aa.1 A;obtain⟨q2,aU⟩:∃q2,q2=gt x e:=⟨_,rfl⟩;rw[<-aU] at ah B;by_cases hz:q2=0
            ·have O:Hid ((true=true)↔iR L d x (e+1)):=Lib.hid ⟨λ_=>B.2 ⟨hF.out.1 rfl,λ_=>hz⟩,λ_=>rfl⟩
             clear aa B hF A aU aT;subst hz;go_wp2;clear Z ah;go_roundw
             case rel=>exact⟨true,e+1,rfl,by go_num,by omega,by omega,by first|rfl|trivial,O⟩
             case measure=>simp[intOf];omega
            ·have O:Hid ((false=true)↔iR L d x (e+1)):=Lib.hid ⟨λh=>(by cases h),λh=>absurd ((B.1 h).2 aT) hz⟩
             clear aa B hF A aU aT;have cm:(q2 == 0)=false:=by simpa using hz
             go_wp2;clear Z ah;go_roundw
             case rel=>exact⟨false,e+1,rfl,by go_num,by omega,by omega,by first|rfl|trivial,O⟩
             case measure=>simp[intOf];omega
         ·have aV:e=n:=by omega
          have F:=hF.out;rw[aV,ad.out,xw] at F;have bv:¬(e:Int)<n:=by omega
          cases f with
          | true=>
           have i:=HX.out.2.1 (F.1 rfl);have aW:=Lib.hid i;clear i F hF aV;have b0:Ints (λk=>¬k<w.heap.size/\X.ownBlock≠some k) wr (.slice (some ⟨bd,od,none⟩) n aA) x:=Ints.mono aR (λk hk p=>⟨⟨by have:w.heap.size+1<=k:=hk;omega,λe=>by have:=(aq.lt k e).1;omega⟩,Nat.lt_of_lt_of_le p z.size,z.block k p (by simp)⟩);go_wp2_with (first|(at_builtin;refine wp_shq_app rfl _ _ rfl (λk=>k<w.heap.size) wL.heap.size X _ (seqTo P L d++gN P L d k) x rfl wr aq rfl b0 rfl HX.out.2.2.2.1 z.size ?_;intro v5 w5 b1 b2 cn;have bw:=grown_own z b2 (λj hj p=>by have:=(aq.lt j hj).1;omega))|fail)
           go_roundw
           case rel=>exact⟨k+1,v5,rfl,by go_num,by omega,bw,by rw[aW.out,<-List.append_assoc];exact b1⟩
           case measure=>simp[intOf];omega
          | false=>
           have i:=HX.out.2.2.1 (λh=>(by have:=F.2 h;cases this));have aW:=Lib.hid i;clear i F hF aV;go_wp2;go_roundw
           case rel=>exact⟨k+1,X,rfl,by go_num,by omega,z,by rw[aW.out];exact aq⟩
           case measure=>simp[intOf];omega
      ·have bz:k=L.length:=by omega
       rw[bz,rC] at hQ;have bv:¬(k:Int)<L.length:=by omega
       clear bz;go_wp2;go_roundw
       case rel=>exact⟨d+1,X,rfl,by go_num,by omega,R,hQ⟩
       case measure=>simp[intOf];omega
    ·have bA:d=n:=by omega
     rw[bA,HL.out.2.1] at hQ;have ai:=hQ.xu (λk hk=>by have:=u.size;omega)
     have C:Rows2 (From w.heap.size) wr X (cseq P H):=Rows2.sub ai (λk hk _=>by
      have h:¬k<w.heap.size:=hk;show w.heap.size<=k;omega)
     obtain⟨az,capz,fM,_,_⟩:=Sl.shape C;subst fM;have bv:¬(d:Int)<n:=by omega
     have HR:=Lib.hid C;clear ai C bA hQ;go_wp2;go_ret;exact⟨_,rfl,grown_trans bL (grown_trans u R),HR.out⟩
end Go.Proofs.YtdcobapnlpeaaaaGreat
namespace Go.Proofs.YtdcobapnlpeaaaaGreat
open Go.RowKit
attribute [local go_sem ↓] Go.wp_at_zero Go.wp_at_succ
theorem Pres3.xD {B:Nat}{r:Option Nat}{w w':World}{vo vp vc:Value}{P:Pr}(h:Pres3 (From B) w vo vp vc P) (a:w.grownBy w' r) (b:∀k,r=some k->k<B):Pres3 (From B) w' vo vp vc P:=
 h.mono (frame_of a (λk hk _=>⟨hk,λe=>by have:=b k e;have hk:B<=k:=hk;omega⟩))
theorem Pres3.low {B B':Nat}{w:World}{vo vp vc:Value}{P:Pr}(h:Pres3 (From B) w vo vp vc P) (hB:B'<=B):Pres3 (From B') w vo vp vc P:=
 h.mono (λ_ hk a=>⟨Nat.le_trans hB hk,a,rfl⟩)
theorem xE (w:World) (cv:Value) (l:List Int) (S:Nat->Prop) (y:Bytes S w cv l) :
  Calls Tryz.prog 96 #[cv] w (Ret w λw' v=>v=.pointer (some ⟨w.heap.size,0,none⟩)/\Src (w.heap.size+1) w' w.heap.size):=by
 obtain⟨a,cap,rfl,_,hlen⟩:=Sl.shape y;have z:=Box3.made w 172 (.slice a l.length cap) (.int .i64 0) (.int .i64 76001);have A:Ext w (w.alloc (.cells #[.slice a l.length cap,.int .i64 0,.int .i64 76001] 172)):=World.grownBy_alloc _ _ _;go_enter Tryz.func96,Tryz.ntmps96;go_wp2_with fail
 generalize w.alloc (.cells #[.slice a l.length cap,.int .i64 0,.int .i64 76001] 172)=w0 at *;go_loopw [4] (λH wr=>∃(i e:Nat),H=.int .i64 i/\i<=l.length/\e<2147483647/\Ext w wr/\Box3 wr w.heap.size (.slice a l.length cap) (.int .i64 0) (.int .i64 e)) (λH _=>l.length-(intOf H).toNat)
 case atStart=>exact⟨0,76001,rfl,by omega,by omega,A,z⟩
 case round=>
  clear z A;obtain⟨i,e,rfl,hi,hs,p,hB⟩:=hrel;by_cases g:i<l.length
  ·by_cases N:i<64
   ·obtain ⟨b,off,rfl,rE,hbl,q,I,J⟩:=Bytes.at y i g
    have r:=p.cell q (by simp);generalize gt l i=x at q r I J;have B:(i:Int)<(l.length:Nat):=by omega
    have K:(i:Int)<64:=by omega
    obtain⟨n,u⟩:∃n:Nat,((e:Int)*71+x)%2147483647=(n:Int)/\n<2147483647:=⟨(((e:Int)*71+x)%2147483647).toNat,by omega,by omega⟩;have C:=(hB.put (.int .i64 (n:Nat))).2.2;have D:=grown_set wr w.heap.size 2 (.int .i64 (n:Nat));have E:Ext w (wr.setCell ⟨w.heap.size,2,none⟩ (.int .i64 (n:Nat))):=grown_own p D (λj O g=>by have:=Option.some.inj O;omega);have F:=C.ext (grown_drew (wr.setCell ⟨w.heap.size,2,none⟩ (.int .i64 (n:Nat))) none);have G:=grown_trans E (grown_drew (wr.setCell ⟨w.heap.size,2,none⟩ (.int .i64 (n:Nat))) none);have P:IntKind.i64.wrap ((e:Int)*71)=(e:Int)*71:=IntWalk.i64_in _ (by omega);have Q:IntKind.i64.wrap ((e:Int)*71+x)=(e:Int)*71+x:=IntWalk.i64_in _ (by omega);have R:IntKind.i64.wrap x=x:=IntWalk.i64_in _ (by omega);have L:((e:Int)*71+x).tmod 2147483647=(n:Int):=by rw[Int.tmod_eq_emod_of_nonneg (by omega)];exact u.1
    obtain⟨M,h1,h2,h3,h4⟩:=id hB;have c0:wr.drew.cell? ⟨w.heap.size,2,none⟩=some (.int .i64 e):=h3;have c1:wr.drew.cell? ⟨b,off+i,none⟩=some (.int .u8 x):=r;have c2:w.heap.size<wr.drew.heap.size:=M;have c3:=h4;have m:=Lib.hid (And.intro G (And.intro F (And.intro u.2 y)));clear G F u y E D C hB p M h1 h2 h3 q r;go_wp2;go_still_tail 15,(by kernel_rfl)
    change wpList _ _ _ _ _ wr.drew;go_wp2;go_roundw
    case rel=>exact⟨i+1,n,by go_num,by omega,m.out.2.2.1,m.out.1,m.out.2.1⟩
    case measure=>simp[intOf];omega
   ·have B:(i:Int)<(l.length:Nat):=by omega
    have K:¬(i:Int)<64:=by omega
    have m:=Lib.hid (And.intro p hB);clear p hB;go_wp2;go_ret;exact⟨_,rfl,m.out.1,rfl,_,0,e,l,m.out.2,Bytes.mono y (λk _ g=>⟨⟨by omega,by omega⟩,Nat.lt_of_lt_of_le g m.out.1.size,m.out.1.block k g (by simp)⟩),by omega,hs,by omega⟩
  ·have B:¬(i:Int)<(l.length:Nat):=by omega
   have m:=Lib.hid (And.intro p hB);clear p hB;go_wp2;go_ret;exact⟨_,rfl,m.out.1,rfl,_,0,e,l,m.out.2,Bytes.mono y (λk _ g=>⟨⟨by omega,by omega⟩,Nat.lt_of_lt_of_le g m.out.1.size,m.out.1.block k g (by simp)⟩),by omega,hs,by omega⟩
theorem xF (w:World) (cv:Value) (b:List Int) (S:Nat->Prop) (g:Bytes S w cv b) :
  Calls Tryz.prog 15 #[cv] w λe w'=>e=.returned (.bool (decide (4096<b.length)))/\w=w':=by
 obtain⟨a,cap,rfl,_,hlen⟩:=Sl.shape g;go_enter Tryz.func15,Tryz.ntmps15;by_cases h:4096<b.length
 ·have i:(4096:Int)<(b.length:Nat):=by omega
  go_wp2;go_ret;exact⟨ret_b (by simp[h]),rfl⟩
 ·have i:¬(4096:Int)<(b.length:Nat):=by omega
  go_wp2;go_ret;exact⟨ret_b (by simp),rfl⟩
theorem xG (I:Nat) (w:World) (sb:Nat) (J:I<=w.heap.size) (Q:Src I w sb) :
  Calls Tryz.prog 183 #[.pointer (some ⟨sb,0,none⟩)] w (Mut w (some sb) (iX I sb (lF 7 (λ_=>True) w.heap.size))):=by
 have ab:=Q.lt;have O:=Box3.made w 28 (.slice none 0 0) (.slice none 0 0) (.slice none 0 0);have K:Ext w (w.alloc (.cells #[.slice none 0 0,.slice none 0 0,.slice none 0 0] 28)):=World.grownBy_alloc _ _ _;have S:(w.alloc (.cells #[.slice none 0 0,.slice none 0 0,.slice none 0 0] 28)).heap.size=w.heap.size+1:=by simp
 have P:=Lib.hid (Q.ext K);clear Q;go_enter Tryz.func183,Tryz.ntmps183;go_wp2_with fail
 generalize w.alloc (.cells #[.slice none 0 0,.slice none 0 0,.slice none 0 0] 28)=w0 at *;have U:w.heap.size+1<=w0.heap.size:=by omega
 clear S;refine Calls.mono (l01Next_ok I w0 sb 16 P.out) ?_;rintro e3 N ⟨v3,rfl,u,x,rfl,_,q,hs3⟩;have L:=O.moved u (by omega);have r:=grown_trans (grown_of_ext (some sb) K) u;have V:=u.size;have T:=Lib.hid hs3;clear hs3 u O K P q;by_cases M:x=0
 ·subst M
  go_wp2_with fail
  refine Calls.mono (oI I N sb 96 (by omega) T.out) ?_;rintro W X ⟨v4,rfl,hg4,⟨uo,up,uc,R,rfl,i,j,lK⟩,l⟩;obtain⟨y,z,A,hy1⟩:∃a n c,uo=.slice a n c:=by obtain⟨a,c,e,_⟩:=j.o.shape;exact⟨_,_,_,e⟩
  obtain⟨B,C,D,hy2⟩:∃a n c,up=.slice a n c:=by obtain⟨a,c,e,_⟩:=Sl.shape j.p;exact⟨_,_,_,e⟩
  obtain⟨E,F,G,fZ⟩:∃a n c,uc=.slice a n c:=by obtain⟨a,c,e,_⟩:=Sl.shape j.c;exact⟨_,_,_,e⟩
  subst hy1 hy2 fZ;have g:=L.moved hg4 (by omega);have b:=grown_trans r hg4;obtain⟨Y,b1,b2,b3,b4⟩:=id g;have H:=g.all (.slice y z A) (.slice B C D) (.slice E F G);obtain⟨-,z0,z1,z2,-⟩:=id H;have m:=Lib.hid (And.intro b (And.intro l (And.intro j i)));clear H b l j i g hg4 lK;go_wp2_with fail
  refine bodyPost_ret (v := .agg #[.slice y z A,.slice B C D,.slice E F G]) (by simp[results,Tryz.results183,go_sem,z0,z1,z2]) rfl ?_;exact iZ m.out.1 (br:=w.heap.size) (Nat.le_refl _) (λk hk _=>by have hk:N.heap.size<=k:=hk;exact⟨by omega,by omega⟩) m.out.2.1 J m.out.2.2.2 m.out.2.2.1 trivial
 have Z:(x == 0)=false:=by simp[M]
 by_cases q:x=1
 ·subst q
  go_wp2_with fail
  refine Calls.mono (oI I N sb 32 (by omega) T.out) ?_;rintro W X ⟨v4,rfl,hg4,⟨uo,up,uc,R,rfl,i,j,lK⟩,l⟩;obtain⟨y,z,A,hy1⟩:∃a n c,uo=.slice a n c:=by obtain⟨a,c,e,_⟩:=j.o.shape;exact⟨_,_,_,e⟩
  obtain⟨B,C,D,hy2⟩:∃a n c,up=.slice a n c:=by obtain⟨a,c,e,_⟩:=Sl.shape j.p;exact⟨_,_,_,e⟩
  obtain⟨E,F,G,fZ⟩:∃a n c,uc=.slice a n c:=by obtain⟨a,c,e,_⟩:=Sl.shape j.c;exact⟨_,_,_,e⟩
  subst hy1 hy2 fZ;have g:=L.moved hg4 (by omega);have b:=grown_trans r hg4;obtain⟨Y,b1,b2,b3,b4⟩:=id g;have H:=g.all (.slice y z A) (.slice B C D) (.slice E F G);obtain⟨-,z0,z1,z2,-⟩:=id H;have m:=Lib.hid (And.intro b (And.intro l (And.intro j i)));clear H b l j i g hg4 lK;go_wp2_with fail
  refine bodyPost_ret (v := .agg #[.slice y z A,.slice B C D,.slice E F G]) (by simp[results,Tryz.results183,go_sem,z0,z1,z2]) rfl ?_;exact iZ m.out.1 (br:=w.heap.size) (Nat.le_refl _) (λk hk _=>by have hk:N.heap.size<=k:=hk;exact⟨by omega,by omega⟩) m.out.2.1 J m.out.2.2.2 m.out.2.2.1 trivial
 have aa:(x == 1)=false:=by simp[q]
 clear M q;go_wp2_with fail
 refine Calls.mono (oI I N sb 24 (by omega) T.out) ?_;rintro W X ⟨v4,rfl,hg4,⟨uo,up,uc,R,rfl,i,j,lK⟩,l⟩;obtain⟨y,z,A,hy1⟩:∃a n c,uo=.slice a n c:=by obtain⟨a,c,e,_⟩:=j.o.shape;exact⟨_,_,_,e⟩
 obtain⟨B,C,D,hy2⟩:∃a n c,up=.slice a n c:=by obtain⟨a,c,e,_⟩:=Sl.shape j.p;exact⟨_,_,_,e⟩
 obtain⟨E,F,G,fZ⟩:∃a n c,uc=.slice a n c:=by obtain⟨a,c,e,_⟩:=Sl.shape j.c;exact⟨_,_,_,e⟩
 subst hy1 hy2 fZ;have g:=L.moved hg4 (by omega);have b:=grown_trans r hg4;obtain⟨Y,b1,b2,b3,b4⟩:=id g;have H:=g.all (.slice y z A) (.slice B C D) (.slice E F G);obtain⟨-,z0,z1,z2,-⟩:=id H;have m:=Lib.hid (And.intro b (And.intro l (And.intro j i)));clear H b l j i g hg4 lK;go_wp2_with fail
 refine bodyPost_ret (v := .agg #[.slice y z A,.slice B C D,.slice E F G]) (by simp[results,Tryz.results183,go_sem,z0,z1,z2]) rfl ?_;exact iZ m.out.1 (br:=w.heap.size) (Nat.le_refl _) (λk hk _=>by have hk:N.heap.size<=k:=hk;exact⟨by omega,by omega⟩) m.out.2.1 J m.out.2.2.2 m.out.2.2.1 trivial
theorem xH (w:World) (cv:Value) (N:List Int) (S:Nat->Prop) (O:Bytes S w cv N) :
  Calls Tryz.prog 85 #[cv] w (Ret w (q7 7 w.heap.size)):=by
 obtain⟨a,cap,rfl,_,_⟩:=Sl.shape O;have y:=Box3.made w 28 (.slice none 0 0) (.slice none 0 0) (.slice none 0 0);have m:Ext w (w.alloc (.cells #[.slice none 0 0,.slice none 0 0,.slice none 0 0] 28)):=World.grownBy_alloc _ _ _;have H:(w.alloc (.cells #[.slice none 0 0,.slice none 0 0,.slice none 0 0] 28)).heap.size=w.heap.size+1:=by simp
 have z:=Bytes.ext O m;go_enter Tryz.func85,Tryz.ntmps85;go_wp2_with fail
 generalize w.alloc (.cells #[.slice none 0 0,.slice none 0 0,.slice none 0 0] 28)=w0 at *;have A:w.heap.size+1<=w0.heap.size:=by omega
 clear H;refine Calls.mono (xE w0 _ N S z) ?_;rintro W wS ⟨v0,rfl,ia,rfl,b⟩;have I:w0.heap.size+1<=wS.heap.size:=by have:=b.lt;omega
 have B:=y.ext ia;obtain⟨sb,q⟩:∃sb,sb=w0.heap.size:=⟨_,rfl⟩;rw[<-q] at b;have P:w.heap.size+1<=sb/\sb+1<=wS.heap.size:=by omega
 have i:=grown_trans m ia;have r:=Lib.hid q;clear y z m ia I A;go_wp2_with fail
 rw[<-r.out];refine Calls.mono (xG (sb+1) wS sb (by omega) (by rw[r.out];rw[r.out] at b;exact b)) ?_;rintro X R ⟨v1,rfl,g,⟨vo,vp,vc,Q,rfl,xI,C,-⟩,hs1⟩;clear q;obtain⟨a1,D,c1,hy1⟩:∃a n c,vo=.slice a n c:=by obtain⟨a,c,e,_⟩:=C.o.shape;exact⟨_,_,_,e⟩
 obtain⟨a2,E,c2,hy2⟩:∃a n c,vp=.slice a n c:=by obtain⟨a,c,e,_⟩:=Sl.shape C.p;exact⟨_,_,_,e⟩
 obtain⟨F,G,c3,fZ⟩:∃a n c,vc=.slice a n c:=by obtain⟨a,c,e,_⟩:=Sl.shape C.c;exact⟨_,_,_,e⟩
 subst hy1 hy2 fZ;have T:=g.size;have u:=B.moved g (by omega);obtain⟨Y,b1,b2,b3,b4⟩:=id u;have U:=u.all (.slice a1 D c1) (.slice a2 E c2) (.slice F G c3);obtain⟨-,z0,z1,z2,-⟩:=id U;have J:=grown_set3 R w.heap.size (.slice a1 D c1) (.slice a2 E c2) (.slice F G c3);have K:∀k,some w.heap.size=some k->k<wS.heap.size:=λk hk=>by have:=Option.some.inj hk;omega
 have l:Ret w (q7 7 w.heap.size) (.returned (.agg #[.slice a1 D c1,.slice a2 E c2,.slice F G c3])) (((R.setCell ⟨w.heap.size,0,none⟩ (.slice a1 D c1)).setCell ⟨w.heap.size,1,none⟩ (.slice a2 E c2)).setCell ⟨w.heap.size,2,none⟩ (.slice F G c3)):=
  ⟨_,rfl,grown_own (grown_own i g (λj L M=>by have:=Option.some.inj L;omega)) J (λj L M=>by have:=Option.some.inj L;omega),_,_,_,Q,rfl,xI,(C.xD J K).low (by omega)⟩
 have V:=Lib.hid l;clear l J U C g hs1 u B i b;go_wp2_with fail
 refine bodyPost_ret (v := .agg #[.slice a1 D c1,.slice a2 E c2,.slice F G c3]) (by simp[results,Tryz.results85,go_sem,z0,z1,z2]) rfl ?_;exact V.out
end Go.Proofs.YtdcobapnlpeaaaaGreat
namespace Go.Proofs.YtdcobapnlpeaaaaGreat
open Go.RowKit
def conjL (P:Pr) (L:List (List Int)) (X:List Int):List (List Int):=L.map (λy=>rConj P y X)
theorem conjugates_ok (P:Pr) (G:Grp P) (w:World) (p lv I:Value) (L:List (List Int)) (X:List Int) (J K M:Nat->Prop) (N:PresP J w p P) (O:Rows2 K w lv L) (Q:∀y∈L,Vec P.orders y) (R:L.length<=10000) (hx:Ints M w I X) (S:Vec P.orders X) :
  Calls Tryz.prog 230 #[p,lv,I] w (Ret w λw' v=>RowsO w.heap.size w' v (conjL P L X)):=by
 have hP:=G.v;have V:=hP.n6;obtain⟨pb,po,rfl⟩:=N.shape;obtain⟨al,capl,rfl,_,_⟩:=Sl.shape O;obtain⟨ax,capx,rfl,_,_⟩:=hx.shape;have z:=Lib.hid (And.intro Q S);clear Q S;have l:(conjL P L X).length=L.length:=by unfold conjL;rw[List.length_map]
 have e:=Lib.hid l;clear l;go_enter Tryz.func230,Tryz.ntmps230;go_wp2;go_loopw [7,12] (λW B wr=>∃(k:Nat) (v4:Value),v4=W/\B=.int .i64 k/\k<=L.length/\Ext w wr/\RowsO w.heap.size wr v4 ((conjL P L X).take k)) (λ_ B _=>L.length-(intOf B).toNat)
 case atStart=>exact⟨0,_,rfl,rfl,by omega,Ext.refl _,SlO.nil _ _ _ _⟩
 case round=>
  obtain⟨k,v4,rfl,rfl,hk,i,hO⟩:=hrel;by_cases g:k<L.length
  ·have T:(k:Int)<L.length:=by omega
   obtain⟨b,off,a2,cap2,rfl,_,_,hc,Y⟩:=Rows2.at (Rows2.ext O i) k g;have m:=z.out.1 _ (gtMem g)
   have a:(conjL P L X).take (k+1)=(conjL P L X).take k++[rConj P (gt L k) X]:=by
    rw[take_succ_gt _ k (by rw[e.out];exact g)];unfold conjL;rw[gt_map _ _ _ g]
   have C:((conjL P L X).take k).length<=1000000:=by rw[List.length_take];have:=e.out;omega
   have A:=Lib.hid (And.intro a m);clear a m;go_wp2_with fail
   refine Calls.mono (conjugate_ok P hP wr _ _ _ (gt L k) X J K M (N.ext i) Y (hx.ext i) A.out.2 z.out.2) ?_;rintro eC U ⟨Z,rfl,D,n⟩;rw[G.iConj_eq A.out.2 z.out.2] at n;have q:=G.conjV A.out.2 z.out.2;have r:OwnIn (From wr.heap.size) U Z (rConj P (gt L k) X):=OwnIn.of n (by rw[q.1];omega) (λj h1 _=>h1);obtain⟨ay,capy,gM,_,_⟩:=r.ints.shape;subst gM;clear hc q;go_wp2_with (first|(at_builtin;refine wp_app_row rfl _ _ rfl w.heap.size wr U v4 _ ((conjL P L X).take k) (rConj P (gt L k) X) rfl hO D r rfl rfl C i.size ?_;intro v5 w5 E F ab;have u:=hO.extw i (Nat.le_refl _) F)|fail)
   go_roundw
   case rel=>exact⟨k+1,v5,rfl,by go_num,by omega,u,by rw[A.out.1];exact E⟩
   case measure=>simp[intOf];omega
  ·have H:k=L.length:=by omega
   subst H;rw[List.take_of_length_le (by rw[e.out];exact Nat.le_refl _)] at hO;obtain⟨az,capz,fM,_,_⟩:=SlD.shape (hO.toD (by rw[e.out];omega));subst fM;go_wp2;go_ret;exact⟨_,rfl,i,hO⟩
theorem conjugateSubgroup_ok (P:Pr) (G:Grp P) (w:World) (p lv j:Value) (L:List (List Int)) (X:List Int) (k n q:Nat->Prop) (l:PresP k w p P) (r:Rows2 n w lv L) (u:∀y∈L,Vec P.orders y) (e:L.length<=10000) (hx:Ints q w j X) (A:Vec P.orders X) :
  Calls Tryz.prog 132 #[p,lv,j] w (Ret w λw' v=>RowsO w.heap.size w' v (cseq P (genP P (λz=>z∈conjL P L X)))):=by
 have g:(conjL P L X).length=L.length:=by unfold conjL;rw[List.length_map]
 have a:=conjugates_ok P G w p lv j L X k n q l r u e hx A;obtain⟨pb,po,rfl⟩:=l.shape;obtain⟨E,capl,rfl,_,_⟩:=Sl.shape r;obtain⟨F,capx,rfl,_,_⟩:=hx.shape
 have i:∀z∈conjL P L X,Vec P.orders z:=λz B=>by
  unfold conjL at B;obtain⟨y,hy,rfl⟩:=List.mem_map.1 B;exact G.conjV (u y hy) A
 have m:=Lib.hid (And.intro i g);clear i g;go_enter Tryz.func132,Tryz.ntmps132;go_wp2_with fail
 refine Calls.mono a ?_;rintro H D ⟨v1,rfl,b,hO⟩;clear a;have C:=RowsD.rows (hO.toD (by rw[m.out.2];omega));obtain⟨a1,cap1,jX,_,_⟩:=Sl.shape C;subst jX;go_wp2_with fail
 refine Calls.mono (generated_ok P G D _ _ (conjL P L X) k _ (l.ext b) C m.out.1 (by rw[m.out.2];omega)) ?_;rintro I J ⟨K,rfl,hg2,mL⟩;go_wp2;go_ret;exact⟨_,rfl,grown_trans b hg2,mL.weak b.size⟩
theorem rF {P:Pr}(hP:Valid P):∀g∈gensOf P.orders.length,Vec P.orders g:=λg a=>by
 unfold gensOf at a;obtain⟨k,_,rfl⟩:=List.mem_map.1 a;exact unitV_vec hP k
def mS (P:Pr) (H:List Int->Prop) (U:List (List Int)):Prop:=∀g∈gensOf P.orders.length,∀x∈U,H (rConj P x g)
theorem xJ (P:Pr) (G:Grp P) (w:World) (p uv:Value) (H:List Int->Prop) (L Su:Nat->Prop) (S:Sub P H) (M:PresP L w p P) (O:Rows2 Su w uv (cseq P H)) :
  Calls Tryz.prog 113 #[p,uv] w (Ret w λ_ v=>∃r:Bool,v=.bool r/\(r=true↔mS P H (cseq P H))):=by
 have hP:=G.v;have am:=hP.n6;have k:=G.cseq_len S;have z:=(G.seq_facts S).2.1;obtain⟨pb,po,rfl⟩:=M.shape;obtain⟨au,capu,rfl,_,_⟩:=Sl.shape O;have an:(gensOf P.orders.length).length<=6:=by unfold gensOf;simp;omega
 have HG:=Lib.hid (And.intro (rF hP) z);clear z;go_enter Tryz.func113,Tryz.ntmps113;go_wp2_with fail
 refine Calls.mono (generators_ok P hP w _ L M) ?_;rintro e1 w1 ⟨v1,rfl,hg1,hO⟩;have hR:=RowsD.rows (hO.toD (by omega));obtain⟨a1,cap1,jX,_,_⟩:=Sl.shape hR;subst jX;generalize A:gensOf P.orders.length=GS at *;have B:=Lib.hid A;clear A hO;go_wp2;go_loopw [12] (λQ wr=>∃i:Nat,Q=.int .i64 i/\i<=GS.length/\Ext w1 wr/\Hid (∀j,j<i->∀x∈cseq P H,H (rConj P x (gt GS j)))) (λQ _=>GS.length-(intOf Q).toNat)
 case atStart=>exact⟨0,rfl,by omega,Ext.refl _,Lib.hid (λj h=>by omega)⟩
 case round=>
  obtain⟨i,rfl,hi,a,hN⟩:=hrel;by_cases n:i<GS.length
  ·have aj:(i:Int)<GS.length:=by omega
   obtain⟨b,off,a2,cap2,rfl,_,_,hc,R⟩:=Rows2.at hR i n;have T:=a.cell hc (by simp);have C:=HG.out.1 _ (gtMem n);have U:=Lib.hid C;clear C;go_wp2;clear T;go_loopw [18] (λV wr=>∃j:Nat,V=.int .i64 j/\j<=(cseq P H).length/\Ext w1 wr/\Hid (∀l,l<j->H (rConj P (gt (cseq P H) l) (gt GS i)))) (λV _=>(cseq P H).length-(intOf V).toNat)
   case atStart=>exact⟨0,rfl,by omega,a,Lib.hid (λj h=>by omega)⟩
   case round=>
    clear a;obtain⟨j,rfl,hj,a,hM⟩:=hrel;have q:=grown_trans hg1 a;by_cases u:j<(cseq P H).length
    ·have ak:(j:Int)<(cseq P H).length:=by omega
     obtain⟨b3,rG,a3,rB,rfl,_,_,hc3,W⟩:=Rows2.at (Rows2.ext O q) j u;have D:=S.vec _ (HG.out.2 _ (gtMem u));have X:=Lib.hid D;clear D;go_wp2_with fail
     refine Calls.mono (conjugate_ok P hP wr _ _ _ (gt (cseq P H) j) (gt GS i) L _ _ (M.ext q) W (R.ext a) X.out U.out) ?_;rintro eC wC ⟨vC,rfl,E,F⟩;rw[G.iConj_eq X.out U.out] at F;have y:=G.conjV X.out U.out;have I:=F.ints (by rw[y.1];omega);obtain⟨aC,capC,j3,_,_⟩:=I.shape;subst j3;have Y:=Lib.hid y;clear y;have e:=grown_trans q E;go_wp2_with fail
     refine Calls.mono (isMember_ok P G wC _ _ _ H (rConj P (gt (cseq P H) j) (gt GS i)) L Su Any S (M.ext e) (Rows2.ext O e) I Y.out) ?_;rintro eM wM ⟨vM,rfl,Z,r,rfl,N⟩;have J:=grown_trans (grown_trans a E) Z;cases r with
     | true=>
      have HR:=Lib.hid (N.1 rfl);clear N;go_wp2;go_roundw
      case rel=>exact⟨j+1,by go_num,by omega,J,Lib.hid (λl k=>by
       rcases Nat.lt_succ_iff_lt_or_eq.1 k with h|h
       ·exact hM.out l h
       ·rw[h];exact HR.out)⟩
      case measure=>simp[intOf];omega
     | false=>
      have K:¬H (rConj P (gt (cseq P H) j) (gt GS i)):=λh=>by have:=N.2 h;cases this
      have HR:=Lib.hid K;clear N K;go_wp2;go_ret
      exact ⟨_,rfl,grown_trans hg1 J,false,rfl,by
       simp only[Bool.false_eq_true,false_iff];intro h;unfold mS at h;rw[B.out] at h;exact HR.out (h _ (gtMem n) _ (gtMem u))⟩
    ·have ab:j=(cseq P H).length:=by omega
     subst ab;go_wp2;go_roundw
     case rel=>exact⟨i+1,by go_num,by omega,a,Lib.hid (λl k=>by
      rcases Nat.lt_succ_iff_lt_or_eq.1 k with h|h
      ·exact hN.out l h
      ·rw [h]
       intro x hx;obtain⟨m,hm,rfl⟩:=List.getElem_of_mem hx;rw[<-gt_eq _ m hm];exact hM.out m hm)⟩
     case measure=>simp[intOf];omega
  ·have ac:i=GS.length:=by omega
   subst ac;go_wp2;go_ret
   exact ⟨_,rfl,grown_trans hg1 a,true,rfl,by
    simp only[true_iff];unfold mS;rw[B.out];intro g ad x hx;obtain⟨l,k,rfl⟩:=List.getElem_of_mem ad;rw[<-gt_eq _ l k];exact hN.out l k x hx⟩
end Go.Proofs.YtdcobapnlpeaaaaGreat
namespace Go.Proofs.YtdcobapnlpeaaaaGreat
def gQ (P:Pr) (K:List Int->Prop):Prop:=∀x,K x->∀g,Vec P.orders g->K (rConj P x g)
def fH (P:Pr) (K:List Int->Prop) (g x:List Int):Prop:=∃y,K y/\x=rConj P y g
section
variable {P:Pr}(G:Grp P)
include G
theorem Grp.oN {g:List Int}(a:Vec P.orders g):rConj P (zeros P.orders.length) g=zeros P.orders.length:=by
 unfold rConj;rw[G.grp.el _ a,G.inv_mul a]
theorem Grp.rH {x g:List Int}(hx:Vec P.orders x) (a:Vec P.orders g):rConj P (rInv P x) g=rInv P (rConj P x g):=by
 refine G.inv_of (G.conjV hx a) (G.conjV (G.invV hx) a) ?_;rw[<-G.conj_hom hx (G.invV hx) a,G.mul_inv hx,G.oN a]
theorem Grp.oO {H:List Int->Prop}(S:Sub P H) {g:List Int}(a:Vec P.orders g):Sub P (λy=>Vec P.orders y/\H (rConj P y g)):=
 ⟨λ_ h=>h.1,⟨G.oneV,by rw[G.oN a];exact S.one⟩,λx y hx hy=>⟨G.mulV hx.1 hy.1,by rw[G.conj_hom hx.1 hy.1 a];exact S.mul _ _ hx.2 hy.2⟩,
  λx hx=>⟨G.invV hx.1,by rw[G.rH hx.1 a];exact S.inv _ hx.2⟩⟩
theorem Grp.kJ {K:List Int->Prop}(S:Sub P K) {g:List Int}(b:Vec P.orders g):Sub P (fH P K g):=by
 refine⟨?_,⟨_,S.one,(G.oN b).symm⟩,?_,?_⟩
 ·rintro x ⟨y,hy,rfl⟩;exact G.conjV (S.vec y hy) b
 ·rintro x x' ⟨y,hy,rfl⟩ ⟨e,a,rfl⟩
  exact⟨_,S.mul _ _ hy a,(G.conj_hom (S.vec y hy) (S.vec e a) b).symm⟩
 ·rintro x ⟨y,hy,rfl⟩
  exact⟨_,S.inv _ hy,(G.rH (S.vec y hy) b).symm⟩
theorem Grp.xK {K:List Int->Prop}(S:Sub P K) {g:List Int}(b:Vec P.orders g):genP P (λz=>z∈conjL P (cseq P K) g)=fH P K g:=by
 have e:=(G.seq_facts S).2.1
 have i:∀z,z∈conjL P (cseq P K) g->Vec P.orders z:=λz a=>by
  unfold conjL at a;obtain⟨y,hy,rfl⟩:=List.mem_map.1 a;exact G.conjV (S.vec y (e y hy)) b
 have j:=G.genP_sub (Q:=λz=>z∈conjL P (cseq P K) g) i;refine funext λx=>propext ⟨λh=>h _ (G.kJ S b) (λz a => ?_),?_⟩
 ·unfold conjL at a
  obtain⟨y,hy,rfl⟩:=List.mem_map.1 a;exact⟨y,e y hy,rfl⟩
 ·rintro ⟨y,hy,rfl⟩
  have h1:genP P (λz=>z∈cseq P K) y:=by rw[G.genP_cseq S];exact hy
  exact(h1 _ (G.oO j b) (λz a=>⟨S.vec z (e z a),genP_mem (List.mem_map.2 ⟨z,a,rfl⟩)⟩)).2
theorem Grp.xL {N K:List Int->Prop}(i:gQ P N) (b:∀x,N x->Vec P.orders x) (h:∀x,N x->K x) {g:List Int}(a:Vec P.orders g) (x:List Int) (hx:N x):fH P K g x:=by
 have e:=G.invV a;refine⟨rConj P x (rInv P g),h _ (i x hx _ e),?_⟩;rw[G.conj_mul (b x hx) e a,G.inv_mul a,G.conj_one (b x hx)]
theorem Grp.xM {K:List Int->Prop}(S:Sub P K) (h:∀j,j<P.orders.length->∀x,K x->K (rConj P x (unitV P.orders.length j))):gQ P K:=by
 have key:∀g,Vec P.orders g->∀x,K x->K (rConj P x g):=λg a=>by
  refine G.gen_ind (λg=>∀x,K x->K (rConj P x g)) (λx hx => ?_) (λy j hy b e x hx => ?_) a
  ·rw[G.conj_one (S.vec x hx)];exact hx
  ·have i:=unitV_vec G.v j
   rw[<-G.conj_mul (S.vec x hx) hy i];exact h j e _ (b x hx)
 exact λx hx g a=>key g a x hx
omit G in
theorem xN (n j:Nat) (a:j<n):gt (gensOf n) j=unitV n j:=by
 unfold gensOf;have h:j<(List.range n).length:=by rw[List.length_range];exact a
 rw[gt_map _ _ _ h];simp[gt,a]
omit G in
theorem xO (n:Nat):(gensOf n).length=n:=by unfold gensOf;simp
theorem Grp.xP {K:List Int->Prop}(S:Sub P K):mS P K (cseq P K)↔gQ P K:=by
 have a:=(G.seq_facts S).2.1;constructor
 ·intro h
  refine G.xM S (λj b x hx => ?_);have i:=unitV_vec G.v j;have h1:genP P (λz=>z∈cseq P K) x:=by rw[G.genP_cseq S];exact hx
  have k:unitV P.orders.length j∈gensOf P.orders.length:=by rw[<-xN _ _ b];exact gtMem (by rw[xO];exact b)
  exact(h1 _ (G.oO S i) (λz e=>⟨S.vec z (a z e),h _ k z e⟩)).2
 ·intro h g l x hx
  exact h x (a x hx) g (rF G.v g l)
end
end Go.Proofs.YtdcobapnlpeaaaaGreat
namespace Go.Proofs.YtdcobapnlpeaaaaGreat
open Go.RowKit
def mU (a b:Nat):Bool:=decide (a &&& b=a)
section
variable {P:Pr}(G:Grp P)
include G
theorem Grp.oP {H:List Int->Prop}(S:Sub P H):prodU P (cseq P H) (cseq P H).length=(elemsIn P H).length:=by
 rw[<-G.els_sorted S,(sortL_perm _).length_eq];exact(elsP_len G.v (G.seq_facts S).1 _ (Nat.le_refl _)).symm
omit G in
theorem mV {P:Pr}(hP:Valid P) (H:List Int->Prop):(elemsIn P H).Nodup:=
 List.nodup_iff_pairwise_ne.2 ((elemsIn_asc hP H).imp (λ{a b} h e=>by subst e;omega))
theorem Grp.xQ {H K:List Int->Prop}(S:Sub P H) (R:Sub P K) (h:∀x,H x->K x):prodU P (cseq P H) (cseq P H).length<=prodU P (cseq P K) (cseq P K).length /\
  (prodU P (cseq P H) (cseq P H).length=prodU P (cseq P K) (cseq P K).length->∀x,K x->H x):=by
 rw[G.oP S,G.oP R];have hP:=G.v;have hH:=elemsIn_mem hP S.vec;have b:=elemsIn_mem hP R.vec;have e:∀x∈elemsIn P H,x∈elemsIn P K:=λx hx=>(b x).2 (h x ((hH x).1 hx));have h1:=nodup_sub_len _ _ (mV hP H) e;refine⟨by omega,λk x hx=>Classical.byContradiction λg => ?_⟩;have a:(x :: elemsIn P H).Nodup:=List.nodup_cons.2 ⟨λi=>g ((hH x).1 i),mV hP H⟩
 have j:=nodup_sub_len _ (elemsIn P K) a (λy hy=>by
  rcases List.mem_cons.1 hy with rfl|hy
  ·exact(b _).2 hx
  ·exact e y hy)
 simp only[List.length_cons] at j;omega
theorem Grp.rI {H K:List Int->Prop}(S:Sub P H) (_R:Sub P K):mU (msk P H) (msk P K)=true↔∀x,H x->K x:=by
 unfold mU;rw[decide_eq_true_iff];constructor
 ·intro h x hx
  obtain⟨h1,b⟩:=G.num_lt (S.vec x hx);have a:(msk P H).testBit (num P x).toNat=true:=(msk_bit h1).2 (by rw[b];exact hx);rw[<-h,Nat.testBit_and,Bool.and_eq_true] at a;have:=(msk_bit h1).1 a.2;rwa [b] at this
 ·intro h
  apply Nat.eq_of_testBit_eq;intro t;rw[Nat.testBit_and];by_cases e:t<(ordP P).toNat
  ·cases a:(msk P H).testBit t
   ·rfl
   ·have:=(msk_bit (P:=P) (H:=K) e).2 (h _ ((msk_bit e).1 a))
    rw[this];rfl
  ·rw[msk_high (by omega)];rfl
theorem Grp.xR {L:List (List (List Int))}(h:LatL P L) {i j:Nat}(m:i<j) (n:j<L.length):mU (mskU P (gt L j)) (mskU P (gt L i))=false:=by
 have a:=(h.2 _).1 (gt_mem (l:=L) (i:=i) (by omega));have b:=(h.2 _).1 (gt_mem n);have g:=List.pairwise_iff_getElem.1 h.1 i j (by omega) n m;rw[<-gt_eq L i (by omega),<-gt_eq L j n] at g;cases q:mU (mskU P (gt L j)) (mskU P (gt L i)) with
 | false=>rfl
 | true=>
  exfalso
  have k:=(G.rI (G.subB b) (G.subB a)).1 q;obtain⟨h1,h2⟩:=G.xQ (G.subB b) (G.subB a) k;rw[<-a.2,<-b.2] at h1 h2;rcases g with p|⟨r,p⟩
  ·omega
  ·have u:=h2 r.symm
   have:genP P (λx=>x∈gt L j)=genP P (λx=>x∈gt L i):=funext λx=>propext ⟨k x,u x⟩;have e:gt L i=gt L j:=by rw[a.2,b.2,this]
   rw[e,(cmpL_zero _ _).2 rfl] at p;omega
theorem Grp.oQ {L:List (List (List Int))}(h:LatL P L):0<L.length/\gt L (L.length-1)=cseq P (Vec P.orders):=by
 have e:=(h.2 (cseq P (Vec P.orders))).2 (G.subB_cseq G.sub_all);obtain⟨i,hi,b⟩:=mem_gt e;refine⟨by omega,?_⟩;by_cases g:i=L.length-1
 ·rw[<-g];exact b
 ·exfalso
  have a:=(h.2 _).1 (gt_mem (l:=L) (i:=L.length-1) (by omega));have:=G.xR h (i:=i) (j:=L.length-1) (by omega) (by omega);rw[b,G.mskU_cseq G.sub_all] at this;have k:=(G.rI (G.subB a) G.sub_all).2 (λx hx=>(G.subB a).vec x hx);unfold mskU at this;rw[k] at this;cases this
end
section
variable {P:Pr}(G:Grp P)
include G
end
end Go.Proofs.YtdcobapnlpeaaaaGreat
namespace Go.Proofs.YtdcobapnlpeaaaaGreat
open Go.RowKit
open Go.Maps (Keyed)
structure iB (κ ν : Type) where
 t:TypeId
 k:TypeId
 e:TypeId
 kv:κ -> Value
 kl:κ -> Lit
 j4:κ -> Prop
 ev:ν -> Value
 el:ν -> Lit
 kK:ν -> Prop
 z:ν
 keyed:Keyed Tryz.prog k
 und:Tryz.prog.underlying t=some (.map k e)
 key:∀a,j4 a->keyOf Tryz.prog k (kv a)=some (kl a)
 inj:∀a c,kl a=kl c->a=c
 isKey:∀a,WideAt.IsKeyLit (kl a)
 elem:∀x,kK x->plainElem (H:=Unit) Tryz.prog e (ev x)=some (.lit (el x),[])
 inv:∀v x ps,plainElem (H:=Unit) Tryz.prog e v=some (.lit (el x),ps)->v=ev x
 zero:∀w,(zeroValue e).run Tryz.prog w=.ok (ev z) w
 mW:kK z
variable {κ ν : Type}
def fF (M:iB κ ν) (w:World) (b:Nat) (f:κ -> ν) (m:Nat):Prop:=
 ∃(n:Nat) (D:DataW Unit),w.ownsMap Tryz.prog M.k (plainElem Tryz.prog M.e) b n D/\n<=m/\Maps.IsMap D/\∀a,M.j4 a->D.atKey (M.kl a) (.lit (M.el M.z))=.lit (M.el (f a))
theorem fF.made (M:iB κ ν) (w:World):fF M (w.alloc (.map #[] 0)) w.heap.size (λ_=>M.z) 0:=
 ⟨0,.map [],World.ownsMap_made _ _ _ _,Nat.le_refl _,Maps.isMap_empty,λa _=>by simp[WideAt.atKey_none]⟩
theorem fF.lt {M:iB κ ν}{w:World}{b:Nat}{f:κ -> ν}{m:Nat}(h:fF M w b f m):b<w.heap.size:=by
 obtain⟨n,D,h,_⟩:=h;exact h.lt
theorem fF.kept {M:iB κ ν}{w w':World}{b:Nat}{f:κ -> ν}{m:Nat}{r:Option Nat}(h:fF M w b f m) (e:w.grownBy w' r) (a:some b≠r):fF M w' b f m:=by
 obtain⟨n,D,h,h2⟩:=h;exact⟨n,D,h.kept e a,h2⟩
theorem fF.ext {M:iB κ ν}{w w':World}{b:Nat}{f:κ -> ν}{m:Nat}(h:fF M w b f m) (a:Ext w w'):fF M w' b f m:=h.kept a (by simp)
theorem fF.le {M:iB κ ν}{w:World}{b:Nat}{f:κ -> ν}{m a:Nat}(h:fF M w b f m) (e:m<=a):fF M w b f a:=by
 obtain⟨n,D,h,h2,h3⟩:=h;exact⟨n,D,h,Nat.le_trans h2 e,h3⟩
theorem fF.look {M:iB κ ν}{w:World}{b:Nat}{f:κ -> ν}{m:Nat}(h:fF M w b f m) (a:κ) (ha:M.j4 a) :
  (Instr.lookup M.t (.map (some b)) (M.kv a) false).run Tryz.prog w=.ok (M.ev (f a)) w:=by
 obtain⟨n,D,h,_,_,g⟩:=h;obtain⟨v,ps,e,i⟩:=h.lookup M.keyed M.und (M.zero w) (M.elem M.z M.mW) (M.key a ha);rw[g a ha] at i;rw[e,M.inv _ _ _ i]
theorem fF.update [DecidableEq κ] {M:iB κ ν}{w:World}{b:Nat}{f:κ -> ν}{m:Nat}(h:fF M w b f m) (a:κ) (ha:M.j4 a) (x:ν) (hx:M.kK x) (k:m<=1048576) :
  ∃w',(Instr.mapUpdate M.t (.map (some b)) (M.kv a) (M.ev x)).run Tryz.prog w=.ok () w'/\fF M w' b (λc=>if c=a then x else f c) (m+1)/\w.grownBy w' (some b):=by
 obtain⟨n,D,h,hn,i,hat⟩:=h;obtain⟨w',hrun,hown,hg⟩:=h.update M.keyed M.und (by unfold maxLen;omega) (M.key a ha) (M.elem x hx);refine⟨w',hrun,⟨n+1,_,hown,by omega,i.put _ _,?_⟩,hg⟩;intro c j;by_cases g:c=a
 ·subst g
  rw[Maps.atKey_put_same i (M.isKey c)];simp
 ·rw[Maps.atKey_put_other (λe=>g (M.inj _ _ e)),hat c j];simp[g]
theorem mX:Tryz.prog.underlying 62=some (.int .u64):=by kernel_rfl
theorem mY:Tryz.prog.underlying 4=some .bool:=by kernel_rfl
theorem xS:Tryz.prog.underlying 206=some (.map 62 4):=by kernel_rfl
theorem xT:Tryz.prog.underlying 208=some (.map 9 62):=by kernel_rfl
theorem rJ {a:Nat}(h:a<2 ^ 64):(Lit.int .u64 (a:Int)).wf=true:=by
 have e:a<18446744073709551616:=h;have h1:IntKind.u64.min=0:=by decide
 have b:IntKind.u64.max=18446744073709551615:=by decide
 simp only[Lit.wf,h1,b];simp;omega
def kL:iB Nat Bool where
 t:=206
 k:=62
 e:=4
 kv a := .int .u64 (a:Int)
 kl a := .int .u64 (a:Int)
 j4 a:=a<2 ^ 64
 ev x := .bool x
 el x := .bool x
 kK _:=True
 z:=false
 keyed:=Maps.int_keyed mX
 und:=xS
 key a ha:=Maps.keyOf_int_mk mX (rJ ha)
 inj a c h:=by simp at h;omega
 isKey _:=trivial
 elem x _:=plainElem_bool mY x
 inv v x ps h:=by
  unfold plainElem at h;rw[mY] at h;cases v<;>simp at h
  rw[h.1]
 zero w:=by kernel_rfl
 mW:=trivial
def rK:iB ByteArray Nat where
 t:=208
 k:=9
 e:=62
 kv s := .string s
 kl s := .string s.data.toList
 j4 s:=s.size<=maxLen
 ev x := .int .u64 (x:Int)
 el x := .int .u64 (x:Int)
 kK x:=x<2 ^ 64
 z:=0
 keyed:=Maps.string_keyed kM
 und:=xT
 key s hs:=WideMaps.keyOf_string_mk kM hs
 inj a c h:=by
  cases a with|mk a=>cases c with|mk c=>
  simp only[Lit.string.injEq] at h;rw[Array.toList_inj.1 h]
 isKey _:=trivial
 elem x hx:=plainElem_int mX (rJ hx)
 inv v x ps h:=by
  obtain⟨c,rfl,b,_⟩:=plainElem_int_inv mX h;simp only[Prod.mk.injEq,DataW.lit.injEq,Lit.int.injEq,true_and] at b;rw[b.1]
 zero w:=by kernel_rfl
 mW:=by decide
theorem fF.ne {κ ν : Type}{M:iB κ ν}{w:World}{b B E m:Nat}{f:κ -> ν}{v:Value}{xs:List Value}(h:fF M w b f m) (hO:OwnV B E w v xs):some b≠v.ownBlock:=by
 obtain⟨n,D,⟨es,clock,a,_⟩,_⟩:=h;obtain⟨_,⟨rfl,_⟩|⟨g,cap,cur,rfl,_,i,_⟩⟩:=hO
 ·intro e;cases e
 ·intro e
  cases e
  rw[i] at a;cases a
end Go.Proofs.YtdcobapnlpeaaaaGreat
namespace Go.Proofs.YtdcobapnlpeaaaaGreat
open Go.RowKit
noncomputable def fk (P:Pr):Int:=if rconsB P=true then (if 32<ordP P then 3 else 0) else 1
def uV (m:Nat):Value := .int .u64 (m:Int)
theorem fF.congr {κ ν : Type}{M:iB κ ν}{w:World}{b:Nat}{f e:κ -> ν}{m:Nat}(h:fF M w b f m) (g:∀a,f a=e a):fF M w b e m:=by
 have:f=e:=funext g;rw[<-this];exact h
theorem rL:Tryz.prog.underlying 158=some (.slice 62):=by kernel_rfl
theorem Tryz.rM:(Tryz.prog.info? 62).map (λi=>(i.zero,i.size,i.bytes))=some (some (.int .u64 0),1,8):=by kernel_rfl
theorem rN {B:Nat}{w:World}{g n cap i:Nat}{M:List Nat}(h:OwnV B 62 w (.slice (some ⟨g,0,none⟩) n cap) (M.map uV)) (a:i<M.length):w.cell? ⟨g,i,none⟩=some (.int .u64 ((gt M i:Nat):Int)):=by
 have:=h.cell i (by rw[List.length_map];exact a);rw[this,gt_map _ _ _ a];rfl
theorem rO {B:Nat}{w:World}{v:Value}{M:List Nat}(h:OwnV B 62 w v (M.map uV)) (a:0<M.length):∃g cap,v=.slice (some ⟨g,0,none⟩) M.length cap:=by
 rcases h.form with⟨_,b⟩|⟨g,cp,h1,_⟩
 ·rw[List.map_eq_nil_iff] at b;rw[b] at a;simp at a
 ·exact⟨g,cp,by rw[h1,List.length_map]⟩
theorem oT {P:Pr}{H:List Int->Prop}(h:ordP P<=32):msk P H<2 ^ 64:=
 Nat.lt_of_lt_of_le (msk_lt P H) (Nat.pow_le_pow_right (by decide) (by omega))
theorem iT (w:World) (a:Addr) (u:Value):w.grownBy (w.setCell a u) (some a.block):=
 ⟨rfl,rfl,rfl,by simp,λk _ hk=>heap_setCell_other w a k u (λe=>hk (by rw[e]))⟩
theorem mZ:Tryz.prog.underlying 26=some (.slice 25):=by kernel_rfl
theorem Tryz.ng:(Tryz.prog.info? 25).map (λi=>(i.zero,i.size,i.bytes))=some (some (.slice none 0 0),1,24):=by kernel_rfl
theorem xU (w:World):(Instr.makeMap 206 none).run Tryz.prog w=.ok (.map (some w.heap.size)) (w.alloc (.map #[] 0)):=by kernel_rfl
theorem xV (w:World):(Instr.makeMap 208 none).run Tryz.prog w=.ok (.map (some w.heap.size)) (w.alloc (.map #[] 0)):=by kernel_rfl
theorem SlO.rP {α:Type} [Inhabited α] {El:(Nat->Prop)->World->Value->α->Prop}(b:RdOk El) {E B:Nat}{w:World}{u:Value}{y:α}(l:El (From B) w u y) (hB:B<=w.heap.size) :
  SlO El E B (w.alloc (.cells #[u] E)) (.slice (some ⟨w.heap.size,0,none⟩) 1 1) [y]:=by
 have e:Ext w (w.alloc (.cells #[u] E)):=World.grownBy_alloc _ _ _;refine⟨[u],λ_ k=>B<=k/\k<w.heap.size,rfl,World.ownsRow_lit w #[u] 1 hB (by decide) rfl,?_,?_,?_⟩
 ·intro i k _ hk
  refine⟨hk.1,λh => ?_,?_⟩
  ·have:w.heap.size=k:=Option.some.inj h
   omega
  ·have:=e.size;omega
 ·intro i j k g m _ _
  simp at g m;omega
 ·intro i g
  have:i=0:=by simpa using g
  subst this;exact b.mono l (λk hk a=>⟨⟨hk,a⟩,Nat.lt_of_lt_of_le a e.size,e.block k a (by simp)⟩)
theorem oU {k:Array Oper}{o:Oper}{a:Act}{K:Act->World->Prop}{Q:Exit->Act->World->Prop}{p:Prop}{w:World}(l:o.guard=none) (s x:Operand)
  (q:o.op=Op.call { callee:=Callee.builtin Builtin.append,args := #[s,x],argTypes := #[158,158] }) (B:Nat) (v:Value) (i:List Value) (y:Nat) (r:a.eval s=v) (b:World) (g:OwnV B 62 b v i)
  (u:w=b.alloc (.cells #[.int .u64 (y:Int)] 62)) (hx:a.eval x=.slice (some ⟨b.heap.size,0,none⟩) 1 1) (n:i.length<=1000000) (m:B<=b.heap.size)
  (h:∀j w',OwnV B 62 w' j (i++[uV y])->b.grownBy w' v.ownBlock->K (a.put o.dst j) w') :
  if Region.wanted o (yielded k a.tmps)=true then Oper.wp Tryz.prog o a w K Q else p:=by
 subst u;have e:Ext b (b.alloc (.cells #[.int .u64 (y:Int)] 62)):=World.grownBy_alloc _ _ _;refine step_app 158 62 (.int .u64 0) 8 rL Tryz.rM rfl (by decide) l s x q B v i r (g.kept e (by cases A:v.ownBlock<;>simp)) b.heap.size (.int .u64 (y:Int)) hx (by rw[World.cell?_alloc_at _ _ _ _ rfl];rfl) rfl (by omega) (by have:=e.size;omega) ?_;intro j w' h1 z _;exact h j w' h1 (grown_trans (grown_of_ext _ e) z)
structure rQ (B:Nat) (P:Pr) (w:World) (lb:Nat) (p:Value) (L:List (List (List Int))):Prop where
 lo:B<=lb
 ex:∃lv mv,Box3 w lb p lv mv/\SlO (λF w u (x:List (List Int))=>RowsD F w u x) 25 B w lv L/\OwnV B 62 w mv (L.map λu=>uV (mskU P u))
open Classical in
noncomputable def j5 (P:Pr):List (List (List Int)):=if h:∃L,LatL P L then Classical.choose h else []
theorem oV {P:Pr}{L:List (List (List Int))}(h:LatL P L):j5 P=L:=by
 have hx:∃L,LatL P L:=⟨L,h⟩;unfold j5;rw[dif_pos hx];exact LatL.one (Classical.choose_spec hx) h
theorem gB {P:Pr}(h:fk P=0):rconsB P=true/\ordP P<=32:=by
 unfold fk at h;cases a:rconsB P with
 | false=>rw[a] at h;simp at h
 | true=>
  rw[a] at h;simp only[if_true] at h;refine⟨rfl,?_⟩;split at h<;>omega
section
variable {P:Pr}(G:Grp P)
include G
theorem Grp.nh {u v:List (List Int)}(a:SubB P u) (b:SubB P v) (h:mskU P u=mskU P v):u=v:=by
 have:=G.msk_inj (G.subB a) (G.subB b) h;rw[a.2,b.2,this]
theorem Grp.j6 (g:ordP P<=32) {L:List (List (List Int))}(h:LatL P L):L.length<=17408:=by
 have j:(L.map (mskU P)).Nodup:=by
  refine List.nodup_iff_pairwise_ne.2 ?_;rw[List.pairwise_map];refine h.1.imp_of_mem (λ{a b} ha k i e => ?_);have:=G.nh ((h.2 a).1 ha) ((h.2 b).1 k) e;subst this;exact subLt_irrefl i
 have:=G.few_subs g j (λm l=>by
  obtain⟨u,n,rfl⟩:=List.mem_map.1 l;exact⟨_,G.subB ((h.2 u).1 n),rfl⟩)
 rwa [List.length_map] at this
theorem Grp.oW {L:List (List (List Int))}(h:LatL P L):∀u∈L,u.length<=6/\∀x∈u,x.length<=6:=λu b=>by
 have a:=(h.2 u).1 b;have:=G.sub_len a;have:=G.v.n6;exact⟨by omega,λx hx=>by rw[(a.1 x hx).1];omega⟩
end
noncomputable def fI (P:Pr) (u:List (List Int)) (x:List Int):List (List Int):=cseq P (genP P (λz=>z∈conjL P u x))
abbrev gP (P:Pr) (u:List (List Int)):List Int->Prop:=genP P (λz=>z∈u)
def gm (P:Pr) (m t a:Nat):Nat->Nat
 | 0=>0
 | k+1=>if m.testBit k then gm P m t a k ||| 2 ^ tb P (tb P a k) t else gm P m t a k
theorem ni (P:Pr) (m t a:Nat):∀k y,(gm P m t a k).testBit y=true↔∃x,x<k/\m.testBit x=true/\tb P (tb P a x) t=y
 | 0,y=>by simp[gm]
 | k + 1,y=>by
  unfold gm;by_cases b:m.testBit k=true
  ·rw [if_pos b,Nat.testBit_or,Bool.or_eq_true,ni P m t a k y,bit_pow,decide_eq_true_iff]
   constructor
   ·rintro (⟨x,h1,h2,h3⟩|h)
    ·exact⟨x,by omega,h2,h3⟩
    ·exact⟨k,by omega,b,h⟩
   ·rintro ⟨x,h1,h2,h3⟩
    rcases Nat.lt_succ_iff_lt_or_eq.1 h1 with h|h
    ·exact .inl ⟨x,h,h2,h3⟩
    ·subst h;exact .inr h3
  ·rw [if_neg b,ni P m t a k y]
   constructor
   ·rintro⟨x,h1,h2,h3⟩;exact⟨x,by omega,h2,h3⟩
   ·rintro ⟨x,h1,h2,h3⟩
    rcases Nat.lt_succ_iff_lt_or_eq.1 h1 with h|h
    ·exact⟨x,h,h2,h3⟩
    ·subst h;exact absurd h2 b
section
variable {P:Pr}(G:Grp P)
include G
theorem Grp.xW {u:List (List Int)}(a:SubB P u) {x:List Int}(hx:Vec P.orders x):genP P (λz=>z∈conjL P u x)=fH P (gP P u) x:=by
 have h:=G.xK (G.subB a) hx;rw[<-a.2] at h;exact h
theorem Grp.jK {u:List (List Int)}(a:SubB P u) {x:List Int}(hx:Vec P.orders x):fI P u x=cseq P (fH P (gP P u) x):=by
 unfold fI;rw[G.xW a hx]
theorem Grp.nj {u:List (List Int)}(a:SubB P u) {x:List Int}(hx:Vec P.orders x):SubB P (fI P u x):=by
 rw[G.jK a hx];exact G.subB_cseq (G.kJ (G.subB a) hx)
theorem Grp.rR {u:List (List Int)}(a:SubB P u) {x:List Int}(hx:Vec P.orders x):gP P (fI P u x)=fH P (gP P u) x:=by
 rw[G.jK a hx];exact G.genP_cseq (G.kJ (G.subB a) hx)
theorem Grp.xX {u:List (List Int)}(a:SubB P u) {x:List Int}(hx:Vec P.orders x):mskU P (fI P u x)=msk P (fH P (gP P u) x):=by
 rw[G.jK a hx];exact G.mskU_cseq (G.kJ (G.subB a) hx)
theorem Grp.xY {u:List (List Int)}(j:SubB P u) {t e:Nat}(k:t<(ordP P).toNat) (n:e<(ordP P).toNat) (p:elAt P (e:Int)=rInv P (elAt P (t:Int))) :
  gm P (mskU P u) t e (ordP P).toNat=mskU P (fI P u (elAt P (t:Int))):=by
 have i:=G.elAtV k;rw[G.xX j i];have S:=G.subB j
 have b:∀x,x<(ordP P).toNat->tb P (tb P e x) t<(ordP P).toNat/\elAt P ((tb P (tb P e x) t:Nat):Int)=rConj P (elAt P (x:Int)) (elAt P (t:Int)):=λx hx=>by
  have h1:=G.tb_lt n hx;have a:=G.tb_lt h1.1 k;refine⟨a.1,?_⟩;rw[a.2,h1.2,p];unfold rConj;exact G.grp.ass _ _ _ (G.invV i) (G.elAtV hx) i
 refine msk_eq (λy hy => ?_) (λy hy => ?_)
 ·rw [ni]
  constructor
  ·rintro ⟨x,h1,a,l⟩
   have g:=(b x h1).2;rw[l] at g;exact⟨elAt P (x:Int),(msk_bit h1).1 a,g⟩
  ·rintro ⟨z,m,xZ⟩
   obtain⟨h1,a⟩:=G.num_lt (S.vec z m);refine⟨(num P z).toNat,h1,(msk_bit h1).2 (by rw[a];exact m),?_⟩;have g:=b _ h1;rw[a,<-xZ] at g;have q:=congrArg (λz=>(num P z).toNat) g.2;have r:=G.num_el g.1;have v:=G.num_el hy;omega
 ·rw [Bool.eq_false_iff]
  intro h;obtain⟨x,h1,a,l⟩:=(ni P _ t e _ y).1 h;have:=(b x h1).1;omega
theorem Grp.x4 {K:List Int->Prop}(S:Sub P K):fH P K (zeros P.orders.length)=K:=
 funext λx=>propext ⟨λ⟨y,hy,e⟩=>by rw[e,G.conj_one (S.vec y hy)];exact hy,λh=>⟨x,h,(G.conj_one (S.vec x h)).symm⟩⟩
theorem Grp.rS {K:List Int->Prop}(S:Sub P K) {g h:List Int}(b:Vec P.orders g) (e:Vec P.orders h):fH P (fH P K g) h=fH P K (rMul P g h):=by
 refine funext λx=>propext ⟨?_,?_⟩
 ·rintro ⟨y,⟨z,a,rfl⟩,rfl⟩
  exact⟨z,a,by rw[G.conj_mul (S.vec z a) b e]⟩
 ·rintro ⟨z,a,rfl⟩
  exact⟨_,⟨z,a,rfl⟩,by rw[G.conj_mul (S.vec z a) b e]⟩
theorem Grp.oZ {u:List (List Int)}(a:SubB P u):fI P u (zeros P.orders.length)=u:=by
 rw[G.jK a G.oneV,G.x4 (G.subB a)];exact a.2.symm
theorem Grp.nk {u:List (List Int)}(a:SubB P u) {g h:List Int}(b:Vec P.orders g) (e:Vec P.orders h):fI P (fI P u g) h=fI P u (rMul P g h):=by
 rw[G.jK (G.nj a b) e,G.rR a b,G.rS (G.subB a) b e,<-G.jK a (G.mulV b e)]
theorem Grp.rT {u:List (List Int)}(a:SubB P u):gQ P (gP P u)↔∀x,Vec P.orders x->fI P u x=u:=by
 have S:=G.subB a;constructor
 ·intro b x hx
  have e:fH P (gP P u) x=gP P u:=funext λy=>propext ⟨λ⟨z,hz,e⟩=>by rw[e];exact b z hz x hx,λh=>G.xL b S.vec (λ_ h=>h) hx y h⟩;rw[G.jK a hx,e];exact a.2.symm
 ·intro h x hx g i
  have h1:=G.rR a i;rw[h g i] at h1;rw[h1];exact⟨x,hx,rfl⟩
end
open Classical in
noncomputable def fC (P:Pr) (u:List (List Int)) (S:List (List (List Int))):Nat->List (List (List Int)) × Nat
 | 0=>(S,0)
 | t+1=>if fI P u (elAt P (t:Int))∈(fC P u S t).1 then fC P u S t else ((fC P u S t).1++[fI P u (elAt P (t:Int))],(fC P u S t).2+1)
theorem lM {P:Pr}{u:List (List Int)}{S:List (List (List Int))}{t:Nat}(h:fI P u (elAt P (t:Int))∈(fC P u S t).1):fC P u S (t+1)=fC P u S t:=by
 rw[fC,if_pos h]
theorem lN {P:Pr}{u:List (List Int)}{S:List (List (List Int))}{t:Nat}(h:¬fI P u (elAt P (t:Int))∈(fC P u S t).1) :
  fC P u S (t+1)=((fC P u S t).1++[fI P u (elAt P (t:Int))],(fC P u S t).2+1):=by
 rw[fC,if_neg h]
theorem pg (P:Pr) (u:List (List Int)) (S:List (List (List Int))):∀t,(fC P u S t).2<=t
 | 0=>Nat.le_refl _
 | t + 1=>by
  have:=pg P u S t;unfold fC;split
  ·omega
  ·show (fC P u S t).2+1<=t+1
   omega
structure nr (P:Pr) (S:List (List (List Int))):Prop where
 sub:∀v∈S,SubB P v
 one:S.Nodup
theorem Grp.kN {P:Pr}(G:Grp P) {u:List (List Int)}(j:SubB P u) {S:List (List (List Int))}(k:nr P S):∀t,t<=(ordP P).toNat->nr P (fC P u S t).1
 | 0,_=>k
 | t + 1,ht=>by
  have i:=Grp.kN G j k t (by omega);by_cases h:fI P u (elAt P (t:Int))∈(fC P u S t).1
  ·rw[lM h];exact i
  ·rw [lN h]
   refine⟨λv g => ?_,?_⟩
   ·rcases List.mem_append.1 g with g|g
    ·exact i.sub v g
    ·rw[List.mem_singleton.1 g];exact G.nj j (G.elAtV (by omega))
   ·rw [List.nodup_append]
    exact⟨i.one,by simp,λa ha b l e=>h (by rw[List.mem_singleton.1 l] at e;rw[<-e];exact ha)⟩
theorem ny (P:Pr) (u:List (List Int)) (S:List (List (List Int))):∀t v,v∈(fC P u S t).1↔v∈S\/∃j,j<t/\v=fI P u (elAt P (j:Int))
 | 0,v=>by simp[fC]
 | t + 1,v=>by
  have e:=ny P u S t;by_cases h:fI P u (elAt P (t:Int))∈(fC P u S t).1
  ·rw [lM h,e v]
   constructor
   ·rintro (h1|⟨j,h1,a⟩)
    ·exact .inl h1
    ·exact .inr ⟨j,by omega,a⟩
   ·rintro (h1|⟨j,h1,a⟩)
    ·exact .inl h1
    ·rcases Nat.lt_succ_iff_lt_or_eq.1 h1 with b|b
     ·exact .inr ⟨j,b,a⟩
     ·subst b;rw[a];exact(e _).1 h
  ·rw [lN h,List.mem_append,e v,List.mem_singleton]
   constructor
   ·rintro ((h1|⟨j,h1,a⟩)|h1)
    ·exact .inl h1
    ·exact .inr ⟨j,by omega,a⟩
    ·exact .inr ⟨t,by omega,h1⟩
   ·rintro (h1|⟨j,h1,a⟩)
    ·exact .inl (.inl h1)
    ·rcases Nat.lt_succ_iff_lt_or_eq.1 h1 with b|b
     ·exact .inl (.inr ⟨j,b,a⟩)
     ·subst b;exact .inr a
theorem Grp.nA {P:Pr}(G:Grp P) (i:ordP P<=32) {S:List (List (List Int))}(g:nr P S):S.length<=17408:=by
 have k:(S.map (mskU P)).Nodup:=by
  refine List.nodup_iff_pairwise_ne.2 ?_;rw[List.pairwise_map];refine(List.nodup_iff_pairwise_ne.1 g.one).imp_of_mem (λ{a b} ha l j e=>j (G.nh (g.sub a ha) (g.sub b l) e))
 have:=G.few_subs i k (λm n=>by
  obtain⟨u,p,rfl⟩:=List.mem_map.1 n;exact⟨_,G.subB (g.sub u p),rfl⟩)
 rwa [List.length_map] at this
structure rU where
 seen:List (List (List Int))
 firsts:List (List (List Int))
 sizes:List Nat
open Classical in
noncomputable def dL (P:Pr) (L:List (List (List Int))):Nat->rU
 | 0=>⟨[],[],[]⟩
 | k + 1=>if gt L k∈(dL P L k).seen then dL P L k else
   ⟨(fC P (gt L k) (dL P L k).seen (ordP P).toNat).1,(dL P L k).firsts++[gt L k],(dL P L k).sizes++[(fC P (gt L k) (dL P L k).seen (ordP P).toNat).2]⟩
theorem jo {P:Pr}{L:List (List (List Int))}{k:Nat}(h:gt L k∈(dL P L k).seen):dL P L (k+1)=dL P L k:=by rw[dL,if_pos h]
theorem jq {P:Pr}{L:List (List (List Int))}{k:Nat}(h:¬gt L k∈(dL P L k).seen) :
  dL P L (k+1)=⟨(fC P (gt L k) (dL P L k).seen (ordP P).toNat).1,(dL P L k).firsts++[gt L k],(dL P L k).sizes++[(fC P (gt L k) (dL P L k).seen (ordP P).toNat).2]⟩:=by rw[dL,if_neg h]
theorem Grp.kO {P:Pr}(G:Grp P) {L:List (List (List Int))}(a:∀u∈L,SubB P u):∀k,k<=L.length->nr P (dL P L k).seen
 | 0,_=>⟨λv (h:v∈[])=>(by cases h),(List.nodup_nil:([]:List (List (List Int))).Nodup)⟩
 | k+1,hk=>by
  have b:=Grp.kO G a k (by omega);by_cases h:gt L k∈(dL P L k).seen
  ·rw[jo h];exact b
  ·rw[jq h];exact G.kN (a _ (gt_mem (by omega))) b _ (Nat.le_refl _)
theorem j7 (P:Pr) (L:List (List (List Int))):∀k,(dL P L k).firsts.length<=k/\(dL P L k).sizes.length=(dL P L k).firsts.length
 | 0=>⟨Nat.le_refl _,rfl⟩
 | k + 1=>by
  obtain⟨h1,h2⟩:=j7 P L k;by_cases h:gt L k∈(dL P L k).seen
  ·rw[jo h];exact⟨by omega,h2⟩
  ·rw [jq h]
   simp only[List.length_append,List.length_singleton];omega
theorem lQ (P:Pr) {L:List (List (List Int))} : ∀ {k:Nat},k<=L.length->∀u∈(dL P L k).firsts,u∈L
 | 0,_,u,h=>by cases h
 | k + 1,hk,u,a=>by
  by_cases h:gt L k∈(dL P L k).seen
  ·rw[jo h] at a;exact lQ P (by omega) u a
  ·rw [jq h] at a
   rcases List.mem_append.1 a with a|a
   ·exact lQ P (by omega) u a
   ·rw[List.mem_singleton.1 a];exact gt_mem (by omega)
theorem x5:∀ {xs b:List Int},(∀a∈xs,0<=a/\a<256)->(∀a∈b,0<=a/\a<256)->strOfNums xs=strOfNums b->xs=b:=by
 intro xs b hx hy h
 have h1:xs.map (λn=>UInt8.ofNat n.toNat)=b.map (λn=>UInt8.ofNat n.toNat):=by
  rw[<-strOfNums_data,<-strOfNums_data,h]
 have key:∀ {xs b:List Int},(∀a∈xs,0<=a/\a<256)->(∀a∈b,0<=a/\a<256)->xs.map (λn=>UInt8.ofNat n.toNat)=b.map (λn=>UInt8.ofNat n.toNat)->xs=b:=by
  intro xs;induction xs with
  | nil=>intro b _ _ h;cases b with
   | nil=>rfl
   | cons=>simp at h
  | cons x xs e=>
   intro b hx hy h;cases b with
   | nil=>simp at h
   | cons y b=>
    simp only[List.map_cons,List.cons.injEq] at h;obtain⟨a1,a2⟩:=hx x (List.mem_cons_self ..);obtain⟨b1,b2⟩:=hy y (List.mem_cons_self ..);have g:=congrArg UInt8.toNat h.1;rw[UInt8.toNat_ofNat',UInt8.toNat_ofNat',Nat.mod_eq_of_lt (by omega),Nat.mod_eq_of_lt (by omega)] at g;rw[show x=y by omega,e (λa ha=>hx a (List.mem_cons_of_mem _ ha)) (λa ha=>hy a (List.mem_cons_of_mem _ ha)) h.2]
 exact key hx hy h1
theorem rV {u:List (List Int)}(h:∀x∈u,∀e∈x,0<=e/\e<256):∀a∈ig u,0<=a/\a<256:=by
 intro a ha;unfold ig at ha;obtain⟨r,hr,b⟩:=List.mem_flatten.1 ha;obtain⟨x,hx,rfl⟩:=List.mem_map.1 hr;rcases List.mem_append.1 b with h1|h1
 ·exact h x hx a h1
 ·simp at h1;omega
theorem x8 {x y:List Int}(h:iK x=iK y):x=y:=List.append_cancel_right h
theorem x9 {n:Nat}{u v:List (List Int)}(b:∀x∈u,x.length=n/\∀e∈x,0<=e/\e<256) (g:∀x∈v,x.length=n/\∀e∈x,0<=e/\e<256) (h:fL u=fL v):u=v:=by
 have h1:=x5 (rV λx hx=>(b x hx).2) (rV λx hx=>(g x hx).2) h
 have i:u.map iK=v.map iK:=flatten_inj (n:=n+1) (by omega)
  (λr a=>by obtain⟨x,hx,rfl⟩:=List.mem_map.1 a;simp[iK,(b x hx).1])
  (λr a=>by obtain⟨x,hx,rfl⟩:=List.mem_map.1 a;simp[iK,(g x hx).1]) h1
 have key:∀ {u v:List (List Int)},u.map iK=v.map iK->u=v:=by
  intro u;induction u with
  | nil=>intro v h;cases v with
   | nil=>rfl
   | cons=>simp at h
  | cons x u j=>
   intro v h;cases v with
   | nil=>simp at h
   | cons y v=>
    simp only[List.map_cons,List.cons.injEq] at h;rw[x8 h.1,j h.2]
 exact key i
theorem lR {P:Pr}(hP:Valid P) {x:List Int}(hx:Vec P.orders x):x.length=P.orders.length/\∀e∈x,0<=e/\e<256:=by
 refine⟨hx.1,λe b => ?_⟩;obtain⟨i,a,rfl⟩:=List.getElem_of_mem b;have h1:=hx.2 i (by rw[<-hx.1];exact a);rw[<-gt_eq _ _ a];have g:=hP.ord7 i (by rw[<-hx.1];exact a);omega
theorem rW {P:Pr}(hP:Valid P) {u v:List (List Int)}(a:SubB P u) (b:SubB P v) (h:fL u=fL v):u=v:=
 x9 (λx hx=>lR hP (a.1 x hx)) (λx hx=>lR hP (b.1 x hx)) h
theorem rX {C:Array Oper}{rest:List Oper}{o:Oper}{a:Act}{Q:Exit->Act->World->Prop}{w:World}(I:o.guard=none) (s x:Operand)
  (U:o.op=Op.call { callee:=Callee.builtin Builtin.append,args := #[s,x],argTypes := #[26,26] }) (B:Nat) (A A' F:Nat->Prop) (w0:World) (v u:Value) (xs:List (List (List Int))) (y:List (List Int)) (V:a.eval s=v)
  (b:SlOA (λF w u (x:List (List Int))=>RowsD F w u x) 25 B A w0 v xs) (N:RowsD F w0 u y) (hF:∀k,F k->k<w0.heap.size->A k/\B<=k) (D:∀k,A' k->A k/\¬F k) (J:∀k,A k->k<w0.heap.size) (W:w=w0.alloc (.cells #[u] 25))
  (hx:a.eval x=.slice (some ⟨w0.heap.size,0,none⟩) 1 1) (O:xs.length<=1000000) (K:B<=w0.heap.size)
  (h:∀n w',SlOA (λF w u (x:List (List Int))=>RowsD F w u x) 25 B A' w' n (xs++[y])->w0.grownBy w' v.ownBlock->(n.ownBlock=v.ownBlock\/∀k,n.ownBlock=some k->w0.heap.size<=k)->wpList Tryz.prog C Q rest (a.put o.dst n) w') :
  wpList Tryz.prog C Q (o :: rest) a w:=by
 subst W;obtain⟨P,G,p,hO,R,hd,X,L,hr2⟩:=b;have q:Ext w0 (w0.alloc (.cells #[u] 25)):=World.grownBy_alloc _ _ _;refine wp_app 26 25 (.slice none 0 0) 24 mZ Tryz.ng rfl (by decide) I s x U B v P V (hO.kept q (by cases hv:v.ownBlock<;>simp)) (some ⟨w0.heap.size,0,none⟩) 1 1 [u] hx rfl (by simp) ?_ ?_ (by simp;omega) (by have:=q.size;omega) ?_
 ·intro j S
  have:j=0:=by omega
  subst this;exact⟨_,_,rfl,by rw[World.cell?_alloc_at _ _ _ _ rfl];rfl⟩
 ·intro u' E
  simp at E;subst E;exact rdRows.one N
 ·intro n w' Y Z _ T
  have r:w0.grownBy w' v.ownBlock:=grown_trans (grown_of_ext _ q) Z
  have z:n.ownBlock=v.ownBlock\/∀k,n.ownBlock=some k->w0.heap.size<=k:=by
   rcases T with h|h
   ·exact .inl h
   ·refine .inr (λk hk => ?_)
    rw[h] at hk;have:(w0.alloc (.cells #[u] 25)).heap.size=k:=by simpa using hk
    simp at this
    omega
  have b:∀k,n.ownBlock=some k->v.ownBlock=some k\/w0.heap.size<=k:=λk hk=>by
   rcases T with h|h
   ·exact .inl (by rw[<-h];exact hk)
   ·rw [h] at hk
    have:(w0.alloc (.cells #[u] 25)).heap.size=k:=by simpa using hk
    simp at this
    exact .inr (by omega)
  refine h n w' ⟨P++[u],λi k=>if i<xs.length then G i k else F k/\k<w0.heap.size,by simp[p],Y,?_,?_,?_,?_,?_⟩ r z
  ·intro i k H hk
   split at hk
   ·rename_i g
    obtain⟨a1,a2,a3⟩:=R i k g hk;exact⟨a1,λe=>(b k e).elim a2 (λh=>by omega),Nat.lt_of_lt_of_le a3 r.size⟩
   ·obtain ⟨b1,b2⟩:=hF k hk.1 hk.2
    exact⟨b2,λe=>(b k e).elim (λh=>hr2 k h b1) (λh=>by have:=hk.2;omega),Nat.lt_of_lt_of_le hk.2 r.size⟩
  ·intro i j k H S hk m
   simp only[List.length_append,List.length_singleton] at H S;split at hk<;>split at m
   ·exact hd i j k (by assumption) (by assumption) hk m
   ·exact absurd (hF k m.1 m.2).1 (L i k (by assumption) hk)
   ·exact absurd (hF k hk.1 hk.2).1 (L j k (by assumption) m)
   ·omega
  ·intro i H
   simp only[List.length_append,List.length_singleton] at H;by_cases g:i<xs.length
   ·rw [gt_append_left _ _ _ (by omega),gt_append_left _ _ _ g]
    simp only[if_pos g];exact rdRows.mono (X i g) (λk hk l=>⟨hk,Nat.lt_of_lt_of_le l r.size,r.block k l (λe=>(R i k g hk).2.1 e.symm)⟩)
   ·have M:i=xs.length:=by omega
    subst M;rw[gt_concat,<-p,gt_concat];simp only[p,Nat.lt_irrefl,if_false];exact rdRows.mono N (λk hk l=>⟨⟨hk,l⟩,Nat.lt_of_lt_of_le l r.size,r.block k l (λe=>hr2 k e.symm (hF k hk l).1)⟩)
  ·intro i k H hk ha
   obtain⟨c1,c2⟩:=D k ha;split at hk
   ·rename_i g;exact L i k g hk c1
   ·exact c2 hk.1
  ·intro k hk ha
   obtain⟨c1,_⟩:=D k ha;rcases b k hk with h|h
   ·exact hr2 k h c1
   ·have:=J k c1;omega
end Go.Proofs.YtdcobapnlpeaaaaGreat
