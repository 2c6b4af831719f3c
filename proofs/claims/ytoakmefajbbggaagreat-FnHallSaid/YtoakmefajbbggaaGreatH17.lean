/- Merged from templates. -/
import Derived.Test.YtoakmefajbbggaaGreatH16
import Derived.Laws.BitsAllLaws
import Derived.Carry
import Derived.Deep.Slices
import Derived.ChangeSame
import Derived.ChangeSlices
import Derived.JoinedOf
import Derived.JoinedAt
import Derived.JoinedCond
import Derived.ReadAgain
set_option maxRecDepth 100000
set_option maxHeartbeats 8000000
namespace Go.Proofs.YtoakmefajbbggaaGreat
open Go.RowKit
theorem seqOk_subB' {P:Pr}(G:Grp P) {u:List (List Int)}(a:SubB P u):SeqOk P u:=by
 have h:=(G.seq_facts (G.subB a)).1;have e:cseq P (genP P λx=>x∈u)=u:=a.2.symm;rw[e] at h;exact h
theorem prSet_prime {pr:List Int}(h:PrSet pr) {i:Nat}(a:i<pr.length):∃p:Nat,gt pr i=(p:Int)/\(p=2\/p=3\/p=5\/p=7):=by
 have:=primeB_true.1 (h i a).1;exact⟨(gt pr i).toNat,by omega,by omega⟩
theorem prSet_lt {pr:List Int}(h:PrSet pr):∀j i,j<i->i<pr.length->gt pr j<gt pr i
 | j,0,b,_=>by omega
 | j, i+1,b,e=>by
  have h1:=(h (i+1) e).2 (by omega);rw[Nat.add_sub_cancel] at h1;rcases Nat.lt_succ_iff_lt_or_eq.1 b with a|a
  ·have:=prSet_lt h j i a (by omega)
   omega
  ·subst a;exact h1
theorem l20Part_ok (P:Pr) (G:Grp P) (pr:List Int) (C:PrSet pr) (Q:Nat->Prop) (w:World) (v:Value) (S:Nat->Prop) (T:Ints S w v pr) :
  Calls Tryz.prog 231 #[.int .i64 ((prd P Q P.orders.length 0:Nat):Int),v] w (Ret w λ_ r=>r=.int .i64 ((prd P (λd=>Q d/\gt P.orders d∈pr) P.orders.length 0:Nat):Int)):=by
 have hb:=prd_729 G Q
 have y:∀i,i<pr.length->prd P (λd=>Q d/\gt P.orders d∈pr.take i) P.orders.length 0*prd P (λd=>Q d/\gt P.orders d=gt pr i) P.orders.length 0=prd P (λd=>Q d/\gt P.orders d∈pr.take (i+1)) P.orders.length 0:=λi I=>by
  rw [prd_mul _ _ (λk _ _ h1 D=>by
   obtain⟨j,hj,e⟩:=mem_gt h1.2;rw[List.length_take] at hj;have e2:gt (pr.take i) j=gt pr j:=gt_take (by omega);have:=prSet_lt C j i (by omega) I;rw[e2] at e;have:=D.2;omega)]
  refine prd_congr _ _ (λk _ _ => ?_);rw[take_succ_gt pr i I,List.mem_append,List.mem_singleton];exact⟨λh=>h.elim (λh=>⟨h.1,.inl h.2⟩) (λh=>⟨h.1,.inr h.2⟩),λh=>h.2.elim (λD => .inl ⟨h.1,D⟩) (λD => .inr ⟨h.1,D⟩)⟩
 have J:∀i,1<=prd P (λd=>Q d/\gt P.orders d∈pr.take i) P.orders.length 0/\prd P (λd=>Q d/\gt P.orders d∈pr.take i) P.orders.length 0<=729:=λi=>prd_729 G _;have K:∀i,1<=prd P (λd=>Q d/\gt P.orders d=gt pr i) P.orders.length 0/\prd P (λd=>Q d/\gt P.orders d=gt pr i) P.orders.length 0<=729:=λi=>prd_729 G _
 have z:∀i,i<pr.length->∀p:Nat,gt pr i=(p:Int)->prt p (prd P Q P.orders.length 0)=prd P (λd=>Q d/\gt P.orders d=gt pr i) P.orders.length 0:=λi I p hp=>by
  obtain⟨p2,h1,D⟩:=prSet_prime C I;have:p=p2:=by omega
  subst this;rw[prt_prd G Q D _ _ (Nat.zero_add _)];exact prd_congr _ _ (λk _ _=>by rw[hp])
 have Z:prd P (λd=>Q d/\gt P.orders d∈pr.take 0) P.orders.length 0=1:=by
  rw[List.take_zero]
  have:∀f d,prd P (λd=>Q d/\gt P.orders d∈([]:List Int)) f d=1:=by
   intro f;induction f with
   | zero=>intro d;rfl
   | succ f ih=>intro d;rw[prd,if_neg (λh=>by cases h.2),ih]
  exact this _ _
 obtain⟨n,hn⟩:∃n,n=prd P Q P.orders.length 0:=⟨_,rfl⟩;rw[<-hn] at hb z ⊢;have H:=Lib.hid (And.intro y (And.intro J (And.intro K (And.intro z Z))));clear y J K z Z hn;obtain⟨a,c,rfl,_,_⟩:=T.shape;have HV:=Lib.hid T;clear T;go_enter Tryz.func231,Tryz.ntmps231;go_wp2;go_loopw [5,6] (λov U wr=>∃i o:Nat,ov=.int .i64 (o:Int)/\U=.int .i64 i/\i<=pr.length/\Ext w wr/\Hid (o=prd P (λd=>Q d/\gt P.orders d∈pr.take i) P.orders.length 0)) (λ_ U _=>pr.length-(intOf U).toNat)
 case atStart=>exact⟨0,1,rfl,by go_num,by omega,Ext.refl _,Lib.hid H.out.2.2.2.2.symm⟩
 case round=>
  obtain⟨i,o,rfl,rfl,I,hg,hO⟩:=hrel;by_cases B:i<pr.length
  ·have ab:(i:Int)<pr.length:=by omega
   obtain⟨b,of,hab,_,_,hc⟩:=Ints.at HV.out i B;subst hab;have L:=hg.cell hc (by simp);obtain⟨p,E,hp2⟩:=prSet_prime C B;rw[E] at L;have M:=H.out.2.2.2.1 i B p E;have u:=H.out.1 i B;have V:=H.out.2.1 i;have N:=H.out.2.2.1 i;have A:=H.out.2.1 (i+1);rw[<-u] at A;rw[<-hO.out] at u V A;rw[<-M] at u N A;have l:=l01Part_ok n p (by omega) (by omega) (by omega) (by omega) wr;obtain⟨q,hq⟩:∃q,q=prt p n:=⟨_,rfl⟩;rw[<-hq] at u N A l;have W:(o:Int)*(q:Int)=((o*q:Nat):Int):=(Int.natCast_mul o q).symm;have HS:=Lib.hid (And.intro u A);clear u M hq hc E;obtain⟨F,m⟩:∃F,F=o*q:=⟨_,rfl⟩;rw[<-m] at W;have O:1<=F/\F<=729:=by rw[m];exact HS.out.2
   have X:=w64n F (Nat.le_trans O.2 (by decide));have am:=i64n F (Nat.le_trans O.2 (by decide));have HQ:=Lib.hid m;clear m;go_wp2_with fail
   refine Calls.mono l ?_;rintro e1 w1 ⟨v1,rfl,hg1,rfl⟩;clear l L;go_wp2;go_roundw
   case rel=>exact⟨i+1,F,by first|rfl|exact congrArg (Value.int .i64) X,by go_num,by omega,grown_trans hg hg1,Lib.hid (by rw[HQ.out];exact HS.out.1)⟩
   case measure=>simp[intOf];omega
  ·have R:i=pr.length:=by omega
   have ao:¬(i:Int)<pr.length:=by omega
   have Y:=hO.out;rw[R,List.take_of_length_le (Nat.le_refl _)] at Y;have HO:=Lib.hid Y;clear Y hO R;go_wp2;go_ret;refine⟨_,rfl,hg,?_⟩;show Value.int .i64 (o:Int)=_
   rw[HO.out]
def FdI {P:Pr}(G:Grp P) (pr:List Int) (U U':List (List Int)) (t:Nat) (g:Bool):Prop:=
 SubB P U'/\prodU P U' U'.length∣hallO P pr/\(g=true->prodU P U U.length<prodU P U' U'.length)/\(g=false->U'=U/\∀j,j<t->¬Usable G pr U j)
set_option maxHeartbeats 16000000 in
set_option linter.unusedSimpArgs false in
theorem l20Found_ok (P:Pr) (G:Grp P) (pr:List Int) (a9:PrSet pr) (w:World) (pv v:Value) (Sp S:Nat->Prop) (b0:PresV Sp w pv P) (hv:Ints S w v pr) :
  Calls Tryz.prog 184 #[pv,v] w (Ret w λw' r=>∃U,HallP P pr U/\Rows2 Any w' r U):=by
 have hP:=G.v;have bp:=hP.n6;have bq:ordP P<=729:=hP.le729;have br:=hP.ordP_pos;obtain⟨vo,vp,vc,rfl,h3⟩:=b0;have bs:=PresP.box h3 28;have a':Ext w (w.alloc (.cells #[vo,vp,vc] 28)):=World.grownBy_alloc _ _ _;obtain⟨ar,vp6,vc6,_,_,C,y,A,h36⟩:=bs.at;simp only[Nat.zero_add] at y A;have ba:=Ints.ext hv a';obtain⟨av,cv,rfl,_,_⟩:=hv.shape;have bt:∀w',Ext (w.alloc (.cells #[vo,vp,vc] 28)) w'->w'.cell? ⟨w.heap.size,0,none⟩=some ar/\w'.cell? ⟨w.heap.size,1,none⟩=some vp6/\w'.cell? ⟨w.heap.size,2,none⟩=some vc6:=λw' h=>⟨h.cell C (by simp),h.cell y (by simp),h.cell A (by simp)⟩;have HB:=Lib.hid bt;clear bt bs hv;have bu:=Lib.hid G.subB_nil;obtain⟨N,hN⟩:∃N,N=(ordP P).toNat:=⟨_,rfl⟩;have b2:N<=729:=by omega
 have aA:ordP P=(N:Int):=by omega
 have HN:=Lib.hid (And.intro hN aA);clear hN br bq aA;have aV:=hall_pos G pr;have aB:=λw' v' (b3:Ints Any w' v' pr)=>l20Part_ok P G pr a9 (λ_=>True) w' v' Any b3
 have aC:((prd P (λd=>True/\gt P.orders d∈pr) P.orders.length 0:Nat):Int)=hallO P pr:=by
  rw[hallO_eq G];congr 1
  exact prd_congr _ _ (λk _ _=>⟨λh=>h.2,λh=>⟨trivial,h⟩⟩)
 rw[aC] at aB;rw[prd_all G,HN.out.2] at aB;obtain⟨E,af⟩:∃E,E=hallO P pr:=⟨_,rfl⟩;rw[<-af] at aB aV;have HW:=Lib.hid (And.intro af aB);clear af aC aB;go_enter Tryz.func184,Tryz.ntmps184;obtain⟨C,y,A⟩:=HB.out _ (Ext.refl _);have aZ:∀(W:World) (a:Addr),Rows2 Any W (.slice (some a) 0 0) []:=λW a=>⟨some a,0,rfl,⟨by simp,by simp,λh=>by cases h⟩,λi hi=>by simp at hi⟩;have HZ:=Lib.hid aZ;clear aZ;go_wp2_with fail
 clear C y A;generalize b4:w.alloc (.cells #[vo,vp,vc] 28)=w0 at *;clear b4;have bw:Ext w0 (w0.alloc (.cells #[] 24)):=World.grownBy_alloc _ _ _;generalize b5:w0.alloc (.cells #[] 24)=w1 at *;clear b5;refine Calls.mono (l10Order_ok w1 (.agg #[vo,vp,vc]) P Sp hP ⟨_,_,_,rfl,Pres3.ext h3 (grown_trans a' bw)⟩) ?_;rintro e2 w2 ⟨v2,rfl,hg2,rfl⟩;rw[HN.out.2];have a0:=grown_trans bw hg2;go_wp2_with fail
 refine Calls.mono (HW.out.2 w2 _ (Ints.sub (Ints.ext ba a0) (λ_ _ _=>trivial))) ?_;rintro e3 w3 ⟨v3,rfl,hg3,rfl⟩;have bx:=grown_trans a0 hg3;go_wp2;go_loopg [5] ((E-1).toNat) (λgk uv wr=>∃U:List (List Int),gk=(E-prodU P U U.length).toNat/\Ext w3 wr/\Rows2 Any wr uv U/\Hid (SubB P U/\prodU P U U.length∣hallO P pr))
 case atStart=>exact⟨[],rfl,Ext.refl _,HZ.out _ _,Lib.hid ⟨bu.out,Int.one_dvd _⟩⟩
 case round=>
  obtain⟨U,bc,hg,hU,hS⟩:=hrel;have bd:=grown_trans bx hg;have cC:=G.sub_len hS.out.1;have aD:=seqOk_subB' G hS.out.1;have bz:=G.ord_pos hS.out.1;have a1:prodU P U U.length<=E:=by rw[HW.out.1];exact dvd_le hS.out.2 (by rw[<-HW.out.1];exact aV.1)
  obtain⟨ua,uc,huv,_,_⟩:=Sl.shape hU;subst huv;have be:=l12Order_ok P hP wr (.agg #[ar,vp6,vc6]) _ U Any Any ⟨_,_,_,rfl,Pres3.ext h36 bd⟩ hU aD (by omega);obtain⟨s,hs⟩:∃s,s=prodU P U U.length:=⟨_,rfl⟩;rw[<-hs] at bz a1 be bc;have bf:=Lib.hid (And.intro hs aD);clear hs aD;have bA:=Lib.hid bc;clear bc;obtain⟨C,y,A⟩:=HB.out wr bd;go_wp2_with fail
  clear C y A;refine Calls.mono be ?_;rintro e4 w4 ⟨v4,rfl,hg4,rfl⟩;clear be;have a2:=grown_trans bd hg4;have bB:=grown_trans hg hg4;have bC:=Rows2.ext hU hg4;clear hU;by_cases ab:s<E
  ·have bD:FdI G pr U U 0 false:=⟨hS.out.1,hS.out.2,λh=>(by cases h),λ_=>⟨rfl,λj hj=>by omega⟩⟩
   have bE:=Lib.hid bD;clear bD;obtain⟨U0,hU0⟩:∃U0,U0=U:=⟨_,rfl⟩;have b8:=Lib.hid hU0;clear hU0;go_wp2;go_loopw [5,7,8] (λuv gv tv wr=>∃(t:Nat) (U':List (List Int)) (g:Bool),tv=.int .i64 t/\gv=.bool g/\t<=N/\Ext w4 wr/\Rows2 Any wr uv U'/\Hid (FdI G pr U U' t g)) (λ_ _ tv _=>N-(intOf tv).toNat)
   case atStart=>exact⟨0,U,false,by go_num,rfl,by omega,Ext.refl _,bC,bE⟩
   case round=>
    obtain⟨t,U',g,rfl,rfl,ht,ah,hU,hI⟩:=hrel;have l:=grown_trans a2 ah;have cn:=G.sub_len hI.out.1;obtain⟨xa,xc,hxv,_,_⟩:=Sl.shape hU;subst hxv;have au:=l10Order_ok wr (.agg #[ar,vp6,vc6]) P Any hP ⟨_,_,_,rfl,Pres3.ext h36 l⟩;rw[HN.out.2] at au;obtain⟨C,y,A⟩:=HB.out wr l;by_cases bg:t<N/\g=false
    ·obtain ⟨bF,rfl⟩:=bg
     have bG:(t:Int)<N:=by omega
     have bH:t<(ordP P).toNat:=by rw[<-HN.out.1];exact bF
     have ai:Vec P.orders (elAt P (t:Int)):=G.elAtV bH;obtain⟨aE,hnu⟩:=hI.out.2.2.2 rfl
     have aF:¬Usable G pr U' t->FdI G pr U U' (t+1) false:=λh=>⟨hI.out.1,hI.out.2.1,λh=>(by cases h),λ_=>⟨aE,λj hj=>(by
      rcases Nat.lt_succ_iff_lt_or_eq.1 hj with h3|h3
      ·exact hnu j h3
      ·subst h3;rw[<-aE];exact h)⟩⟩
     have bI:GrI G pr U U' t:=⟨hI.out.1,hI.out.2.1,.inr ⟨aE,hnu⟩⟩
     have Y:¬gP P U' (elAt P (t:Int))->prodU P (cseq P (extP P (gP P U') (elAt P (t:Int)))) (cseq P (extP P (gP P U') (elAt P (t:Int)))).length∣hallO P pr->FdI G pr U (cseq P (extP P (gP P U') (elAt P (t:Int)))) (t+1) true:=λh1 h2=>by
      have h3:=bI.take bH h1 h2;refine⟨h3.sub,h3.dv,λ_ => ?_,λh=>(by cases h)⟩;rcases h3.up with h4|⟨h4,_⟩
      ·exact h4
      ·exfalso
       apply h1;rw[<-aE] at h4;have h5:gP P (cseq P (extP P (gP P U') (elAt P (t:Int))))=extP P (gP P U') (elAt P (t:Int)):=G.genP_cseq (ext_sub G hI.out.1 ai);rw[h4] at h5;rw[h5];exact genP_mem (.inr rfl)
     have aW:Usable G pr U' t=(¬gP P U' (elAt P (t:Int))/\prodU P (cseq P (extP P (gP P U') (elAt P (t:Int)))) (cseq P (extP P (gP P U') (elAt P (t:Int)))).length∣hallO P pr /\
      ∀d,pv (toE G (cycP P (elAt P (t:Int)))) d->gt P.orders d∈pr):=rfl
     have hE:=ext_sub G hI.out.1 ai;have bK:=λ(w':World) (h:Ext wr w')=>l10At_ok P hP w' (.agg #[ar,vp6,vc6]) (t:Int) Any ⟨_,_,_,rfl,Pres3.ext h36 (grown_trans l h)⟩ (by omega) (by omega)
     have aG:=λ(w':World) (h:Ext wr w') (xv:Value) (hx:Ints Any w' xv (elAt P (t:Int)))=>l12Has_ok P G w' (.agg #[ar,vp6,vc6]) (.slice xa U'.length xc) xv (gP P U') (elAt P (t:Int)) Any Any Any (G.subB hI.out.1) ⟨_,_,_,rfl,Pres3.ext h36 (grown_trans l h)⟩ (by
      have e:cseq P (gP P U')=U':=hI.out.1.2.symm;rw[e];exact Rows2.ext hU h) hx ai
     obtain⟨X,bh⟩:∃X,X=elAt P (t:Int):=⟨_,rfl⟩;obtain⟨D,am⟩:∃D,D=cseq P (extP P (gP P U') X):=⟨_,rfl⟩;rw[<-bh] at ai hE Y aW aG;rw[<-am] at Y aW;have bL:SubB P D:=by rw[am];exact G.subB_cseq hE
     have bM:cseq P (genP P (λz=>z∈U'++[X]))=D:=by rw[genP_snoc,am]
     have cH:X.length<=6:=by rw[ai.1];exact bp
     have a3:∀z∈U',z.length<=6:=λz hz=>by rw[(hI.out.1.1 z hz).1];exact bp
     have aH:∀z∈U',Vec P.orders z:=hI.out.1.1;have u:=Lib.hid (And.intro aF (And.intro Y (And.intro aW (And.intro bL (And.intro bM (And.intro aG (And.intro ai (And.intro bK (And.intro a3 (And.intro aH bh))))))))));clear aF Y aW bL bM aG ai hE am bK a3 aH bI hnu aE bh;have b':=Lib.hid au;go_wp2_with fail
     clear C y A;refine Calls.mono au ?_;rintro e5 w5 ⟨v5,rfl,L,rfl⟩;clear au;have a4:=u.out.2.2.2.2.2.2.2.1 w5 L;obtain⟨C,y,A⟩:=HB.out w5 (grown_trans l L);go_wp2_with fail
     clear C y A;refine Calls.mono a4 ?_;rintro e6 w6 ⟨v6,rfl,hg6,bj⟩;clear a4;rw[<-u.out.2.2.2.2.2.2.2.2.2.2] at bj;have aY:Ints Any w6 v6 X:=bj.ints (by omega);obtain⟨ax,cx,hvx,_,_⟩:=aY.shape;subst hvx;have ap:=grown_trans L hg6;have bN:=u.out.2.2.2.2.2.1 w6 ap _ aY;obtain⟨C,y,A⟩:=HB.out w6 (grown_trans l ap);go_wp2_with fail
     clear C y A;refine Calls.mono bN ?_;rintro e7 w7 ⟨v7,rfl,J,r,rfl,hr⟩;clear bN;have aq:=grown_trans ap J;have M:=grown_trans ah aq;have bk:=Rows2.ext hU aq;have bO:=Ints.ext aY J;have O:=grown_trans l aq;clear hU aY bj;cases r with
     | true=>
      have I:=u.out.1 (by rw[u.out.2.2.1];intro h;exact h.1 (hr.1 rfl));have Z:=Lib.hid I;clear I hr;go_wp2;go_roundw
      case rel=>exact⟨t+1,U',false,by go_num,rfl,by omega,M,bk,Z⟩
      case measure=>simp[intOf];omega
     | false=>
      have bP:¬gP P U' X:=λh=>by have:=hr.2 h;cases this
      have cd:=G.sub_len u.out.2.2.2.1;have bQ:=seqOk_subB' G u.out.2.2.2.1;have aA:=G.ord_pos u.out.2.2.2.1
      have aJ:∀z∈U'++[X],Vec P.orders z:=λz hz=>by
       rcases List.mem_append.1 hz with h|h
       ·exact u.out.2.2.2.2.2.2.2.2.2.1 z h
       ·rw[List.mem_singleton.1 h];exact u.out.2.2.2.2.2.2.1
      have aK:(U'++[X]).length<=10000:=by rw[List.length_append,List.length_singleton];omega
      have bR:prodU P D D.length∣hallO P pr->FdI G pr U D (t+1) true:=λh=>u.out.2.1 bP h;have bS:¬prodU P D D.length∣hallO P pr->FdI G pr U U' (t+1) false:=λh=>u.out.1 (by rw[u.out.2.2.1];intro hh;exact h hh.2.1);have heq:=ordU G u.out.2.2.2.1
      have K:((prd P (λd=>pvU G D d/\gt P.orders d∈pr) P.orders.length 0:Nat):Int)=prodU P D D.length↔prodU P D D.length∣hallO P pr:=by
       rw[pi_iff G u.out.2.2.2.1,heq,Int.natCast_inj];exact prd_eq_iff G _ _ (λd hd=>hd.1)
      have V:=Lib.hid (And.intro aJ (And.intro aK (And.intro u.out.2.2.2.2.1 (And.intro (show D.length<=100 by omega) (And.intro bQ (And.intro (And.intro bR bS) (And.intro (And.intro trivial (And.intro heq K)) (And.intro aA u.out.2.2.2.2.2.2.2.2.1))))))));clear aJ aK cd bQ aA bR bS hr bP heq K;have f1:∀w',Ext w7 w'->w'.cell? ⟨w.heap.size,0,none⟩=some ar:=λw' h=>(HB.out w' (grown_trans O h)).1;have f2:∀w',Ext w7 w'->w'.cell? ⟨w.heap.size,1,none⟩=some vp6:=λw' h=>(HB.out w' (grown_trans O h)).2.1;have f3:∀w',Ext w7 w'->w'.cell? ⟨w.heap.size,2,none⟩=some vc6:=λw' h=>(HB.out w' (grown_trans O h)).2.2;clear ah l L hg6 J ap aq b';clear u;go_wp2;generalize w7=wr at *;have ah:=M;have l:=O;have hU:=bk;have hX:=bO;clear M O bk bO;clear b8 bE;refine wp_region_held_drew (S:=λw'=>Ext wr w') (by kernel_rfl) (grown_drew _ _) (λB => ?_);refine tk 0 ?_;refine tk 1 ?_;refine tk 3 ?_;refine rd2 2 4 (λKc m => ?_) (λKc m => ?_)
      ·go_simp
       go_at_call 183;refine Calls.mono (l01Own2_ok wr.drew _ U' Any (Rows2.ext hU (grown_drew wr none)) (λz hz=>by have:=V.out.2.2.2.2.2.2.2.2 z hz;omega) (by omega)) ?_;rintro eC wC ⟨vC,rfl,aw,hOC⟩;have aa:=SlO.shq (bad:=λ_=>False) hOC (λ_ h=>h.elim);have F:Ext wr wC:=grown_trans (grown_drew wr none) aw;obtain⟨ca,cc,hcv,_⟩:=aa.shape;subst hcv;go_wp2_with fail
       refine ko m ?_ (λB => ?_)
       ·exact F
       clear m Kc;refine rd1 4 (λKc m => ?_);go_simp;refine ko m ?_ (λB => ?_)
       ·exact grown_trans F (World.grownBy_alloc _ _ _)
       clear m Kc;refine rd1 5 (λKc m => ?_);have bl:Ints (λk=>¬(λ_:Nat=>False) k/\(Value.slice ca U'.length cc).ownBlock≠some k) (wC.alloc (.cells #[.slice ax X.length cx] 24)) (.slice ax X.length cx) X:=Ints.mono hX (λk _ ab=>⟨⟨λh=>h,λe=>by have h1:=(aa.lt k e).1;have h2:wr.heap.size<=wr.drew.heap.size:=(grown_drew wr none).size;  omega⟩,Nat.lt_of_lt_of_le ab ((grown_trans F (World.grownBy_alloc wC (.cells #[.slice ax X.length cx] 24) none):Ext wr (wC.alloc (.cells #[.slice ax X.length cx] 24)))).size,((grown_trans F (World.grownBy_alloc wC (.cells #[.slice ax X.length cx] 24) none):Ext wr (wC.alloc (.cells #[.slice ax X.length cx] 24)))).block k ab (by simp)⟩);refine step_shq_app2 rfl _ _ rfl (λ_=>False) wr.drew.heap.size _ (Value.slice ca U'.length cc) _ U' X rfl (aa.ext (World.grownBy_alloc _ _ _)) bl rfl (by rw[World.cell?_alloc_at _ _ _ _ rfl];rfl) (by omega) (Nat.le_trans aw.size (World.grownBy_alloc wC _ none).size) ?_;intro v5 w5 aL L;have Q:Ext wr w5:=grown_own ((grown_trans F (World.grownBy_alloc wC (.cells #[.slice ax X.length cx] 24) none):Ext wr (wC.alloc (.cells #[.slice ax X.length cx] 24)))) L (λb hb ab=>by have h1:=(aa.lt b hb).1;have h2:wr.heap.size<=wr.drew.heap.size:=(grown_drew wr none).size;  omega);have bm:=aL.rows;obtain⟨da,dc,H,_⟩:=aL.shape;have ad:(U'++[X]).length=U'.length+1:=by simp
       rw[ad] at H;clear ad;subst H;refine ko m ?_ (λB => ?_)
       ·exact Q
       clear m Kc;refine rd1 6 (λKc m => ?_);go_simp;go_at_call 214;refine Calls.mono (l12Close_ok P G w5 _ _ (U'++[X]) Any Any ⟨_,_,_,rfl,Pres3.ext h36 (grown_trans l Q)⟩ bm V.out.1 V.out.2.1) ?_;rintro e6 w6 ⟨v6,rfl,hg6,aM⟩;have q:=grown_trans Q hg6;rw[V.out.2.2.1] at aM;have ak:Rows2 Any w6 v6 D:=aM;obtain⟨ga,gc,hgv,_,_⟩:=Sl.shape ak;subst hgv;go_wp2_with fail
       refine ko m ?_ (λB => ?_)
       ·exact q
       clear m Kc;refine tk 7 ?_;refine wpAnyH_done (by kernel_rfl) ?_ _;clear f1 f2 f3;obtain⟨C,y,A⟩:=HB.out w6 (grown_trans l q);go_wp2_with fail
       clear C y A;refine Calls.mono (l12Order_ok P hP w6 _ _ D Any Any ⟨_,_,_,rfl,Pres3.ext h36 (grown_trans l q)⟩ ak V.out.2.2.2.2.1 V.out.2.2.2.1) ?_;rintro e7 w7 ⟨v7,rfl,J,rfl⟩;have M:=grown_trans ah (grown_trans q J);have aN:=Rows2.ext ak J;have p:=l20Part_ok P G pr a9 (pvU G D) w7 _ S (Ints.ext ba (grown_trans (grown_trans l q) J));rw[<-V.out.2.2.2.2.2.2.1.2.1] at p;obtain⟨s2,R⟩:∃s2,s2=prodU P D D.length:=⟨_,rfl⟩;rw[<-R] at p ⊢;obtain⟨s3,T⟩:∃s3,s3=((prd P (λd=>pvU G D d/\gt P.orders d∈pr) P.orders.length 0:Nat):Int):=⟨_,rfl⟩;rw[<-T] at p;have K:s3=s2↔prodU P D D.length∣hallO P pr:=by rw[T,R];exact V.out.2.2.2.2.2.2.1.2.2
       have aQ:=Lib.hid K;clear K R T;go_wp2_with fail
       refine Calls.mono p ?_;rintro e8 w8 ⟨v8,rfl,al,rfl⟩;clear p;have ae:=grown_trans M al;by_cases H:s3=s2
       ·have I:=V.out.2.2.2.2.2.1.1 (aQ.out.1 H)
        have Z:=Lib.hid I;clear I;have aR:=Rows2.ext aN al;go_wp2;go_roundw
        case rel=>exact⟨t+1,D,true,by go_num,rfl,by omega,ae,aR,Z⟩
        case measure=>simp[intOf];omega
       ·have I:=V.out.2.2.2.2.2.1.2 (λh=>H (aQ.out.2 h))
        have Z:=Lib.hid I;clear I;have cf:(s3 == s2)=false:=by simpa using H
        have bn:=Rows2.ext hU (grown_trans q (grown_trans J al));clear H;go_wp2;go_roundw
        case rel=>exact⟨t+1,U',false,by go_num,rfl,by omega,ae,bn,Z⟩
        case measure=>simp[intOf];omega
      ·go_simp
       have aS:Ext wr (wr.drew.alloc (.cells #[.slice ax X.length cx] 24)):=grown_trans (grown_drew _ _) (World.grownBy_alloc _ _ _);have cg:(wr.drew.alloc (.cells #[.slice ax X.length cx] 24)).cell? ⟨wr.drew.heap.size,0,none⟩=some (.slice ax X.length cx):=by rw[World.cell?_alloc_at _ _ _ _ rfl];rfl
       refine ko m ?_ (λB => ?_)
       ·exact aS
       clear m Kc;refine rd1 2 (λKc m => ?_);go_simp;go_at_call 183;refine Calls.mono (l01Own2_ok (wr.drew.alloc (.cells #[.slice ax X.length cx] 24)) _ U' Any (Rows2.ext hU aS) (λz hz=>by have:=V.out.2.2.2.2.2.2.2.2 z hz;omega) (by omega)) ?_;rintro eC wC ⟨vC,rfl,aw,hOC⟩;have aa:=SlO.shq (bad:=λ_=>False) hOC (λ_ h=>h.elim);have F:Ext wr wC:=grown_trans aS aw;obtain⟨ca,cc,hcv,_⟩:=aa.shape;subst hcv;go_wp2_with fail
       refine ko m ?_ (λB => ?_)
       ·exact F
       clear m Kc;refine rd1 5 (λKc m => ?_);have bl:Ints (λk=>¬(λ_:Nat=>False) k/\(Value.slice ca U'.length cc).ownBlock≠some k) (wC) (.slice ax X.length cx) X:=Ints.mono hX (λk _ ab=>⟨⟨λh=>h,λe=>by have h1:=(aa.lt k e).1;have h2:wr.heap.size<=wr.drew.heap.size:=(grown_drew wr none).size;have h3:=aS.size;omega⟩,Nat.lt_of_lt_of_le ab (F).size,(F).block k ab (by simp)⟩);refine step_shq_app2 rfl _ _ rfl (λ_=>False) (wr.drew.alloc (.cells #[.slice ax X.length cx] 24)).heap.size _ (Value.slice ca U'.length cc) _ U' X rfl aa bl rfl (aw.cell cg (by simp)) (by omega) (aw.size) ?_;intro v5 w5 aL L;have Q:Ext wr w5:=grown_own (F) L (λb hb ab=>by have h1:=(aa.lt b hb).1;have h2:wr.heap.size<=wr.drew.heap.size:=(grown_drew wr none).size;have h3:=aS.size;omega);have bm:=aL.rows;obtain⟨da,dc,H,_⟩:=aL.shape;have ad:(U'++[X]).length=U'.length+1:=by simp
       rw[ad] at H;clear ad;subst H;refine ko m ?_ (λB => ?_)
       ·exact Q
       clear m Kc;refine rd1 6 (λKc m => ?_);go_simp;go_at_call 214;refine Calls.mono (l12Close_ok P G w5 _ _ (U'++[X]) Any Any ⟨_,_,_,rfl,Pres3.ext h36 (grown_trans l Q)⟩ bm V.out.1 V.out.2.1) ?_;rintro e6 w6 ⟨v6,rfl,hg6,aM⟩;have q:=grown_trans Q hg6;rw[V.out.2.2.1] at aM;have ak:Rows2 Any w6 v6 D:=aM;obtain⟨ga,gc,hgv,_,_⟩:=Sl.shape ak;subst hgv;go_wp2_with fail
       refine ko m ?_ (λB => ?_)
       ·exact q
       clear m Kc;refine tk 7 ?_;refine wpAnyH_done (by kernel_rfl) ?_ _;clear f1 f2 f3;obtain⟨C,y,A⟩:=HB.out w6 (grown_trans l q);go_wp2_with fail
       clear C y A;refine Calls.mono (l12Order_ok P hP w6 _ _ D Any Any ⟨_,_,_,rfl,Pres3.ext h36 (grown_trans l q)⟩ ak V.out.2.2.2.2.1 V.out.2.2.2.1) ?_;rintro e7 w7 ⟨v7,rfl,J,rfl⟩;have M:=grown_trans ah (grown_trans q J);have aN:=Rows2.ext ak J;have p:=l20Part_ok P G pr a9 (pvU G D) w7 _ S (Ints.ext ba (grown_trans (grown_trans l q) J));rw[<-V.out.2.2.2.2.2.2.1.2.1] at p;obtain⟨s2,R⟩:∃s2,s2=prodU P D D.length:=⟨_,rfl⟩;rw[<-R] at p ⊢;obtain⟨s3,T⟩:∃s3,s3=((prd P (λd=>pvU G D d/\gt P.orders d∈pr) P.orders.length 0:Nat):Int):=⟨_,rfl⟩;rw[<-T] at p;have K:s3=s2↔prodU P D D.length∣hallO P pr:=by rw[T,R];exact V.out.2.2.2.2.2.2.1.2.2
       have aQ:=Lib.hid K;clear K R T;go_wp2_with fail
       refine Calls.mono p ?_;rintro e8 w8 ⟨v8,rfl,al,rfl⟩;clear p;have ae:=grown_trans M al;by_cases H:s3=s2
       ·have I:=V.out.2.2.2.2.2.1.1 (aQ.out.1 H)
        have Z:=Lib.hid I;clear I;have aR:=Rows2.ext aN al;go_wp2;go_roundw
        case rel=>exact⟨t+1,D,true,by go_num,rfl,by omega,ae,aR,Z⟩
        case measure=>simp[intOf];omega
       ·have I:=V.out.2.2.2.2.2.1.2 (λh=>H (aQ.out.2 h))
        have Z:=Lib.hid I;clear I;have cf:(s3 == s2)=false:=by simpa using H
        have bn:=Rows2.ext hU (grown_trans q (grown_trans J al));clear H;go_wp2;go_roundw
        case rel=>exact⟨t+1,U',false,by go_num,rfl,by omega,ae,bn,Z⟩
        case measure=>simp[intOf];omega
    ·cases g with
     | false=>
      exfalso
      have ch:t=N:=by
       rcases Nat.lt_or_ge t N with h|h
       ·exact absurd ⟨h,rfl⟩ bg
       ·omega
      obtain⟨j,hj,hjU⟩:=hall_use G pr hS.out.1 hS.out.2 (by rw[<-bf.out.1,<-HW.out.1];omega);exact(hI.out.2.2.2 rfl).2 j (by rw[ch,HN.out.1];exact hj) hjU
     | true=>
      have bo:=hI.out.2.2.1 rfl;rw[<-bf.out.1] at bo;have a6:prodU P U' U'.length<=E:=by rw[HW.out.1];exact dvd_le hI.out.2.1 (by rw[<-HW.out.1];exact aV.1)
      have HE:=Lib.hid (And.intro bo (And.intro a6 (And.intro hI.out.1 hI.out.2.1)));clear bo a6 bg;go_wp2_with fail
      clear C y A;refine Calls.mono au ?_;rintro e5 w5 ⟨v5,rfl,L,rfl⟩;clear au;have bV:=Rows2.ext hU L;have a8:=grown_trans bB (grown_trans ah L);by_cases bF:t<N
      ·have bG:(t:Int)<N:=by omega
       go_wp2;go_roundg ((E-prodU P U' U'.length).toNat)
       case rel=>exact⟨U',rfl,a8,bV,Lib.hid ⟨HE.out.2.2.1,HE.out.2.2.2⟩⟩
       case measure=>have:=HE.out.1;have:=HE.out.2.1;have:=bA.out;omega
      ·have cS:¬(t:Int)<N:=by omega
       go_wp2;go_roundg ((E-prodU P U' U'.length).toNat)
       case rel=>exact⟨U',rfl,a8,bV,Lib.hid ⟨HE.out.2.2.1,HE.out.2.2.2⟩⟩
       case measure=>have:=HE.out.1;have:=HE.out.2.1;have:=bA.out;omega
  ·have bW:s=E:=by omega
   have aT:HallP P pr U:=⟨hS.out.1,by rw[<-bf.out.1,bW,HW.out.1]⟩;have HH:=Lib.hid aT;clear aT bW aV bz a1;go_wp2;go_ret;exact⟨_,rfl,grown_trans a' a2,U,HH.out,bC⟩
theorem l20All_ok (P:Pr) (G:Grp P) (pr:List Int) (al:PrSet pr) (w:World) (pv v:Value) (Sp S:Nat->Prop) (am:PresV Sp w pv P) (hv:Ints S w v pr) :
  Calls Tryz.prog 106 #[pv,v] w (Ret w λw' r=>∃L,HallL P pr L/\L.length<=729/\Rows3 Any w' r L):=by
 have hP:=G.v;have ao:=hP.n6;have F:ordP P<=729:=hP.le729;have H:=hP.ordP_pos;obtain⟨vo,vp,vc,rfl,I⟩:=am;have J:=PresP.box I 28;have K:Ext w (w.alloc (.cells #[vo,vp,vc] 28)):=World.grownBy_alloc _ _ _;obtain⟨e,vp6,vc6,_,_,q,k,l,h36⟩:=J.at;simp only[Nat.zero_add] at k l;have M:∀w',Ext (w.alloc (.cells #[vo,vp,vc] 28)) w'->w'.cell? ⟨w.heap.size,0,none⟩=some e/\w'.cell? ⟨w.heap.size,1,none⟩=some vp6/\w'.cell? ⟨w.heap.size,2,none⟩=some vc6:=λw' h=>⟨h.cell q (by simp),h.cell k (by simp),h.cell l (by simp)⟩;have HB:=Lib.hid M;clear M J;have O:=l20Found_ok P G pr al _ (.agg #[e,vp6,vc6]) v Any S ⟨_,_,_,rfl,h36⟩ (Ints.ext hv K);obtain⟨av,cv,rfl,_,_⟩:=hv.shape;obtain⟨N,hN⟩:∃N,N=(ordP P).toNat:=⟨_,rfl⟩;have ap:N<=729:=by omega
 have Q:ordP P=(N:Int):=by omega
 have HN:=Lib.hid (And.intro hN Q);clear hN H F Q hv;have A:∀(W:World) (a:Addr),Rows3 Any W (.slice (some a) 0 0) []:=λW a=>⟨some a,0,rfl,⟨by simp,by simp,λh=>by cases h⟩,λi hi=>by simp at hi⟩;have HZ:=Lib.hid A;clear A;go_enter Tryz.func106,Tryz.ntmps106;go_wp2_with fail
 clear q k l;generalize ar:w.alloc (.cells #[vo,vp,vc] 28)=w0 at *;clear ar;refine Calls.mono O ?_;rintro e1 w1 ⟨v1,rfl,hg1,U,hHall,hU⟩;clear O;obtain⟨ua,uc,huv,_,_⟩:=Sl.shape hU;subst huv;have aK:=G.sub_len hHall.1;have HH:=Lib.hid hHall;clear hHall;go_wp2;go_loopw [6,7] (λov tv wr=>∃(t:Nat) (R:List (List (List Int))),tv=.int .i64 t/\t<=N/\Ext w1 wr/\Rows3 Any wr ov R/\Hid (R.Pairwise (subLt P)/\(∀u,u∈R↔∃j,j<t/\u=cjU P U (elAt P (j:Int)))/\R.length<=t)) (λ_ tv _=>N-(intOf tv).toNat)
 case atStart=>exact⟨0,[],by go_num,by omega,World.grownBy_alloc _ _ _,HZ.out _ _,Lib.hid ⟨List.Pairwise.nil,λu=>⟨λh=>(by cases h),λ⟨j,h,_⟩=>(by omega)⟩,Nat.le_refl _⟩⟩
 case round=>
  obtain⟨t,R,rfl,ht,hg,hR,E⟩:=hrel;have m:=grown_trans hg1 hg;obtain⟨ra,rc,hrv,_,_⟩:=Sl.shape hR;subst hrv;have C:=l10Order_ok wr (.agg #[e,vp6,vc6]) P Any hP ⟨_,_,_,rfl,Pres3.ext h36 m⟩;rw[HN.out.2] at C;have aM:=E.out.2.2;obtain⟨q,k,l⟩:=HB.out wr m;go_wp2_with fail
  clear q k l;refine Calls.mono C ?_;rintro e2 p ⟨v2,rfl,y,rfl⟩;clear C;have b:=grown_trans m y;have D:=Rows3.ext hR y;have T:=Rows2.ext (Rows2.ext hU hg) y;by_cases aw:t<N
  ·have aD:(t:Int)<N:=by omega
   have ax:t<(ordP P).toNat:=by rw[<-HN.out.1];exact aw
   have z:Vec P.orders (elAt P (t:Int)):=G.elAtV ax;have f1:∀w',Ext p w'->w'.cell? ⟨w.heap.size,0,none⟩=some e:=λw' h=>(HB.out w' (grown_trans b h)).1;have f2:∀w',Ext p w'->w'.cell? ⟨w.heap.size,1,none⟩=some vp6:=λw' h=>(HB.out w' (grown_trans b h)).2.1;have f3:∀w',Ext p w'->w'.cell? ⟨w.heap.size,2,none⟩=some vc6:=λw' h=>(HB.out w' (grown_trans b h)).2.2;have V:=λ(w':World) (h:Ext p w')=>l10At_ok P hP w' (.agg #[e,vp6,vc6]) (t:Int) Any ⟨_,_,_,rfl,Pres3.ext h36 (grown_trans b h)⟩ (by omega) (by omega);have X:=G.cjU_subB HH.out.1 z;have Y:=λ(w':World) (h:Ext p w') (xv:Value) (hx:Ints Any w' xv (elAt P (t:Int)))=>l13Conj_ok P G w' (.agg #[e,vp6,vc6]) _ xv U (elAt P (t:Int)) Any Any Any ⟨_,_,_,rfl,Pres3.ext h36 (grown_trans b h)⟩ (Rows2.ext T h) HH.out.1.1 (by omega) hx z
   have Z:∀u∈R,SubB P u:=λu hu=>by
    obtain⟨j,hj,rfl⟩:=(E.out.2.1 u).1 hu;exact G.cjU_subB HH.out.1 (G.elAtV (by omega))
   have B:=λ(w':World) (h:Ext p w') (uv:Value) (hu:Rows2 Any w' uv (cjU P U (elAt P (t:Int))))=>l19Insert_ok P G w' (.agg #[e,vp6,vc6]) _ uv R _ Any Any ⟨_,_,_,rfl,Pres3.ext h36 (grown_trans b h)⟩ (Rows3.ext D h) hu Z X E.out.1 (by omega);have aa:(elAt P (t:Int)).length<=6:=by rw[z.1];exact ao
   have HF:=Lib.hid (And.intro V (And.intro Y (And.intro B aa)));clear V Y B X Z z hR T D aa;go_wp2
   go_region_held3 (λw'=>Ext p w') (first|exact grown_drew _ _|exact Ext.refl _|assumption)
    (first
     | (go_at_call 170;refine Calls.mono (Calls.rel (w0:=p) (by assumption) (HF.out.1 _ (by assumption))) ?_;rintro e3 w3 ⟨v3,rfl,hg3,hs3,hOX⟩;have az:Ints Any w3 v3 (elAt P (t:Int)):=hOX.ints (by have:=HF.out.2.2.2;omega))
     | (go_at_call 157;refine Calls.mono (Calls.rel (w0:=p) (by assumption) (HF.out.2.1 _ (by assumption) _ az)) ?_;rintro e4 w4 ⟨v4,rfl,hg4,hs4,ab⟩;obtain⟨ja,jc,hjv,_,_⟩:=Sl.shape ab;subst hjv)
     | (go_at_call 185;refine Calls.mono (Calls.rel (w0:=p) (by assumption) (HF.out.2.2.1 _ (by assumption) _ ab)) ?_;rintro e5 w5 ⟨v5,rfl,aA,hs5,R2,hI1,ad,hI3,hR5⟩))
   clear f1 f2 f3;have ae:Rows3 Any w5 v5 R2:=Rows3.sub hR5 (λ_ _ _=>trivial)
   have af:Hid (R2.Pairwise (subLt P)/\(∀u,u∈R2↔∃j,j<t+1/\u=cjU P U (elAt P (j:Int)))/\R2.length<=t+1):=Lib.hid ⟨hI1,λu=>by
    rw[ad u,E.out.2.1 u];constructor
    ·rintro (⟨j,h1,h2⟩|h1)
     ·exact⟨j,by omega,h2⟩
     ·exact⟨t,by omega,h1⟩
    ·rintro ⟨j,h1,h2⟩
     rcases Nat.lt_succ_iff_lt_or_eq.1 h1 with I|I
     ·exact .inl ⟨j,I,h2⟩
     ·subst I;exact .inr h2,by omega⟩
   clear hI1 ad hI3 hR5;go_wp2;go_roundw
   case rel=>exact⟨t+1,R2,by go_num,by omega,grown_trans hg (grown_trans y aA),ae,af⟩
   case measure=>simp[intOf];omega
  ·have ag:t=N:=by omega
   have aR:¬(t:Int)<N:=by omega
   have ah:HallL P pr R:=⟨E.out.1,λu=>by
    rw[E.out.2.1 u,hall_all G HH.out u,ag,HN.out.1]⟩
   have HL:=Lib.hid ah;clear ah ag;go_wp2;go_ret;exact⟨_,rfl,grown_trans K b,R,HL.out,by omega,D⟩
theorem rows3_nil (w:World):Rows3 Any w (.slice none 0 0) []:=⟨none,0,rfl,⟨by simp,by simp,λ_=>rfl⟩,λi a=>by simp at a⟩
theorem sHs_ok (P:Pr) (w:World) (pv v:Value) (pr:List Int) (R S:Nat->Prop) (F:PresV R w pv P) (M:Ints S w v pr) :
  Calls Tryz.prog 40 #[pv,v] w (Ret w λw' r=>∃a n c,r=.tuple #[.slice a n c,.int .i64 (hcC P pr)]/\Rows3 Any w' (.slice a n c) (hlL P pr)):=by
 obtain⟨vo,vp,vc,rfl,h3⟩:=F;have A:=PresP.box h3 28;have B:Ext w (w.alloc (.cells #[vo,vp,vc] 28)):=World.grownBy_alloc _ _ _;obtain⟨q,vp6,vc6,_,_,j,b,e,h36⟩:=A.at;simp only[Nat.zero_add] at b e;have C:∀w',Ext (w.alloc (.cells #[vo,vp,vc] 28)) w'->w'.cell? ⟨w.heap.size,0,none⟩=some q/\w'.cell? ⟨w.heap.size,1,none⟩=some vp6/\w'.cell? ⟨w.heap.size,2,none⟩=some vc6:=λw' h=>⟨h.cell j (by simp),h.cell b (by simp),h.cell e (by simp)⟩;have T:=Lib.hid C;clear C A;have D:=Ints.ext M B;have i:=l20Code_ok P pr _ (.agg #[q,vp6,vc6]) _ Any S ⟨_,_,_,rfl,h36⟩ D;obtain⟨X,cv,rfl,_,_⟩:=M.shape;go_enter Tryz.func40,Tryz.ntmps40;go_wp2_with fail
 clear j b e;generalize H:w.alloc (.cells #[vo,vp,vc] 28)=w0 at *;clear H;refine Calls.mono i ?_;rintro Y N ⟨v1,rfl,k,rfl⟩;clear i;have l:=grown_trans B k;obtain⟨c,y⟩:∃c,c=hcC P pr:=⟨_,rfl⟩;rw[<-y];by_cases E:c=0
 ·have u:hcC P pr=0:=by rw[<-y];exact E
  have G:=grp_of_r (hc_zero u).1;have z:=Lib.hid (And.intro y u);clear y u;subst E;obtain⟨j,b,e⟩:=T.out N k;have O:=l20All_ok P G pr (hc_zero z.out.2).2.1 N (.agg #[q,vp6,vc6]) _ Any S ⟨_,_,_,rfl,Pres3.ext h36 k⟩ (Ints.ext D k);go_wp2_with fail
  clear j b e;refine Calls.mono O ?_;rintro Z U ⟨v2,rfl,I,L,hL,hLl,hO⟩;clear O;obtain⟨la,lc,hlv,_,_⟩:=Sl.shape hO;subst hlv;have m:=hl_ok z.out.2 hL;have p:=hL.row G;have Q:=Lib.hid (And.intro m p);clear m p hL;go_wp2_with fail
  refine Calls.mono (l19Own_ok U _ L _ hO Q.out.2 (by omega)) ?_;rintro e3 w3 ⟨v3,rfl,J,hR⟩;have K:=hR.toD (by omega);obtain⟨ra,rc,hrv,_,_⟩:=SlD.shape K;subst hrv;have V:=Lib.hid (Rows3D.rows K);clear K hR hO;go_wp2;go_ret2
  exact⟨_,rfl,grown_trans l (grown_trans I J),_,_,_,by rw[<-z.out.1];rfl,by rw[Q.out.1];exact Rows3.sub V.out (λ_ _ _=>trivial)⟩
 ·have W:(c != 0)=true:=by simpa using E
  have z:=Lib.hid y;clear y;go_wp2;go_ret2
  exact⟨_,rfl,l,none,0,0,by rw[<-z.out];rfl,by rw[hl_no (by rw[<-z.out];exact E)];exact rows3_nil _⟩
theorem isSubset_ok (P:Pr) (G:Grp P) (w:World) (p D E:Value) (U:List (List Int)) (H:List Int->Prop) (F I J:Nat->Prop) (S:Sub P H) (K:PresP F w p P) (L:Rows2 I w D U) (M:Rows2 J w E (cseq P H)) (N:∀x∈U,Vec P.orders x) :
  Calls Tryz.prog 81 #[p,D,E] w (Ret w λ_ v=>∃r:Bool,v=.bool r/\(r=true↔∀x∈U,H x)):=by
 obtain⟨pb,po,rfl⟩:=K.shape;obtain⟨W,capu,rfl,_,hul⟩:=Sl.shape L;obtain⟨X,capv,j,_,_⟩:=Sl.shape M;obtain⟨O,a⟩:∃O,O=(cseq P H).length:=⟨_,rfl⟩;rw[<-a] at j;subst j;have T:=Lib.hid N;clear N;have Y:=Lib.hid a;clear a;go_enter Tryz.func81,Tryz.ntmps81;go_wp2;go_loopw [8,11] (λ_ u wr=>∃(i:Nat),u=.int .i64 i/\i<=U.length/\Ext w wr/\Hid (∀k,k<i->H (gt U k))) (λ_ u _=>U.length-(intOf u).toNat)
 case atStart=>exact⟨0,rfl,by omega,grown_refl _ _,Lib.hid (λk hk=>by omega)⟩
 case round=>
  obtain⟨i,rfl,hi,hg,hH⟩:=hrel;by_cases e:i<U.length
  ·obtain ⟨b,off,ax,capx,rfl,hbS,hbl,hcb,hxI⟩:=Rows2.at L i e
   have z:=hg.cell hcb (by simp);have l:=Ints.ext hxI hg;have A:=K.ext hg;have B:=Rows2.ext M hg;have q:Vec P.orders (gt U i):=T.out _ (gt_mem e);have C:(i:Int)<(U.length:Nat):=by omega
   clear hcb hxI;obtain⟨x,hx⟩:∃x,x=gt U i:=⟨_,rfl⟩;rw[<-hx] at z l q;have Q:=Lib.hid hx;clear hx;go_wp2_with fail
   refine Calls.mono (isMember_ok P G wr _ _ _ H x F J I S A B l q) ?_;rintro Z w1 ⟨v1,rfl,hg1,r,rfl,hr⟩;have R:=Lib.hid hr;clear hr;cases r with
   | true=>
    go_wp2;go_roundw
    case rel=>exact⟨i+1,by go_num,by omega,grown_trans hg hg1,Lib.hid (λk hk=>by
     rcases Nat.lt_or_ge k i with h|h
     ·exact hH.out k h
     ·have:k=i:=by omega
      subst this;rw[<-Q.out];have:=R.out;simpa using this)⟩
    case measure=>simp[intOf];omega
   | false=>
    go_wp2;go_ret
    exact ⟨_,rfl,grown_trans hg hg1,false,rfl,by
     constructor
     ·intro h;cases h
     ·intro h
      have:=R.out.2 (by rw[Q.out];exact h _ (gt_mem e));cases this⟩
  ·have V:i=U.length:=by omega
   have C:¬(i:Int)<(U.length:Nat):=by omega
   go_wp2;go_ret
   exact ⟨_,rfl,hg,.inr ⟨rfl,λy hy=>by
    obtain⟨m,hm,rfl⟩:=mem_gt hy;exact hH.out m (by omega)⟩⟩
theorem iSubset_ok (P:Pr) (C:rconsB P=true) (w:World) (pv Q R:Value) (U V:List (List Int)) (Sp S D:Nat->Prop) (E:PresV Sp w pv P) (l:Rows2 S w Q U) (F:Rows2 D w R V) (H:SubB P U) (I:SubB P V) :
  Calls Tryz.prog 47 #[pv,Q,R] w (Ret w λ_ v=>∃r:Bool,v=.tuple #[.bool r,.int .i64 0]/\(r=true↔∀x∈U,gU P V x)):=by
 have G:=grp_of_r C;have ac:=G.v.n6;obtain⟨vo,vp,vc,rfl,h3⟩:=E;have m:=PresP.box h3 28;have i:Ext w (w.alloc (.cells #[vo,vp,vc] 28)):=World.grownBy_alloc _ _ _;have j:(w.alloc (.cells #[vo,vp,vc] 28)).heap.size=w.heap.size+1:=by simp
 have p:=Rows2.ext l i;have q:=Rows2.ext F i;obtain⟨au,y,rfl,_,_⟩:=Sl.shape l;obtain⟨T,e,rfl,_,_⟩:=Sl.shape F;have k:Ext (w.alloc (.cells #[vo,vp,vc] 28)) ((w.alloc (.cells #[vo,vp,vc] 28)).alloc (.cells #[.slice au U.length y,.slice T V.length e] 25)):=World.grownBy_alloc _ _ _;have W:=rows3Two p q;have b:=areSubgroups_ok P _ _ _ [U,V] Any Any (m.ext k) W;rw[j] at b;clear W l F;have X:U.length<=P.orders.length:=G.sub_len H;have Y:V.length<=P.orders.length:=G.sub_len I;have B:=Lib.hid (And.intro C (And.intro H ( And.intro I ((trivial:True)))));clear C H I;go_enter Tryz.func47,Tryz.ntmps47;go_wp2_with fail
 refine Calls.mono b ?_;rintro e1 Z ⟨v1,rfl,hgA,r1,rfl,hr1⟩;clear b;obtain rfl:r1=true:=hr1.2 (by have:=B.out;simp only[List.mem_cons,List.mem_nil_iff,or_false];exact⟨this.1,λu l=>by rcases l with rfl|rfl;exact this.2.1;exact this.2.2.1⟩);clear hr1;have a:=grown_trans k hgA;have HS:=Lib.hid j;clear j;generalize J:(w.alloc (.cells #[vo,vp,vc] 28))=w0 at *;clear J k hgA;have K:=m.ext a;have L:=Rows2.ext p a;have M:=Rows2.ext q a;have z:Rows2 D Z (.slice T V.length e) (cseq P (gU P V)):=by rw[<-B.out.2.2.1.2];exact M
 have A:=isSubset_ok P G Z _ _ _ U (gU P V) Any S D (G.subB B.out.2.2.1) K L z B.out.2.1.1;have HC:=Lib.hid A;clear A z;go_wp2_with fail
 refine Calls.mono HC.out ?_;rintro e2 w2 ⟨v2,rfl,N,r,rfl,hri⟩;have O:=Lib.hid hri;clear hri HC;go_wp2;go_ret2
 exact⟨_,rfl,grown_trans i (grown_trans a N),r,rfl,O.out⟩
def gsOk (P:Pr) (L:List (List Int)):Prop:=rconsB P=true/\∀x∈L,Vec P.orders x
open Classical in
noncomputable def gsC (P:Pr) (L:List (List Int)):Int:=if gsOk P L then (if 24<L.length then 3 else 0) else 1
open Classical in
noncomputable def gsL (P:Pr) (L:List (List Int)):List (List Int):=if gsOk P L/\¬ 24<L.length then cseq P (gU P L) else []
theorem gs_bad {P:Pr}{L:List (List Int)}(h:¬gsOk P L):gsC P L=1/\gsL P L=[]:=by
 unfold gsC gsL;rw[if_neg h,if_neg (λa=>h a.1)];exact⟨rfl,rfl⟩
theorem gs_big {P:Pr}{L:List (List Int)}(h:gsOk P L) (a:24<L.length):gsC P L=3/\gsL P L=[]:=by
 unfold gsC gsL;rw[if_pos h,if_pos a,if_neg (λb=>b.2 a)];exact⟨rfl,rfl⟩
theorem gs_ok {P:Pr}{L:List (List Int)}(h:gsOk P L) (a:¬ 24<L.length):gsC P L=0/\gsL P L=cseq P (gU P L):=by
 unfold gsC gsL;rw[if_pos h,if_neg a,if_pos ⟨h,a⟩];exact⟨rfl,rfl⟩
theorem iGenSub_ok (P:Pr) (w:World) (pv C:Value) (L:List (List Int)) (H r:Nat->Prop) (u:PresV H w pv P) (y:Rows2 r w C L) :
  Calls Tryz.prog 44 #[pv,C] w (Ret w λw' v=>∃a n c,v=.tuple #[.slice a n c,.int .i64 (gsC P L)]/\RowsO w.heap.size w' (.slice a n c) (gsL P L)):=by
 obtain⟨vo,vp,vc,rfl,h3⟩:=u;have m:=PresP.box h3 28;have j:Ext w (w.alloc (.cells #[vo,vp,vc] 28)):=World.grownBy_alloc _ _ _;have p:(w.alloc (.cells #[vo,vp,vc] 28)).heap.size=w.heap.size+1:=by simp
 have q:=Rows2.ext y j;obtain⟨R,cl,rfl,_,_⟩:=Sl.shape y;have D:=areElements_ok P _ _ _ L Any r m q;have I:=Lib.hid p;clear p y;go_enter Tryz.func44,Tryz.ntmps44;go_wp2_with fail
 generalize z:w.alloc (.cells #[vo,vp,vc] 28)=w0 at *;clear z;refine Calls.mono D ?_;rintro S J ⟨v1,rfl,b,r1,rfl,hr1⟩;clear D;cases r1 with
 | false=>
  have k:¬gsOk P L:=λh=>by have:=hr1.2 h;cases this
  have l:=Lib.hid (gs_bad k);clear k hr1;go_wp2;go_ret2
  exact⟨_,rfl,grown_trans j b,none,0,0,by rw[l.out.1];rfl,by rw[l.out.2];exact SlO.nil _ _ _ _⟩
 | true=>
  have i:gsOk P L:=hr1.1 rfl;clear hr1;by_cases E:24<L.length
  ·have l:=Lib.hid (gs_big i E);clear i
   go_wp2;go_ret2
   exact⟨_,rfl,grown_trans j b,none,0,0,by rw[l.out.1];rfl,by rw[l.out.2];exact SlO.nil _ _ _ _⟩
  ·have l:=Lib.hid (gs_ok i E)
   have G:=grp_of_r i.1;have F:=Lib.hid i.2;clear i;have K:L.length<=24:=by omega
   go_wp2_with fail
   refine Calls.mono (generated_ok P G J _ _ L Any r (m.ext b) (Rows2.ext q b) F.out (by omega)) ?_;rintro T U ⟨M,rfl,A,hO⟩;have B:(cseq P (gU P L)).length<=P.orders.length:=G.cseq_len (G.genP_sub F.out);have N:=G.v.n6;obtain⟨V,nc,cc,hvc⟩:∃a n c,M=Value.slice a n c:=by obtain⟨a,c,e,_⟩:=Sl.shape (RowsD.rows (SlO.toD hO (by show(cseq P (gU P L)).length<=_;omega)));exact⟨_,_,_,e⟩
   subst hvc;have O:=Lib.hid hO;clear hO B;have Q:=b.size;go_wp2;go_ret2
   exact⟨_,rfl,grown_trans j (grown_trans b A),_,_,_,by rw[l.out.1];rfl,by rw[l.out.2];exact O.out.weak (by have:=I.out;omega)⟩
theorem Ints.extA {S:Nat->Prop}{w w':World}{v:Value}{xs:List Int}(h:Ints S w v xs) (a:Ext w w'):Ints Any w' v xs:=Ints.sub (Ints.ext h a) (λ_ _ _=>trivial)
theorem Rows2.extA {S:Nat->Prop}{w w':World}{v:Value}{xs:List (List Int)}(h:Rows2 S w v xs) (a:Ext w w'):Rows2 Any w' v xs:=Rows2.sub (Rows2.ext h a) (λ_ _ _=>trivial)
theorem likeInts_ok (v1 u:Value) (e j:List Int) (w:World) (B C:Nat->Prop) (h1:Ints B w v1 e) (y:Ints C w u j) :
  Calls Tryz.prog 11 #[v1,u] w (Ret w λ_ v=>v=.bool (eqB e j)):=by
 obtain⟨a,cap,rfl,_,_⟩:=h1.shape;obtain⟨a2,cap2,rfl,_,_⟩:=y.shape;by_cases m:e.length=j.length
 ·have D:((e.length:Int) != (j.length:Int))=false:=by simp[m]
  have E:e.length<=j.length/\j.length<=e.length:=by omega
  have q:=Lib.hid m;clear m;go_enter Tryz.func11,Tryz.ntmps11;go_wp2;go_loopw [5] (λi wr=>∃k:Nat,i=.int .i64 k/\k<=e.length/\Ext w wr/\∀i,i<k->gt e i=gt j i) (λi _=>e.length-(intOf i).toNat)
  case atStart=>exact⟨0,rfl,by omega,Ext.refl _,λi z=>by omega⟩
  case round=>
   obtain⟨k,rfl,hk,p,hz⟩:=hrel;have A:=Lib.hid hz;clear hz;by_cases r:k<e.length
   ·obtain ⟨b,off,rfl,_,_,hc⟩:=Ints.at (h1.ext p) k r
    obtain⟨b2,off2,rfl,_,_,hc2⟩:=Ints.at (y.ext p) k (by omega);by_cases hx:gt e k=gt j k
    ·have F:(gt e k != gt j k)=false:=by simp[hx]
     have l:=Lib.hid hx;clear hx;go_wp2;go_quiet (fail)
     go_wp2;go_roundw
     case rel=>exact⟨k+1,by go_num,by omega,grown_trans p (grown_drewN _ _ _),λi z=>by
      rcases Nat.lt_or_ge i k with h1|h1
      ·exact A.out i h1
      ·have:i=k:=by omega
       rw[this,l.out]⟩
     case measure=>simp[intOf];omega
    ·have F:(gt e k != gt j k)=true:=by simp[hx]
     have l:=Lib.hid hx;clear hx;go_wp2;go_quiet (fail)
     go_wp2;go_ret;exact ret_bool (grown_trans p (grown_drewN _ _ _)) (by rw[eqB_false_at (hx:=l.out)])
   ·go_wp2
    go_ret;exact ret_bool p (by rw[eqB_true.2 (ext_gt q.out (λi z=>A.out i (by omega)))])
 ·have D:((e.length:Int) != (j.length:Int))=true:=by simp;omega
  have q:=Lib.hid m;clear m;go_enter Tryz.func11,Tryz.ntmps11;go_wp2;go_ret;exact ret_bool (Ext.refl _) (by rw[eqB_false.2 (λh=>q.out (by rw[h]))])
theorem like29_ok (v1 B:Value) (j l:List (List Int)) (w:World) (I J:Nat->Prop) (h1:Rows2 I w v1 j) (C:Rows2 J w B l) :
  Calls Tryz.prog 24 #[v1,B] w (Ret w λ_ v=>v=.bool (eqB j l)):=by
 obtain⟨a,cap,rfl,_,_⟩:=Sl.shape h1;obtain⟨a2,cap2,rfl,_,_⟩:=Sl.shape C;by_cases q:j.length=l.length
 ·have K:((j.length:Int) != (l.length:Int))=false:=by simp[q]
  have L:j.length<=l.length/\l.length<=j.length:=by omega
  have z:=Lib.hid q;clear q;go_enter Tryz.func24,Tryz.ntmps24;go_wp2;go_loopw [5] (λi wr=>∃k:Nat,i=.int .i64 k/\k<=j.length/\Ext w wr/\∀i,i<k->gt j i=gt l i) (λi _=>j.length-(intOf i).toNat)
  case atStart=>exact⟨0,rfl,by omega,Ext.refl _,λi D=>by omega⟩
  case round=>
   obtain⟨k,rfl,hk,r,hz⟩:=hrel;have E:=Lib.hid hz;clear hz;by_cases A:k<j.length
   ·obtain ⟨b,off,M,c1,rfl,_,_,hc,u⟩:=Rows2.at (Rows2.ext h1 r) k A
    obtain⟨b2,off2,N,c2,rfl,_,_,hc2,y⟩:=Rows2.at (Rows2.ext C r) k (by omega);have F:∀w',Ext wr w'->w'.cell? ⟨b,off+k,none⟩=some (.slice M (gt j k).length c1):=λw' h=>h.cell hc (by simp);have G:∀w',Ext wr w'->w'.cell? ⟨b2,off2+k,none⟩=some (.slice N (gt l k).length c2):=λw' h=>h.cell hc2 (by simp);clear hc hc2;have H:k<l.length:=by omega
    go_wp2;cases hx:eqB (gt j k) (gt l k) with
    | true=>
     have m:=Lib.hid hx
     go_region_held3 (λw'=>Ext wr w') (first|exact grown_drew _ _|assumption)
      (first
       | (go_at_call 11;refine Calls.mono (Calls.rel (w0:=wr) (by assumption) (likeInts_ok _ _ _ _ _ Any Any ((Ints.extA u (by assumption))) (Ints.extA y (by assumption)))) ?_;rintro O Q ⟨R,rfl,p,hsA,rfl⟩))
     clear F G;go_wp2;go_roundw
     case rel=>exact⟨k+1,by go_num,by omega,grown_trans r p,λi D=>by
      rcases Nat.lt_or_ge i k with h1|h1
      ·exact E.out i h1
      ·have:i=k:=by omega
       rw[this];exact eqB_true.1 m.out⟩
     case measure=>simp[intOf];omega
    | false=>
     have m:=Lib.hid hx
     go_region_held3 (λw'=>Ext wr w') (first|exact grown_drew _ _|assumption)
      (first
       | (go_at_call 11;refine Calls.mono (Calls.rel (w0:=wr) (by assumption) (likeInts_ok _ _ _ _ _ Any Any (Ints.extA u (by assumption)) (Ints.extA y (by assumption)))) ?_;rintro O Q ⟨R,rfl,p,hsA,rfl⟩))
     clear F G;go_wp2;go_ret;exact ret_bool (grown_trans r p) (by rw[eqB_false_at (hx:=eqB_false.1 m.out)])
   ·go_wp2
    go_ret;exact ret_bool r (by rw[eqB_true.2 (ext_gt z.out (λi D=>E.out i (by omega)))])
 ·have K:((j.length:Int) != (l.length:Int))=true:=by simp;omega
  have z:=Lib.hid q;clear q;go_enter Tryz.func24,Tryz.ntmps24;go_wp2;go_ret;exact ret_bool (Ext.refl _) (by rw[eqB_false.2 (λe=>z.out (by rw[e]))])
theorem like39_ok (v1 B:Value) (j l:List (List (List Int))) (w:World) (I J:Nat->Prop) (h1:Rows3 I w v1 j) (C:Rows3 J w B l) :
  Calls Tryz.prog 41 #[v1,B] w (Ret w λ_ v=>v=.bool (eqB j l)):=by
 obtain⟨a,cap,rfl,_,_⟩:=Sl.shape h1;obtain⟨a2,cap2,rfl,_,_⟩:=Sl.shape C;by_cases q:j.length=l.length
 ·have K:((j.length:Int) != (l.length:Int))=false:=by simp[q]
  have L:j.length<=l.length/\l.length<=j.length:=by omega
  have z:=Lib.hid q;clear q;go_enter Tryz.func41,Tryz.ntmps41;go_wp2;go_loopw [5] (λi wr=>∃k:Nat,i=.int .i64 k/\k<=j.length/\Ext w wr/\∀i,i<k->gt j i=gt l i) (λi _=>j.length-(intOf i).toNat)
  case atStart=>exact⟨0,rfl,by omega,Ext.refl _,λi D=>by omega⟩
  case round=>
   obtain⟨k,rfl,hk,r,hz⟩:=hrel;have E:=Lib.hid hz;clear hz;by_cases A:k<j.length
   ·obtain ⟨b,off,M,c1,rfl,_,_,hc,u⟩:=Rows3.at (Rows3.ext h1 r) k A
    obtain⟨b2,off2,N,c2,rfl,_,_,hc2,y⟩:=Rows3.at (Rows3.ext C r) k (by omega);have F:∀w',Ext wr w'->w'.cell? ⟨b,off+k,none⟩=some (.slice M (gt j k).length c1):=λw' h=>h.cell hc (by simp);have G:∀w',Ext wr w'->w'.cell? ⟨b2,off2+k,none⟩=some (.slice N (gt l k).length c2):=λw' h=>h.cell hc2 (by simp);clear hc hc2;have H:k<l.length:=by omega
    go_wp2;cases hx:eqB (gt j k) (gt l k) with
    | true=>
     have m:=Lib.hid hx
     go_region_held3 (λw'=>Ext wr w') (first|exact grown_drew _ _|assumption)
      (first
       | (go_at_call 24;refine Calls.mono (Calls.rel (w0:=wr) (by assumption) (like29_ok _ _ _ _ _ Any Any ((Rows2.extA u (by assumption))) (Rows2.extA y (by assumption)))) ?_;rintro O Q ⟨R,rfl,p,hsA,rfl⟩))
     clear F G;go_wp2;go_roundw
     case rel=>exact⟨k+1,by go_num,by omega,grown_trans r p,λi D=>by
      rcases Nat.lt_or_ge i k with h1|h1
      ·exact E.out i h1
      ·have:i=k:=by omega
       rw[this];exact eqB_true.1 m.out⟩
     case measure=>simp[intOf];omega
    | false=>
     have m:=Lib.hid hx
     go_region_held3 (λw'=>Ext wr w') (first|exact grown_drew _ _|assumption)
      (first
       | (go_at_call 24;refine Calls.mono (Calls.rel (w0:=wr) (by assumption) (like29_ok _ _ _ _ _ Any Any (Rows2.extA u (by assumption)) (Rows2.extA y (by assumption)))) ?_;rintro O Q ⟨R,rfl,p,hsA,rfl⟩))
     clear F G;go_wp2;go_ret;exact ret_bool (grown_trans r p) (by rw[eqB_false_at (hx:=eqB_false.1 m.out)])
   ·go_wp2
    go_ret;exact ret_bool r (by rw[eqB_true.2 (ext_gt z.out (λi D=>E.out i (by omega)))])
 ·have K:((j.length:Int) != (l.length:Int))=true:=by simp;omega
  have z:=Lib.hid q;clear q;go_enter Tryz.func41,Tryz.ntmps41;go_wp2;go_ret;exact ret_bool (Ext.refl _) (by rw[eqB_false.2 (λe=>z.out (by rw[e]))])
def Dice (B:Nat) (w:World) (a:Nat):Prop:=∃(cv:Value) (i:Nat) (h:Int) (b:List Int),Box3 w a cv (.int .i64 i) (.int .u64 h)/\Bytes (λk=>k≠a/\k<B) w cv b/\i<=b.length/\b.length<=4096/\a<B/\0<=h/\h<18446744073709551616
theorem Dice.keep {B:Nat}{w w':World}{b:Nat}(h:Dice B w b) (e:w.heap.size<=w'.heap.size) (j:∀k,k<B->k<w.heap.size->w'.heap[k]? = w.heap[k]?):Dice B w' b:=by
 obtain⟨cv,i,x,bs,h1,h2,h3,h4,l,h6⟩:=h;exact⟨cv,i,x,bs,h1.keep e (j b l h1.1),Sl.mono h2 (λk hk a=>⟨hk,Nat.lt_of_lt_of_le a e,j k hk.2 a⟩) (λ_ _ h=>h),h3,h4,l,h6⟩
theorem Dice.ext {B:Nat}{w w':World}{b:Nat}(h:Dice B w b) (e:Ext w w'):Dice B w' b:=h.keep e.size (λk _ a=>e.block k a (by simp))
theorem Dice.own {B:Nat}{w w':World}{b:Nat}{r:Option Nat}(h:Dice B w b) (i:w.grownBy w' r) (j:∀k,r=some k->B<=k):Dice B w' b:=
 h.keep i.size (λk hk a=>i.block k a (λe=>by have:=j k e.symm;omega))
theorem Dice.lt {B:Nat}{w:World}{a:Nat}(h:Dice B w a):a<B/\a<w.heap.size:=by
 obtain⟨cv,i,x,bs,h1,h2,h3,h4,h5,h6⟩:=h;exact⟨h5,h1.1⟩
theorem u64_bd (z:Int):0<=IntKind.u64.wrap z/\IntKind.u64.wrap z<18446744073709551616:=by
 have h:IntKind.u64.wrap z=z%18446744073709551616:=by simp[IntKind.wrap,IntKind.signed,IntKind.bits]
 rw[h];exact⟨Int.emod_nonneg _ (by decide),Int.emod_lt_of_pos _ (by decide)⟩
theorem roll_ok (w:World) (cv:Value) (e:List Int) (S:Nat->Prop) (l:Int) (O:e.length<=4096) (D:Bytes S w cv e) :
  Calls Tryz.prog 15 #[cv,.int .u64 l] w (Ret w λw' v=>∃N,v=.pointer (some ⟨N,0,none⟩)/\w.heap.size<=N/\Dice (N+1) w' N):=by
 obtain⟨a,cap,rfl,_,hlen⟩:=Sl.shape D;obtain⟨C,q⟩:∃C,C=IntKind.u64.wrap (IntKind.u64.wrap (l*7607)+(e.length:Nat)):=⟨_,rfl⟩;have y:=u64_bd (IntKind.u64.wrap (l*7607)+(e.length:Nat));rw[<-q] at y;have E:=Box3.made w 88 (.slice a e.length cap) (.int .i64 0) (.int .u64 C);have F:Ext w (w.alloc (.cells #[.slice a e.length cap,.int .i64 0,.int .u64 C] 88)):=World.grownBy_alloc _ _ _;go_enter Tryz.func15,Tryz.ntmps15;go_wp2_with fail
 rw[<-q];have Y:=Lib.hid q;clear q;generalize w.alloc (.cells #[.slice a e.length cap,.int .i64 0,.int .u64 C] 88)=w0 at *;go_loopw [6] (λQ wr=>∃(i:Nat) (h:Int),Q=.int .i64 i/\i<=e.length/\(0<=h/\h<18446744073709551616)/\Ext w wr/\Box3 wr w.heap.size (.slice a e.length cap) (.int .i64 0) (.int .u64 h)) (λQ _=>e.length-(intOf Q).toNat)
 case atStart=>exact⟨0,C,rfl,by omega,y,F,E⟩
 case round=>
  clear E F y;obtain⟨i,h,rfl,hi,hhb,G,hB⟩:=hrel;by_cases m:i<e.length
  ·obtain ⟨b,off,rfl,hbS,hbl2,z,R,T⟩:=Bytes.at D i m
   have A:=G.cell z (by simp);generalize gt e i=x at z A R T;have U:(i:Int)<(e.length:Nat):=by omega
   obtain⟨r,B⟩:∃r,r=IntKind.u64.wrap (IntKind.u64.wrap (IntKind.u64.wrap (h*1099511628211)+x)+5):=⟨_,rfl⟩;have p:=u64_bd (IntKind.u64.wrap (IntKind.u64.wrap (h*1099511628211)+x)+5);rw[<-B] at p;have H:=(hB.put (.int .u64 r)).2.2;have I:=grown_set wr w.heap.size 2 (.int .u64 r);have J:Ext w (wr.setCell ⟨w.heap.size,2,none⟩ (.int .u64 r)):=grown_own G I (λj W m=>by have:=Option.some.inj W;omega);have K:=H.ext (grown_drew (wr.setCell ⟨w.heap.size,2,none⟩ (.int .u64 r)) none);have L:=grown_trans J (grown_drew (wr.setCell ⟨w.heap.size,2,none⟩ (.int .u64 r)) none);have X:IntKind.u64.wrap x=x:=IntWalk.u64_in _ (by omega);obtain⟨M,h1,h2,h3,h4⟩:=id hB;have c0:wr.drew.cell? ⟨w.heap.size,2,none⟩=some (.int .u64 h):=h3;have c1:wr.drew.cell? ⟨b,off+i,none⟩=some (.int .u8 x):=A;have c2:w.heap.size<wr.drew.heap.size:=M;have c3:=h4;have V:=B.symm;have u:=Lib.hid (And.intro L (And.intro K (And.intro p D)));clear L K B p D J I H hB G M h1 h2 h3 z A;go_wp2;go_still_tail 15,(by kernel_rfl)
   change wpList _ _ _ _ _ wr.drew;go_wp2;go_roundw
   case rel=>exact⟨i+1,r,by go_num,by omega,u.out.2.2.1,u.out.1,u.out.2.1⟩
   case measure=>simp[intOf];omega
  ·have U:¬(i:Int)<(e.length:Nat):=by omega
   have u:=Lib.hid (And.intro G hB);clear G hB;go_wp2;go_ret;exact⟨_,rfl,u.out.1,w.heap.size,rfl,Nat.le_refl _,_,0,h,e,u.out.2,Bytes.mono D (λk _ m=>⟨⟨by omega,by omega⟩,Nat.lt_of_lt_of_le m u.out.1.size,u.out.1.block k m (by simp)⟩),by omega,O,by omega,hhb⟩
theorem below_bits (h:Int) (b:0<=h) (h1:h<18446744073709551616):∃x:Int,0<=x/\x<16777216/\bits .and .u64 (h/8589934592) 16777215=x:=by
 obtain⟨n,rfl⟩:∃n:Nat,h=n:=⟨h.toNat,by omega⟩;have a:n/8589934592<2 ^ 64:=by omega
 have e:=u64_and_nat (n/8589934592) 16777215 a (by decide);refine⟨((n/8589934592 &&& 16777215:Nat):Int),by omega,?_,?_⟩
 ·have:=Nat.and_lt_two_pow (n:=24) (n/8589934592) (y:=16777215) (by decide)
  have i:(2:Nat) ^ 24=16777216:=by decide
  omega
 ·rw[<-e];rfl
theorem below_ok (B:Nat) (w:World) (j:Nat) (n:Int) (Y:Dice B w j) (hn:1<=n) (Z:n<=1000000000) :
  Calls Tryz.prog 17 #[.pointer (some ⟨j,0,none⟩),.int .i64 n] w (Mut w (some j) λw' v=>∃x:Int,v=.int .i64 x/\0<=x/\x<n/\Dice B w' j):=by
 obtain⟨cv,pos,h,A,hB,hby,hpos,hbl,hdB,hh0,hh1⟩:=Y;obtain⟨a,cap,rfl,_,hlen⟩:=hby.shape;obtain⟨C,E⟩:∃C,C=IntKind.u64.wrap (IntKind.u64.wrap (h*6364136223846793005)+1442695040888963407):=⟨_,rfl⟩;have l:=u64_bd (IntKind.u64.wrap (h*6364136223846793005)+1442695040888963407);rw[<-E] at l;obtain⟨y,hy0,hy1,hand⟩:=below_bits C l.1 l.2;have q:=(hB.put (.int .u64 C)).2.2;obtain⟨I,h1,h2,h3,h4⟩:=id hB;have J:=E.symm;clear E;go_enter Tryz.func17,Tryz.ntmps17;have r:w.grownBy (w.setCell ⟨j,2,none⟩ (.int .u64 C)) (some j):=grown_set _ _ _ _;have m:Bytes (λk=>k≠j/\k<B) (w.setCell ⟨j,2,none⟩ (.int .u64 C)) (.slice a A.length cap) A:=Bytes.mono hby (frame_of r (λk hk _=>⟨hk,λe=>hk.1 (by cases e;rfl)⟩));have K:=Lib.hid (And.intro q (And.intro r m));clear q hB hby r m;go_wp2;clear I h1 h2 h3 h4 J hand;obtain⟨q,r,m⟩:=K.out;clear K;generalize w.setCell ⟨j,2,none⟩ (.int .u64 C)=H at *;obtain⟨I,h1,h2,h3,h4⟩:=id q;have i:=Lib.hid (And.intro q (And.intro r m));clear q r m;by_cases hp:pos<A.length
 ·obtain ⟨b,off,rfl,⟨hbs,hbB⟩,hbl2,F,R,S⟩:=Bytes.at i.out.2.2 pos hp
  obtain⟨x,hx⟩:∃x,x=gt A pos:=⟨_,rfl⟩;rw[<-hx] at F R S;have HX:=Lib.hid hx;clear hx;have T:(pos:Int)<A.length:=by omega
  have ab:(0:Int)<=pos:=by omega
  have U:IntKind.i64.wrap (y+x)=y+x:=IntWalk.i64_in _ (by omega);go_quiet (fail)
  go_wp2;have p:Ext H (H.drewN nq):=grown_drewN _ _ _;have L:=p.cell F (by simp);have M:j<(H.drewN nq).heap.size:=Nat.lt_of_lt_of_le I p.size;have u:=And.intro (i.out.1.ext p) (And.intro (grown_trans i.out.2.1 (grown_of_ext (some j) p)) (Bytes.ext i.out.2.2 p));have i:=Lib.hid u;clear u p F I h1 h2 h3 h4;obtain⟨h1,h2,h3,h4⟩:=i.out.1.2;generalize H.drewN nq=Q at *;go_quiet (fail)
  have p:Ext Q (Q.drewN nq):=grown_drewN _ _ _;have I:j<(Q.drewN nq).heap.size:=Nat.lt_of_lt_of_le M p.size;have u:=And.intro (i.out.1.ext p) (And.intro (grown_trans i.out.2.1 (grown_of_ext (some j) p)) (Bytes.ext i.out.2.2 p));have i:=Lib.hid u;clear u p L M h1 h2 h3 h4;obtain⟨h1,h2,h3,h4⟩:=i.out.1.2;generalize Q.drewN nq=V at *;have N:=(i.out.1.put (.int .i64 ((pos:Int)+1))).2.1;have G:V.grownBy (V.setCell ⟨j,1,none⟩ (.int .i64 ((pos:Int)+1))) (some j):=grown_set _ _ _ _;have D:Bytes (λk=>k≠j/\k<B) (V.setCell ⟨j,1,none⟩ (.int .i64 ((pos:Int)+1))) (.slice (some ⟨b,off,none⟩) A.length cap) A:=Bytes.mono i.out.2.2 (frame_of G (λk hk _=>⟨hk,λe=>hk.1 (by cases e;rfl)⟩));have O:0<=(y+x)%n/\(y+x)%n<n:=⟨Int.emod_nonneg _ (by omega),Int.emod_lt_of_pos _ (by omega)⟩;have z:=Lib.hid (And.intro N (And.intro (grown_trans i.out.2.1 G) (And.intro D O)));clear N G D i U O;have ac:IntKind.i64.wrap ((pos:Int)+1)=(pos:Int)+1:=IntWalk.i64_in _ (by omega);have W:n≠0:=by omega
  go_wp2;go_ret;exact⟨_,rfl,z.out.2.1,_,rfl,z.out.2.2.2.1,z.out.2.2.2.2,_,pos+1,C,A,z.out.1,z.out.2.2.1,by omega,hbl,hdB,l⟩
 ·have T:¬(pos:Int)<A.length:=by omega
  have W:n≠0:=by omega
  go_quiet (fail)
  have p:Ext H (H.drewN nq):=grown_drewN _ _ _;have O:0<=y%n/\y%n<n:=⟨Int.emod_nonneg _ (by omega),Int.emod_lt_of_pos _ (by omega)⟩;have X:=Lib.hid O;clear O;go_wp2;go_ret;exact⟨_,rfl,grown_trans i.out.2.1 (grown_of_ext _ p),_,rfl,X.out.1,X.out.2,_,pos,C,A,i.out.1.ext p,Bytes.ext i.out.2.2 p,hpos,hbl,hdB,l⟩
theorem PresV.off {S:Nat->Prop}{w w':World}{v:Value}{P:Pr}{b:Nat}(h:PresV S w v P) (e:Ext w w') (i:w.heap.size<=b):PresV (λk=>k≠b) w' v P:=by
 obtain⟨vo,vp,vc,rfl,h3⟩:=h;exact⟨_,_,_,rfl,h3.mono (λk _ a=>⟨by omega,Nat.lt_of_lt_of_le a e.size,e.block k a (by simp)⟩)⟩
theorem draw9_ok (P:Pr) (hP:Valid P) (B:Nat) (w:World) (a:Nat) (pv:Value) (av:B<=w.heap.size) (W:Dice B w a) (Y:PresV (λk=>k≠a) w pv P) :
  Calls Tryz.prog 45 #[.pointer (some ⟨a,0,none⟩),pv] w (Mut w (some a) λw' v=>∃X,Own w.heap.size w' v X/\Vec P.orders X/\Dice B w' a):=by
 have aw:=hP.n6;have ax:=W.lt.2;obtain⟨vo,vp,vc,rfl,h3⟩:=Y;obtain⟨R,co,hvo,_,_⟩:=h3.o.shape;obtain⟨ap,S,hvp,_,_⟩:=Sl.shape h3.p;obtain⟨T,U,hvc,_,_⟩:=Sl.shape h3.c;subst hvo hvp hvc;have E:=Box3.made w 28 (.slice R P.orders.length co) (.slice ap P.powers.length S) (.slice T P.conj.length U);have u:Ext w (w.alloc (.cells #[.slice R P.orders.length co,.slice ap P.powers.length S,.slice T P.conj.length U] 28)):=World.grownBy_alloc _ _ _;have Z:=h3.o.ext u;have F:=W.ext u;have b:(w.alloc (.cells #[.slice R P.orders.length co,.slice ap P.powers.length S,.slice T P.conj.length U] 28)).heap.size=w.heap.size+1:=by simp
 have HZ:=Lib.hid (And.intro b F);clear b F W h3;go_enter Tryz.func45,Tryz.ntmps45;go_wp2_with fail
 generalize w.alloc (.cells #[.slice R P.orders.length co,.slice ap P.powers.length S,.slice T P.conj.length U] 28)=w0 at *;have b:w0.heap.size=w.heap.size+1:=HZ.out.1;have z:=World.grownBy_alloc w0 (.cells #[] 2) none;have m:Own w0.heap.size (w0.alloc (.cells #[] 2)) (.slice (some ⟨w0.heap.size,0,none⟩) 0 0) []:=World.ownsRow_lit w0 #[] 0 (Nat.le_refl _) (by decide) rfl;have HS:=Lib.hid (HZ.out.2.ext z);have G:=grown_of_ext (some a) z;clear z;have HW:=Lib.hid b;rw[b] at m;have ay:w.heap.size+1<=w0.heap.size:=by omega
 clear b HZ;generalize w0.alloc (.cells #[] 2)=w1 at *;rw[<-HW.out] at m;rw[<-HW.out];go_loopw [5,6] (λov iv wr=>∃(i:Nat) (l:List Int) (v4:Value),v4=ov/\iv=.int .i64 i/\i<=P.orders.length/\Hid (l.length=i/\∀j,j<i->0<=gt l j/\gt l j<gt P.orders j)/\w0.grownBy wr (some a)/\Own w0.heap.size wr v4 l/\Hid (Dice B wr a)) (λ_ iv _=>P.orders.length-(intOf iv).toNat)
 case atStart=>exact⟨0,[],_,rfl,rfl,by omega,Lib.hid ⟨rfl,λj q=>by omega⟩,G,m,HS⟩
 case round=>
  clear G m HS;obtain⟨i,l,v4,rfl,rfl,hi,hli,H,hO,I⟩:=hrel;have ad:=E.keep H.size (H.block _ E.1 (λe=>by have:=Option.some.inj e;omega));obtain⟨b0,b1,b2,b3,b4⟩:=id ad;have J:∀j,v4.ownBlock=some j->w0.heap.size<=j:=λj q=>(hO.lt j q).1;have HO:=Lib.hid J;clear J;by_cases A:i<P.orders.length
  ·have K:(i:Int)<P.orders.length:=by omega
   obtain⟨bo,oo,rfl,hboF,_,C⟩:=Ints.at Z i A;have hc:=H.cell C (by simp;exact hboF);have af:=hP.ord7 i A;obtain⟨x,hx⟩:∃x,x=gt P.orders i:=⟨_,rfl⟩;rw[<-hx] at hc C af;have HX:=Lib.hid hx;clear hx C;have ag:max 1 x=x:=by omega
   go_wp2_with fail
   refine Calls.mono (below_ok B wr a x I.out (by omega) (by omega)) ?_;rintro e3 w3 ⟨v3,rfl,hg3,y,rfl,hy0,hy1,L⟩;have r:=grown_trans H hg3;have ah:Own w0.heap.size w3 _ l:=hO.kept hg3 (.inr (λe=>by have:=HO.out a e;omega));have D:l.length<=1000000:=by have:=hli.out.1;omega
   have M:=Lib.hid (And.intro L D);clear L hc D hO ag;go_wp2_with (first|(at_builtin;refine wp_app_int rfl _ _ rfl w0.heap.size v4 l y rfl w3 ah rfl rfl M.out.2 r.size ?_;intro v5 w5 ai N)|fail)
   have aj:=M.out.1.own N (λj q=>by have:=HO.out j q;omega);have O:w0.grownBy w5 (some a):=grown_own r N (λj q A=>by have:=HO.out j q;omega);have D:(l++[y]).length=l.length+1:=by simp
   go_roundw
   case rel=>exact⟨i+1,l++[y],v5,rfl,by go_num,by omega,Lib.hid ⟨by have:=hli.out.1;omega,λj q=>by
    have hl:=hli.out.1;rcases Nat.lt_succ_iff_lt_or_eq.1 q with V|V
    ·have e:gt (l++[y]) j=gt l j:=gt_append_left _ _ _ (by omega)
     rw[e];exact hli.out.2 j V
    ·have e:gt (l++[y]) j=y:=by rw[V,<-hl];exact gt_concat _ _
     rw[e,V,<-HX.out];exact⟨hy0,hy1⟩⟩,O,ai,Lib.hid aj⟩
   case measure=>simp[intOf];omega
  ·have K:¬((i:Int)<P.orders.length):=by omega
   have ak:i=P.orders.length:=by omega
   subst ak;obtain⟨al,cl,rfl,_⟩:=(hO.ints (by have:=hli.out.1;omega)).shape;have Q:w.grownBy wr (some a):=grown_trans (grown_of_ext (some a) u) H;have HF:=Lib.hid (And.intro Q hO);clear Q hO;go_wp2;go_ret;exact⟨_,rfl,HF.out.1,l,HF.out.2.weak (by omega),⟨hli.out.1,λj q=>hli.out.2 j (by have:=hli.out.1;omega)⟩,I.out⟩
end Go.Proofs.YtoakmefajbbggaaGreat
namespace Go.Proofs.YtoakmefajbbggaaGreat
open Go.RowKit
attribute [local go_sem ↓] Go.wp_at_zero Go.wp_at_succ
theorem lawHl_ok (w:World) (cv:Value) (bs:List Int) (S:Nat->Prop) (hb:Bytes S w cv bs) :
  Calls Tryz.prog 6 #[cv] w (Ret w λ_ v=>v=.bool true):=by
 obtain⟨ca,cc,rfl,_,_⟩:=Sl.shape hb;go_enter Tryz.func6,Tryz.ntmps6;go_wp2_with fail
 refine Calls.mono (big_ok w _ bs S hb) ?_;rintro _ _ ⟨rfl,rfl⟩;by_cases aX:4096<bs.length
 ·have hd:decide (4096<bs.length)=true:=by simp[aX]
  rw[hd];go_wp2;go_ret;exact⟨_,rfl,grown_refl _ _,rfl⟩
 have b9:bs.length<=4096:=by omega
 have hd:decide (4096<bs.length)=false:=by simp[aX]
 rw[hd];clear hd aX;go_wp2_with fail
 refine Calls.mono (DrawHallSubgroups_ok w _ bs S hb) ?_;rintro e1 w1 ⟨v1,rfl,hg1,vo,vp,vc,x0v,P,rfl,hPl,hP,⟨F,_,hX0⟩⟩;obtain⟨a1,n1,c1,hy1⟩:∃a n c,vo=.slice a n c:=by obtain⟨a,c,e,_⟩:=hP.o.shape;exact⟨_,_,_,e⟩
 obtain⟨a2,n2,c2,hy2⟩:∃a n c,vp=.slice a n c:=by obtain⟨a,c,e,_⟩:=Sl.shape hP.p;exact⟨_,_,_,e⟩
 obtain⟨a3,n3,c3,hy3⟩:∃a n c,vc=.slice a n c:=by obtain⟨a,c,e,_⟩:=Sl.shape hP.c;exact⟨_,_,_,e⟩
 subst hy1 hy2 hy3;obtain⟨b',bu,cb,hrx0⟩:∃a n c,x0v=.slice a n c:=by obtain⟨a,c,e,_⟩:=Sl.shape hX0;exact⟨_,_,_,e⟩
 subst hrx0;have aB:Ext w1 (w1.alloc (.cells #[.slice a1 n1 c1,.slice a2 n2 c2,.slice a3 n3 c3] 28)):=World.grownBy_alloc _ _ _;have hX:=Box3.made w1 28 (.slice a1 n1 c1) (.slice a2 n2 c2) (.slice a3 n3 c3);have bw:=hP.ext aB;have aR:=Ints.ext hX0 aB;have u:=grown_trans hg1 aB;have bx:=Bytes.ext hb u;have R:=Lib.hid (And.intro bw (And.intro aR (And.intro u bx)));clear bw aR u bx aB hP hX0 hg1 hb;obtain⟨pb,aY⟩:∃pb,pb=w1.heap.size:=⟨_,rfl⟩;rw[<-aY] at hX;have HP:=Lib.hid aY;clear aY;go_wp2_with fail
 rw[<-HP.out];generalize w1.alloc (.cells #[.slice a1 n1 c1,.slice a2 n2 c2,.slice a3 n3 c3] 28)=w2 at *;clear HP
 have aS:∀w',Ext w2 w'->Box3 w' pb (.slice a1 n1 c1) (.slice a2 n2 c2) (.slice a3 n3 c3)/\PresV (From w.heap.size) w' (.agg #[.slice a1 n1 c1,.slice a2 n2 c2,.slice a3 n3 c3]) P/\Ints (From w.heap.size) w' (.slice b' bu cb) F/\Bytes S w' (.slice ca bs.length cc) bs:=
  λw' h=>⟨hX.ext h,⟨_,_,_,rfl,R.out.1.ext h⟩,Ints.ext R.out.2.1 h,Bytes.ext R.out.2.2.2 h⟩
 have C:=Lib.hid aS;clear aS hX;have u:=grown_refl w2 none;have ce:=hl_len P F;obtain⟨Q,b1_,b2_,b3_,_⟩:=id (C.out w2 u).1;go_wp2_with fail
 clear Q b1_ b2_ b3_;refine Calls.mono (iHs_ok P w2 _ _ F _ _ (C.out w2 u).2.1 (C.out w2 u).2.2.1) ?_;rintro e3 w3 ⟨v3,rfl,z,aa,an,ac,rfl,bz⟩;replace u:=grown_trans u z
 have bA:Rows3 Any w3 (.slice aa an ac) (hlL P F):=Rows3.sub (Rows3D.rows (SlO.toD bz (by omega))) (λ_ _ _=>trivial);have bB:∀w',Ext w3 w'->Rows3 Any w' (.slice aa an ac) (hlL P F):=λw' h=>Rows3.ext bA h;have HQ:=Lib.hid bB;clear bA bB;have B:=grown_refl w3 none;clear bz;clear z;obtain⟨Q,b1_,b2_,b3_,_⟩:=id (C.out w3 u).1;go_wp2_with fail
 clear Q b1_ b2_ b3_;refine Calls.mono (sHs_ok P w3 _ _ F _ _ (C.out w3 u).2.1 (C.out w3 u).2.2.1) ?_;rintro e4 w4 ⟨v4,rfl,z,ta,tn,tc,rfl,hT_⟩;replace u:=grown_trans u z
 replace B:=grown_trans B z
 have bC:Rows3 Any w4 (.slice ta tn tc) (hlL P F):=hT_;have bD:∀w',Ext w4 w'->Rows3 Any w' (.slice ta tn tc) (hlL P F):=λw' h=>Rows3.ext bC h;have HT:=Lib.hid bD;clear bC bD;have aC:=grown_refl w4 none;clear hT_;clear z;go_wp2_with fail
 refine Calls.mono (like39_ok _ _ (hlL P F) (hlL P F) w4 Any Any (HQ.out w4 B) (HT.out w4 aC)) ?_;rintro e5 w5 ⟨v5,rfl,z,rfl⟩;replace u:=grown_trans u z
 replace B:=grown_trans B z
 replace aC:=grown_trans aC z
 rw[show eqB (hlL P F) (hlL P F)=true from eqB_true.2 rfl];clear HT aC;clear z;by_cases hz:hcC P F=0
 case neg=>
  have c0:(hcC P F != 0)=true:=by simpa using hz
  clear hz;generalize hcC P F=cc at *;go_wp2;go_ret;exact⟨_,rfl,grown_trans R.out.2.2.1 u,rfl⟩
 rw[hz];obtain⟨L,hF⟩:=hl_facts hz;clear hz ce;have hr:=hF.r;have G:=grp_of_r hr;have c4:=G.v.n6;have c5:=G.v.ordP_pos;have cN:=hF.o;obtain⟨N,hN⟩:∃N,N=L.length:=⟨_,rfl⟩;rw[hF.l] at HQ
 obtain rfl:N=an:=by
  obtain⟨a,c,e,_⟩:=Sl.shape (HQ.out _ B);cases e;exact hN
 have c6:0<N/\N<=729:=by have:=hF.pos;have:=hF.le;omega
 obtain⟨m,hm⟩:∃m,m=F.length:=⟨_,rfl⟩
 obtain rfl:m=bu:=by
  obtain⟨a,c,e,_⟩:=((C.out w5 u).2.2.1).shape;cases e;exact hm
 have cj:((N:Int) == 0)=false:=by simp;omega
 have c7:m<=6:=by have:=hF.len;omega
 have T:=Lib.hid (And.intro hF (And.intro hN hm));clear hF hN hm;obtain⟨wk,rfl⟩:∃wk:World,wk=w5:=⟨_,rfl⟩;go_wp2;clear cj;go_loopw [9] (λiv wr=>∃i:Nat,iv=.int .i64 (i:Int)/\i<=N/\Ext wk wr) (λiv _=>N-(intOf iv).toNat)
 case atStart=>exact⟨0,rfl,by omega,grown_refl _ _⟩
 case round =>
  obtain⟨i,rfl,hi,hg⟩:=hrel;obtain⟨D,rfl⟩:∃D:World,D=wr:=⟨_,rfl⟩;have y:=grown_trans u hg;by_cases ag:i<N
  ·have bF:(i:Int)<N:=by omega
   have cm:(0:Int)<N:=by omega
   have c8:0<N:=by omega
   have X:i<L.length:=by rw[<-T.out.2.1];exact ag
   have a0:0<L.length:=by omega
   have aD:=(T.out.1.h.2 _).1 (gtMem X);have aE:=(T.out.1.h.2 _).1 (gtMem a0);have aF:=hall_sj G hr aE aD;obtain⟨rb,ro,ua,uc,hab,_,_,Z,hx⟩:=Rows3.at (HQ.out D (grown_trans B hg)) i X;subst hab;obtain⟨cn,ro',va,bG,hab,_,_,aG,hy⟩:=Rows3.at (HQ.out D (grown_trans B hg)) 0 a0;obtain⟨rfl,rfl⟩:rb=cn/\ro=ro':=by cases hab;exact⟨rfl,rfl⟩
   rw[Nat.add_zero] at aG;clear hab;obtain⟨U,bH⟩:∃U,U=gt L i:=⟨_,rfl⟩;obtain⟨V,ar⟩:∃V,V=gt L 0:=⟨_,rfl⟩;rw[<-bH] at Z hx aD aF;rw[<-ar] at aG hy aE aF;have HX:=Lib.hid (And.intro aD (And.intro aE (And.intro aF (And.intro hx hy))));clear aD aE aF hx hy bH ar X a0;have H:∀w',Ext D w'->w'.cell? ⟨pb,0,none⟩=some (.slice a1 n1 c1):=λw' h=>(C.out w' (grown_trans y h)).1.2.1;have I:∀w',Ext D w'->w'.cell? ⟨pb,1,none⟩=some (.slice a2 n2 c2):=λw' h=>(C.out w' (grown_trans y h)).1.2.2.1;have J:∀w',Ext D w'->w'.cell? ⟨pb,2,none⟩=some (.slice a3 n3 c3):=λw' h=>(C.out w' (grown_trans y h)).1.2.2.2.1;have K:∀w',Ext D w'->w'.cell? ⟨rb,ro+i,none⟩=some (.slice ua U.length uc):=λw' h=>h.cell Z (by simp);have aH:∀w',Ext D w'->w'.cell? ⟨rb,ro,none⟩=some (.slice va V.length bG):=λw' h=>h.cell aG (by simp);have au:=Lib.hid (And.intro H (And.intro I (And.intro J (And.intro K aH))));clear aH Z aG;go_wp2
   go_region_held3 (λw'=>Ext D w') (first|exact grown_drew _ _|assumption)
    (first
     | (go_at_call 42;refine Calls.mono (Calls.rel (w0:=D) (by assumption) (iIsHall_ok P hr _ _ _ _ U F _ _ _ (C.out _ (grown_trans y (by assumption))).2.1 (Rows2.ext HX.out.2.2.2.1 (by assumption)) (C.out _ (grown_trans y (by assumption))).2.2.1 HX.out.1 T.out.1.s)) ?_;rintro e6 E ⟨v6,rfl,A,_,rfl⟩))
   clear H I J K;have H:∀w',Ext E w'->w'.cell? ⟨pb,0,none⟩=some (.slice a1 n1 c1):=λw' h=>au.out.1 w' (grown_trans A h);have I:∀w',Ext E w'->w'.cell? ⟨pb,1,none⟩=some (.slice a2 n2 c2):=λw' h=>au.out.2.1 w' (grown_trans A h);have J:∀w',Ext E w'->w'.cell? ⟨pb,2,none⟩=some (.slice a3 n3 c3):=λw' h=>au.out.2.2.1 w' (grown_trans A h);have K:∀w',Ext E w'->w'.cell? ⟨rb,ro+i,none⟩=some (.slice ua U.length uc):=λw' h=>au.out.2.2.2.1 w' (grown_trans A h);have aH:∀w',Ext E w'->w'.cell? ⟨rb,ro,none⟩=some (.slice va V.length bG):=λw' h=>au.out.2.2.2.2 w' (grown_trans A h);go_wp2
   go_region_held3 (λw'=>Ext E w') (first|exact grown_drew _ _|assumption)
    (first
     | (go_at_call 43;refine Calls.mono (Calls.rel (w0:=E) (by assumption) (iSubCj_ok P _ _ _ _ V U _ _ _ (C.out _ (grown_trans y (grown_trans A (by assumption)))).2.1 (Rows2.ext HX.out.2.2.2.2 (grown_trans A (by assumption))) (Rows2.ext HX.out.2.2.2.1 (grown_trans A (by assumption))))) ?_;rintro e7 w7 ⟨v7,rfl,av,_,k1,k2,k3,rfl,hC7⟩;rw[HX.out.2.2.1];clear hC7))
   clear H I J K aH cm;have aI:=grown_trans hg (grown_trans A av);go_wp2;go_roundw
   case rel=>exact⟨i+1,by go_num,by omega,aI⟩
   case measure=>simp[intOf];omega
  ·have bI : ¬(i:Int)<(N:Int):=by omega
   replace B:=grown_trans B hg
   clear ag hi u;obtain⟨E,rfl⟩:∃wz:World,wz=D:=⟨_,rfl⟩;have u:=y;clear y hg;have M:=u;have aV:=B;have ah:=grown_refl E none;go_wp2_with fail
   refine Calls.mono (roll_ok E _ bs S 12 b9 (C.out E u).2.2.2) ?_;rintro e7 w7 ⟨v7,rfl,z,db,rfl,bJ,a5⟩;replace u:=grown_trans u z
   replace B:=grown_trans B z
   replace ah:=grown_trans ah z
   have bK:=PresV.off (C.out E M).2.1 z bJ;have bL:=a5.lt.2;have a6:=Lib.hid (And.intro a5 bK);clear a5 bK;clear z;have cs:=ah.size;clear u B bI;obtain⟨wD,rfl⟩:∃wD:World,wD=w7:=⟨_,rfl⟩;have H:∀w',Ext E w'->w'.cell? ⟨pb,0,none⟩=some (.slice a1 n1 c1):=λw' h=>(C.out w' (grown_trans M h)).1.2.1;have I:∀w',Ext E w'->w'.cell? ⟨pb,1,none⟩=some (.slice a2 n2 c2):=λw' h=>(C.out w' (grown_trans M h)).1.2.2.1;have J:∀w',Ext E w'->w'.cell? ⟨pb,2,none⟩=some (.slice a3 n3 c3):=λw' h=>(C.out w' (grown_trans M h)).1.2.2.2.1;go_wp2
   go_region_held3 (λw'=>Ext E w') (first|exact grown_trans ah (grown_drew _ _)|assumption|exact grown_trans (by assumption) (World.grownBy_alloc _ _ _))
    (first
     | (go_at_call 44;refine Calls.mono (Calls.rel2 (w0:=E) (grown_trans a7 (World.grownBy_alloc _ _ _)) (iGenSub_ok P _ _ _ [Y] _ _ (C.out _ (grown_trans M (grown_trans a7 (World.grownBy_alloc _ _ _)))).2.1 (rowsE1 a8))) ?_;rintro eN wN ⟨vN,rfl,hgN,hgN2,_,za,zn,zc,rfl,aK⟩)
     | (go_at_call 45;refine Calls.mono (draw9_ok P G.v (db+1) wD.drew db _ (by have:=(grown_drew wD none).size;omega) (a6.out.1.ext (grown_drew _ _)) (by obtain⟨c',vp',vc',e',h3'⟩:=a6.out.2;exact⟨_,_,_,e',h3'.ext (grown_drew _ _)⟩)) ?_;rintro eM wM ⟨vM,rfl,aW,Y,hY_,aL,_⟩;have a7:Ext E wM:=grown_own (grown_trans ah (grown_drew _ _)) aW (λj hj ag=>by have:=Option.some.inj hj;omega);have a8:=hY_.ints (by rw[aL.1];omega);obtain⟨ya,yc,hys,_,_⟩:=a8.shape;subst hys))
   clear H I J;have a9:gsOk P [Y]:=⟨hr,λx hx=>by rw[List.mem_singleton.1 hx];exact aL⟩;rw[(gs_ok a9 (by simp)).1];rw[(gs_ok a9 (by simp)).2] at aK;have bN:Sub P (gU P [Y]):=G.genP_sub (λx hx=>by rw[List.mem_singleton.1 hx];exact aL);obtain⟨U,hU⟩:∃U,U=cseq P (gU P [Y]):=⟨_,rfl⟩;have aw:SubB P U:=by rw[hU];exact G.subB_cseq bN
   have dc:U.length<=P.orders.length:=G.sub_len aw;rw[<-hU] at aK;clear a9 bN hU aL a8 hY_ aW a7 hgN2 a6 bL cs bJ ah;obtain⟨w8,rfl⟩:∃wz:World,wz=wN:=⟨_,rfl⟩;have u:=grown_trans M hgN;have B:=grown_trans aV hgN;clear M aV;have bO:Rows2 Any w8 (.slice za zn zc) (U):=Rows2.sub (RowsD.rows (SlO.toD aK (by omega))) (λ_ _ _=>trivial);have bP:∀w',Ext w8 w'->Rows2 Any w' (.slice za zn zc) (U):=λw' h=>Rows2.ext bO h;have HU:=Lib.hid bP;clear bO bP;have ai:=grown_refl w8 none;clear aK hgN;obtain⟨Q,b1_,b2_,b3_,_⟩:=id (C.out w8 u).1;go_wp2_with fail
   clear Q b1_ b2_ b3_;refine Calls.mono (iOrder_ok P hr w8 _ _ U _ _ (C.out w8 u).2.1 (HU.out w8 ai) aw) ?_;rintro e9 w9 ⟨v9,rfl,z,rfl⟩;replace u:=grown_trans u z
   replace B:=grown_trans B z
   replace ai:=grown_trans ai z
   obtain⟨so,aM⟩:∃so,so=rstN G U F 0:=⟨_,rfl⟩;rw[rst_zero G aw F,<-aM];have ba:1<=so/\so<=729:=by rw[aM];exact rst_bd G U F 0
   have cu:¬(so:Int)<1:=by omega
   have bQ:=Lib.hid aM;clear aM;clear z;obtain⟨wl,rfl⟩:∃wz:World,wz=w9:=⟨_,rfl⟩;go_wp2;clear cu;go_loopw [19,21] (λrv iv wr=>∃k r:Nat,rv=.int .i64 (r:Int)/\iv=.int .i64 (k:Int)/\k<=m/\1<=r/\r<=729/\Hid (r=rstN G U F k)/\Ext wl wr) (λ_ iv _=>m-(intOf iv).toNat)
   case atStart=>exact⟨0,so,rfl,rfl,by omega,ba.1,ba.2,Lib.hid bQ.out,grown_refl _ _⟩
   case round=>
    clear bQ ba;obtain⟨k,r,rfl,rfl,hk,bR,hr2,aN,aj⟩:=hrel;by_cases bS:k<m
    ·have cU:(k:Int)<m:=by omega
     have aO:k<F.length:=by rw[<-T.out.2.2];exact bS
     obtain⟨p,hp,bb⟩:=T.out.1.p k aO;obtain⟨xb,xo,hxe,_,_,O⟩:=Ints.at ((C.out wr (grown_trans u aj)).2.2.1) k aO;subst hxe;rw[hp] at O;have ab:=rst_step G (U:=U) aO hp bb;rw[<-aN.out] at ab;have bc:=rst_bd G U F (k+1);obtain⟨r2,ax⟩:∃r2,r2=rstN G U F (k+1):=⟨_,rfl⟩;rw[<-ax] at ab bc;obtain⟨c,hc⟩:∃c,c=prt p r:=⟨_,rfl⟩;rw[<-hc] at ab
     have cy:1<=c:=by
      rcases Nat.eq_zero_or_pos c with h|h
      ·rw[h] at ab;simp at ab;omega
      ·exact h
     have bU:(r:Int)/(c:Int)=(r2:Int):=by rw[ab,<-Int.natCast_ediv,Nat.mul_div_cancel_left _ cy]
     have cz:(r:Int).tdiv (c:Int)=(r2:Int):=by rw[Int.tdiv_eq_ediv_of_nonneg (by omega)];exact bU
     have dg:¬(c:Int)<1:=by omega
     have dh:(0:Int)<(c:Int):=by omega
     have bd:=Lib.hid (And.intro bb (And.intro hc ax));clear bb hc ax ab hp aO aN;go_wp2_with fail
     refine Calls.mono (iPart_ok r p bR bd.out.1 (by omega) wr) ?_;rintro e5 w5 ⟨v5,rfl,hg5,rfl⟩;rw[<-bd.out.2.1];clear O;go_wp2;go_roundw
     case rel=>exact⟨k+1,r2,rfl,by go_num,by omega,bc.1,bc.2,Lib.hid bd.out.2.2,grown_trans aj hg5⟩
     case measure=>simp[intOf];omega
    ·have bV:k=m:=by omega
     have di:¬(k:Int)<(m:Int):=by omega
     have be:=hall_in G aw T.out.1.h;rw[<-T.out.2.2,<-bV,<-aN.out] at be;have bf:=Lib.hid be;clear be aN bS hk bV;obtain⟨wz,rfl⟩:∃wz:World,wz=wr:=⟨_,rfl⟩;replace u:=grown_trans u aj
     replace B:=grown_trans B aj
     replace ai:=grown_trans ai aj
     clear aj;go_wp2;go_loopw [20,24] (λbv iv wr=>∃(i:Nat) (b:Bool),bv=.bool b/\iv=.int .i64 (i:Int)/\i<=N/\Ext wz wr/\Hid (b=true↔∃j,j<i/\∀x∈U,gP P (gt L j) x)) (λ_ iv _=>N-(intOf iv).toNat)
     case atStart=>exact⟨0,false,rfl,rfl,by omega,grown_refl _ _,Lib.hid ⟨λh=>(by cases h),λ⟨j,hj,_⟩=>(by omega)⟩⟩
     case round=>
      obtain⟨i,b,rfl,rfl,hi,hg,hB⟩:=hrel;obtain⟨D,rfl⟩:∃D:World,D=wr:=⟨_,rfl⟩;have y:=grown_trans u hg;by_cases ag:i<N
      ·have bF:(i:Int)<N:=by omega
       have X:i<L.length:=by rw[<-T.out.2.1];exact ag
       have bg:=((T.out.1.h.2 _).1 (gtMem X)).1;obtain⟨rb,ro,ua,uc,hab,_,_,Z,hx⟩:=Rows3.at (HQ.out D (grown_trans B hg)) i X;subst hab
       have ay:∀r_:Bool,(r_=true↔∀x∈U,gU P (gt L i) x)->((b || r_)=true↔∃j,j<i+1/\∀x∈U,gP P (gt L j) x):=λr_ aP=>by
        rw[Bool.or_eq_true,hB.out,aP];constructor
        ·rintro (⟨j,hj,h⟩|h)
         ·exact⟨j,by omega,h⟩
         ·exact⟨i,by omega,h⟩
        ·rintro ⟨j,hj,h⟩
         rcases Nat.lt_succ_iff_lt_or_eq.1 hj with h1|h1
         ·exact .inl ⟨j,h1,h⟩
         ·rw[h1] at h;exact .inr h
       have bW:=Lib.hid ay;clear ay;obtain⟨V,ar⟩:∃V,V=gt L i:=⟨_,rfl⟩;rw[<-ar] at Z hx bg bW;have HX:=Lib.hid (And.intro bg hx);clear bg hx ar X;have H:∀w',Ext D w'->w'.cell? ⟨pb,0,none⟩=some (.slice a1 n1 c1):=λw' h=>(C.out w' (grown_trans y h)).1.2.1;have I:∀w',Ext D w'->w'.cell? ⟨pb,1,none⟩=some (.slice a2 n2 c2):=λw' h=>(C.out w' (grown_trans y h)).1.2.2.1;have J:∀w',Ext D w'->w'.cell? ⟨pb,2,none⟩=some (.slice a3 n3 c3):=λw' h=>(C.out w' (grown_trans y h)).1.2.2.2.1;have K:∀w',Ext D w'->w'.cell? ⟨rb,ro+i,none⟩=some (.slice ua V.length uc):=λw' h=>h.cell Z (by simp);clear Z;go_wp2
       go_region_held3 (λw'=>Ext D w') (first|exact grown_drew _ _|assumption)
        (first
         | (go_at_call 47;refine Calls.mono (Calls.rel (w0:=D) (by assumption) (iSubset_ok P hr _ _ _ _ U V _ _ _ (C.out _ (grown_trans y (by assumption))).2.1 (HU.out _ (grown_trans ai (grown_trans hg (by assumption)))) (Rows2.ext HX.out.2 (by assumption)) aw HX.out.1)) ?_;rintro e6 E ⟨v6,rfl,A,_,r_,rfl,aP⟩))
       clear H I J K;have hn:=bW.out r_ aP;have HN:=Lib.hid hn;clear hn aP hB;have aI:=grown_trans hg A;cases b with
       | true=>
        go_wp2;go_roundw
        case rel=>exact⟨i+1,true,rfl,by go_num,by omega,aI,Lib.hid HN.out⟩
        case measure=>simp[intOf];omega
       | false=>
        go_wp2;go_roundw
        case rel=>exact⟨i+1,r_,rfl,by go_num,by omega,aI,Lib.hid HN.out⟩
        case measure=>simp[intOf];omega
      ·have bX:i=N:=by omega
       have bI:¬(i:Int)<(N:Int):=by omega
       have bh:=hB.out;rw[bX,T.out.2.1,bf.out] at bh;have aQ:=Lib.hid bh;clear bh hB bX ag hi;cases b with
       | true=>
        obtain rfl:r=1:=aQ.out.1 rfl;clear aQ bf bR hr2;by_cases ad:m=1
        ·have W:F.length=1:=by rw[<-T.out.2.2];exact ad
         subst ad;obtain⟨q,hq,hq2,ae,az,h1,h2,h3,h4⟩:=hl_one T.out.1 W;rw[<-T.out.2.1] at ae h1 h2 h3 h4;obtain⟨xb,xo,hxe,_,_,O⟩:=Ints.at ((C.out D y).2.2.1) 0 (by omega);subst hxe;rw[hq,Nat.add_zero] at O;have cA:(0:Int)<((1:Nat):Int):=by omega
         have H:∀w',Ext D w'->w'.cell? ⟨pb,0,none⟩=some (.slice a1 n1 c1):=λw' h=>(C.out w' (grown_trans y h)).1.2.1;have I:∀w',Ext D w'->w'.cell? ⟨pb,1,none⟩=some (.slice a2 n2 c2):=λw' h=>(C.out w' (grown_trans y h)).1.2.2.1;have J:∀w',Ext D w'->w'.cell? ⟨pb,2,none⟩=some (.slice a3 n3 c3):=λw' h=>(C.out w' (grown_trans y h)).1.2.2.2.1;have K:∀w',Ext D w'->w'.cell? ⟨xb,xo,none⟩=some (.int .i64 (q:Int)):=λw' h=>h.cell O (by simp);have HY:=Lib.hid (And.intro ae (And.intro az (And.intro h1 (And.intro h2 (And.intro h3 (And.intro h4 K))))));clear ae az h1 h2 h3 h4 hq O W;go_wp2
         go_region_held3 (λw'=>Ext D w') (first|exact grown_drew _ _|assumption)
          (first
           | (go_at_call 48;refine Calls.mono (Calls.rel (w0:=D) (by assumption) (iSy_ok P _ _ (q:Int) _ (C.out _ (grown_trans y (by assumption))).2.1)) ?_;rintro e6 E ⟨v6,rfl,A,_,rfl⟩;rw[HY.out.1,HY.out.2.1]))
         clear H I J K;have bl:=HY.out.2.2.2.2.2.2 E A;have bZ:=HY.out.2.2.1;have b0:=HY.out.2.2.2.1;have cB:(0:Int)<(q:Int):=by omega
         obtain⟨Q,b1_,b2_,b3_,_⟩:=id (C.out E (grown_trans y A)).1;go_wp2_with fail
         clear Q b1_ b2_ b3_ bl;refine Calls.mono (size9_ok P hr E _ _ (C.out E (grown_trans y A)).2.1) ?_;rintro e7 w7 ⟨v7,rfl,av,rfl⟩;have b1:=HY.out.2.2.2.2.1;have b2:=HY.out.2.2.2.2.2.1;have cC:(0:Int)<(N:Int):=by omega
         go_wp2;go_ret;exact⟨_,rfl,grown_trans R.out.2.2.1 (grown_trans y (grown_trans A av)),rfl⟩
        ·have cD:((m:Int) == 1)=false:=by simp;omega
         clear ad;go_wp2;go_ret;exact⟨_,rfl,grown_trans R.out.2.2.1 y,rfl⟩
       | false=>
        have cE:¬r=1:=λh=>by have:=aQ.out.2 h;cases this
        have dk:((r:Int) == 1)=false:=by simp;omega
        clear aQ bf cE;by_cases ad:m=1
        ·have W:F.length=1:=by rw[<-T.out.2.2];exact ad
         subst ad;obtain⟨q,hq,hq2,ae,az,h1,h2,h3,h4⟩:=hl_one T.out.1 W;rw[<-T.out.2.1] at ae h1 h2 h3 h4;obtain⟨xb,xo,hxe,_,_,O⟩:=Ints.at ((C.out D y).2.2.1) 0 (by omega);subst hxe;rw[hq,Nat.add_zero] at O;have cA:(0:Int)<((1:Nat):Int):=by omega
         have H:∀w',Ext D w'->w'.cell? ⟨pb,0,none⟩=some (.slice a1 n1 c1):=λw' h=>(C.out w' (grown_trans y h)).1.2.1;have I:∀w',Ext D w'->w'.cell? ⟨pb,1,none⟩=some (.slice a2 n2 c2):=λw' h=>(C.out w' (grown_trans y h)).1.2.2.1;have J:∀w',Ext D w'->w'.cell? ⟨pb,2,none⟩=some (.slice a3 n3 c3):=λw' h=>(C.out w' (grown_trans y h)).1.2.2.2.1;have K:∀w',Ext D w'->w'.cell? ⟨xb,xo,none⟩=some (.int .i64 (q:Int)):=λw' h=>h.cell O (by simp);have HY:=Lib.hid (And.intro ae (And.intro az (And.intro h1 (And.intro h2 (And.intro h3 (And.intro h4 K))))));clear ae az h1 h2 h3 h4 hq O W;go_wp2
         go_region_held3 (λw'=>Ext D w') (first|exact grown_drew _ _|assumption)
          (first
           | (go_at_call 48;refine Calls.mono (Calls.rel (w0:=D) (by assumption) (iSy_ok P _ _ (q:Int) _ (C.out _ (grown_trans y (by assumption))).2.1)) ?_;rintro e6 E ⟨v6,rfl,A,_,rfl⟩;rw[HY.out.1,HY.out.2.1]))
         clear H I J K;have bl:=HY.out.2.2.2.2.2.2 E A;have bZ:=HY.out.2.2.1;have b0:=HY.out.2.2.2.1;have cB:(0:Int)<(q:Int):=by omega
         obtain⟨Q,b1_,b2_,b3_,_⟩:=id (C.out E (grown_trans y A)).1;go_wp2_with fail
         clear Q b1_ b2_ b3_ bl;refine Calls.mono (size9_ok P hr E _ _ (C.out E (grown_trans y A)).2.1) ?_;rintro e7 w7 ⟨v7,rfl,av,rfl⟩;have b1:=HY.out.2.2.2.2.1;have b2:=HY.out.2.2.2.2.2.1;have cC:(0:Int)<(N:Int):=by omega
         go_wp2;go_ret;exact⟨_,rfl,grown_trans R.out.2.2.1 (grown_trans y (grown_trans A av)),rfl⟩
        ·have cD:((m:Int) == 1)=false:=by simp;omega
         clear ad;go_wp2;go_ret;exact⟨_,rfl,grown_trans R.out.2.2.1 y,rfl⟩
end Go.Proofs.YtoakmefajbbggaaGreat
namespace Go.Proofs.YtoakmefajbbggaaGreat
open Go.RowKit Go.ChangeShapes Go.WideShapes Go.Deep
section
variable {H:Type}{enc:TypeId × Value->H}{W:World}{sp:Nat->Bool}
theorem open_sl {α:Type} [Inhabited α] {El:World->Value->α->Prop}{t e:TypeId}(w:Tryz.prog.underlying t=some (.slice e)) (z:Tryz.prog.cellsOf e=1)
  (r:∀n c x,DataW.trod enc Tryz.prog W 0 sp true n e [c]=some x->∃y,El W c y) {q:Nat}{c:Value}{x:DataW H × List MemPlace}(h:DataW.trod enc Tryz.prog W 0 sp true q t [c]=some x) :
  ∃xs:List α,Sl El Any W c xs:=by
 rcases open_slice1 w z h with⟨k,_⟩|⟨a,len,cap,m,n,V,D,Pl,k,_,hl,hm,u,_,hx⟩
 ·cases k
  exact⟨[],none,0,rfl,⟨by simp,by simp,λ_=>rfl⟩,λi l=>by simp at l⟩
 ·cases k
  have A:len<=m:=by rw[u];split<;>omega
  obtain⟨Z,hZ⟩:=choose_lt (α:=α) (n:=len) (p:=λi y=>El W (V i) y) (λi l=>r n (V i) _ (hx i (by omega)).2);refine⟨(List.range len).map Z,some a,cap,by simp,⟨by simpa using hl,by simp;unfold maxLen at hm;omega,λh=>by cases h⟩,λi l => ?_⟩;simp only[List.length_map,List.length_range] at l;obtain⟨h1,h2⟩:=hx i (by omega);obtain⟨b,off,spot⟩:=a
  have B:spot=none:=by
   have C:=(hx 0 (by omega)).1;exact World.cell?_spot (by simpa [Addr.add] using C)
  subst B
  have j:W.cell? ⟨b,off+i,none⟩=some (V i):=by
   have e:(⟨b,off,none⟩:Addr).add i=⟨b,off+i,none⟩:=by
    unfold Addr.add;split
    ·rename_i h;subst h;rfl
    ·rfl
   rw[<-e];exact h1
  refine⟨b,off,V i,rfl,trivial,World.block_lt_of_cell? W _ j,j,?_⟩;have:gt ((List.range len).map Z) i=Z i:=by simp[gt,l]
  rw[this];exact hZ i l
end
end Go.Proofs.YtoakmefajbbggaaGreat
namespace Go.Proofs.YtoakmefajbbggaaGreat
open Go.RowKit Go.ChangeShapes Go.WideShapes Go.ChangeAt
theorem ownB:ownKnob Tryz.prog.godebug=none:=by kernel_rfl
theorem laidOutP:laidOutB Tryz.prog=true:=by kernel_rfl
theorem und_u8:Tryz.prog.underlying 5=some (.int .u8):=by kernel_rfl
theorem und_bytesB:Tryz.prog.underlying 22=some (.slice 5):=by kernel_rfl
theorem cells_u8:Tryz.prog.cellsOf 5=1:=by kernel_rfl
theorem open_u8 {H:Type}{enc:TypeId × Value->H}{W:World}{sp:Nat->Bool}{n:Nat}{c:Value}{x:DataW H × List MemPlace}(h:DataW.trod enc Tryz.prog W 0 sp true n 5 [c]=some x):∃y,ByteEl W c y:=by
 cases n with
 | zero=>simp[DataW.trod] at h
 | succ n=>
  unfold DataW.trod at h;rw[und_u8] at h;cases c<;>simp at h
  rename_i k z;obtain⟨⟨rfl,hz⟩,_⟩:=h
  have a:0<=z/\z<=255:=by
   have b:=hz;simp[Lit.wf,IntKind.min,IntKind.max,IntKind.signed,IntKind.bits] at b
   omega
  exact⟨z,rfl,a⟩
theorem open_bytes {H:Type}{enc:TypeId × Value->H}{W:World}{sp:Nat->Bool}{n:Nat}{c:Value}{x:DataW H × List MemPlace}(h:DataW.trod enc Tryz.prog W 0 sp true n 22 [c]=some x):∃l,Bytes Any W c l:=
 open_sl (El:=ByteEl) und_bytesB cells_u8 (λ_ _ _ h=>open_u8 h) h
end Go.Proofs.YtoakmefajbbggaaGreat
namespace Go.Proofs.YtoakmefajbbggaaGreat.RowHlOf
open Go.RowKit Go.ChangeShapes Go.WideShapes Go.ChangeAt
theorem lifted (os:Os) (a:os.Started) (H:Type) (enc:TypeId × Value->H) :
  ReturnsInHanded {} Tryz.checked os 6 .any (Rows.fnHallSpec.pre6 enc Tryz.prog Tryz.f6 Rows.fnHallRow.domain false) (Rows.fnHallSpec.post enc Tryz.prog Tryz.f6 false true false false):=by
 refine returnsInHanded_of_change (C:=Tryz.checked) (s:=Rows.fnHallSpec) ownB a (by kernel_rfl) Tryz.func6
  (ChangeSpec.witness6 (enc:=enc) (C:=Tryz.checked) (s:=Rows.fnHallSpec) false ⟨#[],#[.slice none 0 0],[]⟩ 8 (by kernel_rfl) (by kernel_rfl) (by kernel_rfl) (by kernel_rfl) (by kernel_rfl)) ?_
 intro W base args B gs before i u _ _;have j:=u;obtain⟨p,q,hA0,hV,rfl,_,_⟩:=u;have w:DataW.TrodAll enc Tryz.prog W 0 (λ_=>true) true Tryz.f6.params.toList args.toList B p:=hA0;rw[Tryz.params6] at w;obtain⟨v0,vs0,d0,ds0,m,q0,hargs,rfl,rfl,h0,r0⟩:=trodAll_cons w;obtain⟨rfl,rfl,rfl⟩:=trodAll_nil r0;obtain rfl:args = #[v0]:=by cases args;simp_all
 obtain⟨rfl,rfl⟩:=trodVars_none hV;have k:Value.okWide Tryz.prog W .any base 22 v0:=i 0 _ _ (by rw[Tryz.params6];rfl) rfl;obtain⟨y,z,c0,rfl⟩:=okWide_slice und_bytesB k;obtain⟨f0,hf0⟩:=h0;obtain⟨l,hP⟩:=open_bytes (c := .slice y z c0) hf0;have r:∀x∈m,x.block<W.heap.size:=λx hx=>by simpa using j.lt x (by simpa using hx)
 clear hA0;simp only[List.append_nil] at j;refine(lawHl_ok W (.slice y z c0) l Any hP).mono λe D ⟨v,he,hg,hv⟩ => ?_;subst he;subst hv;have A:Below W.heap.size W D:=hg.below;have b:=Below.trod laidOutP (by kernel_rfl) (of_decide_eq_true (by kernel_rfl)) ⟨f0,hf0⟩ A r;exact⟨_,rfl,[d0],[],m,[],m,[],j,trodAll_mk1 (shut_bool Tryz.underlying4 _),trodAll_mk1 b,rfl,A.frame _,λh=>by cases h⟩
theorem c0:Rows.fnHallRow.wf (OpenSpec.ofChange Rows.fnHallSpec)=true:=by kernel_rfl
theorem c1:laidOutB Tryz.pinned.checked.prog=true:=by kernel_rfl
theorem c2:mapsRowed Tryz.pinned.checked.prog=true:=by kernel_rfl
theorem c3:Tryz.f6.params.all (Tryz.pinned.checked.prog.readableRec ·)=true:=by kernel_rfl
theorem c4:namedTie Tryz.pinned.checked.prog Rows.fnHallRow.named Rows.fnHallSpec.vars=true:=by kernel_rfl
theorem c5:(Rows.fnHallRow.stops == [])=true:=by kernel_rfl
theorem c6:(Tryz.pinned.checked.prog.stops == [])=true:=by kernel_rfl
theorem c7:(Rows.fnHallRow.knobs == [])=true:=by kernel_rfl
theorem c8:(Tryz.pinned.checked.prog.stopKnobs == [])=true:=by kernel_rfl
theorem c9:(Rows.fnHallRow.inPlace == Tryz.pinned.checked.prog.inPlace 6)=true:=by kernel_rfl
theorem c10:(Rows.fnHallRow.unfollowed == Tryz.pinned.checked.prog.unfollowed 6)=true:=by kernel_rfl
theorem c11:(Rows.fnHallRow.recurses == Tryz.pinned.checked.prog.recurses 6)=true:=by kernel_rfl
theorem c12:(Rows.fnHallRow.named == Tryz.pinned.checked.prog.varsNamed 6)=true:=by kernel_rfl
theorem c13:(Rows.fnHallRow.maps == (Tryz.f6.params.toList++Rows.fnHallSpec.plain.varTypes Tryz.pinned.checked.prog).any (Tryz.pinned.checked.prog.mapsRec ·))=true:=by kernel_rfl
theorem c14:(Rows.fnHallRow.ifaces == (Tryz.f6.params.toList++Rows.fnHallSpec.plain.varTypes Tryz.pinned.checked.prog).any (Tryz.pinned.checked.prog.ifacesRec ·))=true:=by kernel_rfl
theorem c15:(Rows.fnHallRow.mapsOut == Tryz.pinned.checked.prog.mapsAmong Tryz.f6.resultTypes.toList)=true:=by kernel_rfl
theorem c16:(Rows.fnHallRow.loops == (Tryz.f6.params.toList++Rows.fnHallSpec.plain.varTypes Tryz.pinned.checked.prog).any (Tryz.pinned.checked.prog.loopsFrom ·))=true:=by kernel_rfl
theorem c17:(Rows.fnHallRow.wideKeys == (Tryz.f6.params.toList++Rows.fnHallSpec.plain.varTypes Tryz.pinned.checked.prog++Tryz.f6.resultTypes.toList).any (Tryz.pinned.checked.prog.wideKeysFrom ·))=true:=by kernel_rfl
theorem c18:Rows.fnHallSpec.vars.all (Tryz.pinned.checked.prog.varReadable ·)=true:=by kernel_rfl
theorem c19:Tryz.f6.resultTypes.all (λt=>Tryz.pinned.checked.prog.readableRec t && decide (t<Tryz.pinned.checked.prog.types.size))=true:=by kernel_rfl
theorem c20:(Rows.fnHallRow.ifacesOut == Tryz.f6.resultTypes.toList.any (Tryz.pinned.checked.prog.ifacesRec ·))=true:=by kernel_rfl
theorem c21:(Rows.fnHallRow.loopsOut == Tryz.f6.resultTypes.toList.any (Tryz.pinned.checked.prog.loopsFrom ·))=true:=by kernel_rfl
theorem c22:(Rows.fnHallRow.plainKeys == Tryz.pinned.checked.prog.plainKeys)=true:=by kernel_rfl
theorem c23:Rows.fnHallRow.shortTexts.isNone=true:=by kernel_rfl
theorem c24:Tryz.pinned.checked.prog.stopsHeard=true:=by kernel_rfl
theorem c25:Tryz.pinned.checked.prog.mayEnter=true:=by kernel_rfl
theorem c26:(Rows.fnHallRow.lifted == Tryz.pinned.checked.prog.liftsFinal)=true:=by kernel_rfl
theorem c27:(Tryz.pinned.checked.prog.make == some Rows.fnHallRow.make)=true:=by kernel_rfl
theorem c28:(Rows.fnHallRow.kinds == (if Rows.fnHallRow.domain.isEmpty then [] else Tryz.f6.params.toList.map λt=>match Tryz.pinned.checked.prog.underlying t with|some (.int k)=>some k|_=>none))=true:=by kernel_rfl
theorem c29:(Rows.fnHallRow.pinned == Rows.fnHallRow.pinnedBy)=true:=by kernel_rfl
theorem c30:(Rows.fnHallRow.veiled == (Tryz.f6.params.toList++Rows.fnHallSpec.plain.varTypes Tryz.pinned.checked.prog++Tryz.f6.resultTypes.toList).any (Tryz.pinned.checked.prog.veiledRec ·))=true:=by kernel_rfl
theorem c31:Rows.fnHallRow.veiledFits Tryz.pinned.checked.prog Tryz.f6.params.toList (Tryz.f6.params.toList++Rows.fnHallSpec.plain.varTypes Tryz.pinned.checked.prog++Tryz.f6.resultTypes.toList)=true:=by kernel_rfl
set_option maxRecDepth 1000000 in
theorem facts:joinedFacts Tryz.pinned.checked.prog 6 Tryz.f6 Rows.fnHallSpec Rows.fnHallRow=true:=
 Bool.and_eq_true_iff.2 ⟨Bool.and_eq_true_iff.2 ⟨Bool.and_eq_true_iff.2 ⟨Bool.and_eq_true_iff.2 ⟨Bool.and_eq_true_iff.2 ⟨Bool.and_eq_true_iff.2 ⟨Bool.and_eq_true_iff.2 ⟨Bool.and_eq_true_iff.2 ⟨Bool.and_eq_true_iff.2 ⟨Bool.and_eq_true_iff.2 ⟨Bool.and_eq_true_iff.2 ⟨Bool.and_eq_true_iff.2 ⟨Bool.and_eq_true_iff.2 ⟨Bool.and_eq_true_iff.2 ⟨Bool.and_eq_true_iff.2 ⟨Bool.and_eq_true_iff.2 ⟨Bool.and_eq_true_iff.2 ⟨Bool.and_eq_true_iff.2 ⟨Bool.and_eq_true_iff.2 ⟨Bool.and_eq_true_iff.2 ⟨Bool.and_eq_true_iff.2 ⟨Bool.and_eq_true_iff.2 ⟨Bool.and_eq_true_iff.2 ⟨Bool.and_eq_true_iff.2 ⟨Bool.and_eq_true_iff.2 ⟨Bool.and_eq_true_iff.2 ⟨Bool.and_eq_true_iff.2 ⟨Bool.and_eq_true_iff.2 ⟨Bool.and_eq_true_iff.2 ⟨Bool.and_eq_true_iff.2 ⟨Bool.and_eq_true_iff.2 ⟨c0,c1⟩,c2⟩,c3⟩,c4⟩,c5⟩,c6⟩,c7⟩,c8⟩,c9⟩,c10⟩,c11⟩,c12⟩,c13⟩,c14⟩,c15⟩,c16⟩,c17⟩,c18⟩,c19⟩,c20⟩,c21⟩,c22⟩,c23⟩,c24⟩,c25⟩,c26⟩,c27⟩,c28⟩,c29⟩,c30⟩,c31⟩
theorem proved:Rows.FnHallSaid:=
 OpenClaim.holds_of_wide 6 Tryz.f6 rfl rfl rfl rfl rfl rfl rfl ⟨rfl,rfl,rfl,rfl,rfl⟩ rfl rfl rfl rfl rfl (by kernel_rfl) Tryz.func6 facts
  (of_decide_eq_true (by kernel_rfl)) (by unfold Func.isWrapper;first|(rw[if_pos (by decide +kernel)];kernel_rfl)|(rw[if_neg (by decide +kernel)];exact⟨rfl,rfl⟩))
  (λos a H enc _=>lifted os a H enc)
#print axioms proved
end Go.Proofs.YtoakmefajbbggaaGreat.RowHlOf
