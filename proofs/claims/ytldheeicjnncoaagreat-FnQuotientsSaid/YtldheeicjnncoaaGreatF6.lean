/- Merged from templates. -/
import Derived.Test.YtldheeicjnncoaaGreatF5
set_option maxRecDepth 100000
set_option maxHeartbeats 8000000
namespace Go.Proofs.YtldheeicjnncoaaGreat
open Go.RowKit
section
variable {P:Pr}(G:Grp P)
include G
theorem Grp.inv_one:rInv P (zeros P.orders.length)=zeros P.orders.length:=by
 have h:=G.inv_mul G.oneV;rwa [G.grp.er _ (G.invV G.oneV)] at h
theorem Grp.sub_one:Sub P (λx=>x=zeros P.orders.length):=
 ⟨λx h=>by rw[h];exact G.oneV,rfl,λx y hx hy=>by rw[hx,hy];exact G.grp.el _ G.oneV,λx h=>by rw[h];exact G.inv_one⟩
theorem Grp.ind_one:Ind P (λx=>x=zeros P.orders.length) (gt (List.replicate P.orders.length ([]:List Int))):=
 ⟨G.sub_one,λd a h=>absurd (by simp[gt,a]) h,λx hx d a _ b=>absurd (by rw[hx];exact gt_replicate _ _) b⟩
omit G in
theorem genP_one (Q:List Int->Prop):genP P (λx=>x=zeros P.orders.length\/Q x)=genP P Q:=
 funext λx=>propext ⟨λh K S a=>h K S (λy hy=>hy.elim (λe=>by rw[e];exact S.one) (a y)),λh K S a=>h K S (λy hy=>a y (.inr hy))⟩
end
theorem generated_ok (P:Pr) (G:Grp P) (w:World) (p u:Value) (L:List (List Int)) (y C:Nat->Prop) (i:PresP y w p P) (z:Rows2 C w u L) (A:∀x∈L,Vec P.orders x) (e:L.length<=10000) :
  Calls Tryz.prog 134 #[p,u] w (Ret w λw' v=>RowsO w.heap.size w' v (cseq P (genP P (λx=>x∈L)))):=by
 have hP:=G.v;have l:=hP.n6;obtain⟨pb,po,rfl⟩:=i.shape;obtain⟨K,capl,rfl,_,_⟩:=Sl.shape z;have D:=Lib.hid A;clear A;go_enter Tryz.func134,Tryz.ntmps134;go_wp2_with fail
 refine Calls.mono (newSequence_ok P w _ y (λ_=>False) i l) ?_;rintro M E ⟨v1,rfl,hg1,sb,gb,rfl,m⟩;have F:=m.tab.lt;have H:=m.sB;go_wp2_with fail
 refine Calls.mono (add_ok P G E sb gb w.heap.size _ _ L _ (λx=>x=zeros P.orders.length) (i.mono (λk _ a=>⟨by omega,Nat.lt_of_lt_of_le a hg1.size,hg1.block k a (by simp)⟩)) m G.ind_one D.out (Rows2.mono z (λk _ a=>⟨by omega,Nat.lt_of_lt_of_le a hg1.size,hg1.block k a (by simp)⟩)) e) ?_;rintro N B ⟨b2,g,rfl,hg2,q,r,_,_⟩;rw[genP_one] at r;have b:Ext w B:=grown_own hg1 hg2 (λj I a=>by cases I;omega);have J:=Lib.hid r;clear r;go_wp2_with fail
 refine Calls.mono (canonical_ok P G B sb gb w.heap.size _ b2 _ _ _ (i.ext b) q J.out) ?_;rintro O Q ⟨v3,rfl,hg3,hO⟩;go_wp2;go_ret;exact⟨_,rfl,grown_trans b hg3,hO.weak b.size⟩
theorem eqRows_ok (v1 v2:Value) (A B:List (List Int)) (w:World) (I J:Nat->Prop) (h1:Rows2 I w v1 A) (D:Rows2 J w v2 B) :
  Calls Tryz.prog 278 #[v1,v2,.func (.func 167) #[] #[]] w (Ret w λ_ v=>v=.bool (eqB A B)):=by
 obtain⟨a1,cap1,rfl,_,_⟩:=Sl.shape h1;obtain⟨a2,cap2,rfl,_,_⟩:=Sl.shape D;by_cases a:A.length=B.length
 ·have E:=Lib.hid a
  have b:((A.length:Int) != (B.length:Int))=false:=by simp[a]
  clear a;go_enter Tryz.func278,Tryz.ntmps278;go_wp2;go_loopw [17] (λq wr=>∃k:Nat,q=.int .i64 k/\k<=A.length/\Ext w wr/\Hid (∀j,j<k->gt A j=gt B j)) (λq _=>A.length-(intOf q).toNat)
  case atStart=>exact⟨0,rfl,by omega,Ext.refl _,Lib.hid (λj h=>by omega)⟩
  case round=>
   obtain⟨k,rfl,hk,l,hE⟩:=hrel;clear b;by_cases r:k<A.length
   ·have F:(k:Int)<A.length:=by omega
    have G:(k:Int)<B.length:=by have:=E.out;omega
    obtain⟨b1,o1,c1,d1,rfl,_,_,hc1,u⟩:=Rows2.at (Rows2.ext h1 l) k r;obtain⟨b2,o2,c2,d2,rfl,_,_,hc2,y⟩:=Rows2.at (Rows2.ext D l) k (by omega);have K:(0:Int)<=k:=by omega
    go_wp2_with fail
    refine Calls.mono (sEqual_ok _ _ (gt A k) (gt B k) wr _ _ u y) ?_;rintro M N ⟨O,rfl,mJ,rfl⟩;clear hc1 hc2;cases p:eqB (gt A k) (gt B k) with
    | true=>
     have z:=Lib.hid p;clear p;go_wp2;go_roundw
     case rel=>exact⟨k+1,by go_num,by omega,grown_trans l mJ,Lib.hid (λj L=>by
      rcases Nat.lt_succ_iff_lt_or_eq.1 L with h|h
      ·exact hE.out j h
      ·rw[h];exact eqB_true.1 z.out)⟩
     case measure=>simp[intOf];omega
    | false=>
     have H:=eqB_false_at (eqB_false.1 p);have z:=Lib.hid H;clear p H;go_wp2;go_ret;exact⟨_,rfl,grown_trans l mJ,by rw[z.out];rfl⟩
   ·have m:eqB A B=true:=eqB_true.2 (ext_gt E.out (λi hi=>hE.out i (by omega)))
    have C:=Lib.hid m;clear m;go_wp2;go_ret;exact⟨_,rfl,l,by rw[C.out];rfl⟩
 ·have m:eqB A B=false:=eqB_false.2 (λe=>a (by rw[e]))
  have C:=Lib.hid m;clear m;have b:((A.length:Int) != (B.length:Int))=true:=by simp;omega
  clear a;go_enter Tryz.func278,Tryz.ntmps278;go_wp2;go_ret;exact⟨_,rfl,Ext.refl _,by rw[C.out];rfl⟩
theorem sameRows_ok (v1 v2:Value) (A B:List (List Int)) (w:World) (b e:Nat->Prop) (h1:Rows2 b w v1 A) (i:Rows2 e w v2 B) :
  Calls Tryz.prog 187 #[v1,v2] w (Ret w λ_ v=>v=.bool (eqB A B)):=by
 have a:=eqRows_ok v1 v2 A B w b e h1 i;obtain⟨a1,cap1,rfl,_,_⟩:=Sl.shape h1;obtain⟨a2,cap2,rfl,_,_⟩:=Sl.shape i;go_enter Tryz.func187,Tryz.ntmps187;go_wp2_with fail
 refine Calls.mono a ?_;rintro j k ⟨v,rfl,hg,rfl⟩;clear a;go_wp2;go_ret;exact⟨_,rfl,hg,rfl⟩
def SubB (P:Pr) (u:List (List Int)):Prop:=(∀x∈u,Vec P.orders x)/\u=cseq P (genP P (λx=>x∈u))
theorem Grp.cseq_len {P:Pr}(G:Grp P) {H:List Int->Prop}(S:Sub P H):(cseq P H).length<=P.orders.length:=by
 obtain⟨r,_,h⟩:=G.cseq_spec S;rw[h,sq_all];exact sq_len _ _ _
theorem Grp.sub_len {P:Pr}(G:Grp P) {u:List (List Int)}(h:SubB P u):u.length<=P.orders.length:=by
 rw[h.2];exact G.cseq_len (G.genP_sub h.1)
theorem areSubgroups_ok (P:Pr) (w:World) (p lv:Value) (y:List (List (List Int))) (Q S:Nat->Prop) (R:PresP Q w p P) (e:Rows3 S w lv y) :
  Calls Tryz.prog 89 #[p,lv] w (Ret w λ_ v=>∃r:Bool,v=.bool r/\(r=true↔rconsB P=true/\∀u∈y,SubB P u)):=by
 obtain⟨pb,po,rfl⟩:=R.shape;obtain⟨al,capl,rfl,_,_⟩:=Sl.shape e;obtain⟨vo,vp,vc,_,_,hc0,hc1,hc2,h3⟩:=R.at;obtain⟨ao,H,rfl,_,_⟩:=h3.o.shape;obtain⟨ap,capp,rfl,_,_⟩:=Sl.shape h3.p;obtain⟨ac,capc,rfl,_,_⟩:=Sl.shape h3.c;have k:=isConsistent_ok P w (.agg #[.slice ao P.orders.length H,.slice ap P.powers.length capp,.slice ac P.conj.length capc]) Q ⟨_,_,_,rfl,h3⟩;rw[icons_eq] at k;go_enter Tryz.func89,Tryz.ntmps89;go_wp2_with fail
 refine Calls.mono k ?_;rintro e1 w1 ⟨v,rfl,hg1,rfl⟩;clear k;cases hq:rconsB P with
 | false=>
  have V:=Lib.hid hq;clear hq;go_wp2;go_ret;exact⟨_,rfl,hg1,false,rfl,by simp only[Bool.false_eq_true,false_iff];rintro⟨h,_⟩;rw[V.out] at h;cases h⟩
 | true =>
  have G:=grp_of_r hq;have ai:=G.v.n6;have V:=Lib.hid hq;clear hq hc1 hc2;go_wp2;go_loopw [16] (λW wr=>∃i:Nat,W=.int .i64 i/\i<=y.length/\Ext w wr/\Hid (∀j,j<i->SubB P (gt y j))) (λW _=>y.length-(intOf W).toNat)
  case atStart=>exact⟨0,rfl,by omega,hg1,Lib.hid (λj h=>by omega)⟩
  case round=>
   obtain⟨i,rfl,hi,a,hS⟩:=hrel;by_cases z:i<y.length
   ·have ae:(i:Int)<y.length:=by omega
    obtain⟨b,off,a2,cap2,rfl,_,_,I,F⟩:=Rows3.at e i z;obtain⟨U,hU⟩:∃U,U=gt y i:=⟨_,rfl⟩;rw[<-hU] at I F;have A:=Lib.hid hU;clear hU;have J:=a.cell hc0 (by simp);have K:=a.cell I (by simp);by_cases C:U.length<=P.orders.length
    ·have L:¬(P.orders.length:Int)<U.length:=by omega
     go_wp2;clear K J L;go_loopw [30] (λX wr=>∃j:Nat,X=.int .i64 j/\j<=U.length/\Ext w wr/\Hid (∀l,l<j->Vec P.orders (gt U l))) (λX _=>U.length-(intOf X).toNat)
     case atStart=>exact⟨0,rfl,by omega,a,Lib.hid (λj h=>by omega)⟩
     case round=>
      clear a;obtain⟨j,rfl,hj,a,hV⟩:=hrel;by_cases M:j<U.length
      ·have af:(j:Int)<U.length:=by omega
       obtain⟨b3,kO,a3,cap3,rfl,_,_,hc3,Y⟩:=Rows2.at (Rows2.ext F a) j M;have hex:=isExponents_ok wr _ _ P (gt U j) Q S (R.ext a) Y (λi hi=>by have:=G.v.ord7 i hi;omega);cases m:expB P.orders (gt U j) with
       | true=>
        rw[m] at hex;have B:=Lib.hid (expB_vec.1 m);clear m;go_wp2_with fail
        refine Calls.mono hex ?_;rintro eE wE ⟨rfl,rfl⟩;clear hex;go_wp2;go_roundw
        case rel=>exact⟨j+1,by go_num,by omega,a,Lib.hid (λl e=>by
         rcases Nat.lt_succ_iff_lt_or_eq.1 e with h|h
         ·exact hV.out l h
         ·rw[h];exact B.out)⟩
        case measure=>simp[intOf];omega
       | false=>
        rw[m] at hex
        have q:¬SubB P U:=λh=>by
         have:=expB_vec.2 (h.1 _ (gtMem M));rw[m] at this;cases this
        have B:=Lib.hid q;clear m q;go_wp2_with fail
        refine Calls.mono hex ?_;rintro eE wE ⟨rfl,rfl⟩;clear hex;go_wp2;go_ret
        exact ⟨_,rfl,a,false,rfl,by
         simp only[Bool.false_eq_true,false_iff];rintro⟨_,h⟩;exact B.out (by rw[A.out];exact h _ (gtMem z))⟩
      ·have Z:j=U.length:=by omega
       subst Z
       have D:∀x∈U,Vec P.orders x:=λx hx=>by
        obtain⟨l,e,rfl⟩:=List.getElem_of_mem hx;rw[<-gt_eq U l e];exact hV.out l e
       have am:(cseq P (genP P (λx=>x∈U))).length<=P.orders.length:=G.cseq_len (G.genP_sub D);have N:=Lib.hid D;clear D;go_wp2_with fail
       refine Calls.mono (generated_ok P G wr _ _ U Q S (R.ext a) (Rows2.ext F a) N.out (by omega)) ?_;rintro eG wG ⟨vG,rfl,jP,aa⟩;have E:=grown_trans a jP;have O:=RowsD.rows (aa.toD (by omega));obtain⟨aG,capG,je,_,_⟩:=Sl.shape O;subst je;go_wp2_with fail
       refine Calls.mono (sameRows_ok _ _ _ U wG _ _ O (Rows2.ext F E)) ?_;rintro eS wS ⟨vS,rfl,gG,rfl⟩;cases m:eqB (cseq P (genP P (λx=>x∈U))) U with
       | true=>
        have B:=Lib.hid (eqB_true.1 m);clear m;go_wp2;go_roundw
        case rel=>exact⟨i+1,by go_num,by omega,grown_trans E gG,Lib.hid (λl e=>by
         rcases Nat.lt_succ_iff_lt_or_eq.1 e with h|h
         ·exact hS.out l h
         ·rw[h,<-A.out];exact⟨N.out,B.out.symm⟩)⟩
        case measure=>simp[intOf];omega
       | false=>
        have B:=Lib.hid (eqB_false.1 m);clear m;go_wp2;go_ret
        exact ⟨_,rfl,grown_trans E gG,false,rfl,by
         simp only[Bool.false_eq_true,false_iff];rintro⟨_,h⟩;have:=h _ (gtMem z);rw[<-A.out] at this;exact B.out this.2.symm⟩
    ·have L:(P.orders.length:Int)<U.length:=by omega
     have q:¬SubB P U:=λh=>C (G.sub_len h);have B:=Lib.hid q;clear q C;go_wp2;go_ret
     exact ⟨_,rfl,a,false,rfl,by
      simp only[Bool.false_eq_true,false_iff];rintro⟨_,h⟩;exact B.out (by rw[A.out];exact h _ (gtMem z))⟩
   ·have ab:i=y.length:=by omega
    subst ab;go_wp2;go_ret
    exact ⟨_,rfl,a,true,rfl,by
     simp only[true_iff]
     exact ⟨V.out,λu F=>by
      obtain⟨l,e,rfl⟩:=List.getElem_of_mem F;rw[<-gt_eq y l e];exact hS.out l e⟩⟩
end Go.Proofs.YtldheeicjnncoaaGreat
namespace Go.Proofs.YtldheeicjnncoaaGreat
theorem pwZ_nat (P:Pr) (x:List Int) (k:Int) (hk:0<=k):pwZ P x k=pw P x k.toNat:=by
 unfold pwZ;rw[if_neg (by omega)]
def tabTo (U:List (List Int)) (n:Nat):Nat->List (List Int)
 | 0=>List.replicate n []
 | k+1=>(tabTo U n k).set (dep (gt U k)) (gt U k)
theorem tabTo_len (U:List (List Int)) (n k:Nat):(tabTo U n k).length=n:=by
 induction k with
 | zero=>simp[tabTo]
 | succ k a=>simp only[tabTo,List.length_set];exact a
theorem tabTo_at (P:Pr) (U:List (List Int)):∀k,k<=U.length->∀d,d<P.orders.length ->
  (gt (tabTo U P.orders.length k) d=[]/\∀j,j<k->dep (gt U j)≠d)\/∃j,j<k/\dep (gt U j)=d/\gt (tabTo U P.orders.length k) d=gt U j:=by
 intro k;induction k with
 | zero=>intro _ d b;exact .inl ⟨by simp[tabTo,gt,b],λj a=>by omega⟩
 | succ k e=>
  intro hk d b;have i:=tabTo_len U P.orders.length k;simp only[tabTo];by_cases h:dep (gt U k)=d
  ·right
   exact⟨k,by omega,h,by rw[h,gt_set_eq _ _ _ (by omega)]⟩
  ·rw [gt_set_ne _ _ _ _ h]
   rcases e (by omega) d b with⟨h1,h2⟩|⟨j,h1,h2,h3⟩
   ·left
    refine⟨h1,λj a => ?_⟩;rcases Nat.lt_succ_iff_lt_or_eq.1 a with a|a
    ·exact h2 j a
    ·rw[a];exact h
   ·right
    exact⟨j,by omega,h2,h3⟩
theorem tabTo_vec {P:Pr}{U:List (List Int)}(hU:SeqOk P U) (d:Nat) (e:d<P.orders.length) (b:gt (tabTo U P.orders.length U.length) d≠[]) :
  T P d (gt (tabTo U P.orders.length U.length) d)/\gt (gt (tabTo U P.orders.length U.length) d) d=1:=by
 rcases tabTo_at P U U.length (Nat.le_refl _) d e with⟨h,_⟩|⟨j,i,hjd,k⟩
 ·exact absurd h b
 ·obtain ⟨a,_,c⟩:=hU.1 _ (gtMem i)
  rw[k,<-hjd];exact⟨dep_T a,c⟩
structure RedTo (P:Pr) (H:List Int->Prop) (b:List (List Int)) (X:List Int) (d:Nat) (Y:List Int):Prop where
 vec:Vec P.orders Y
 cos:H (rMul P (rInv P X) Y)
 zer:∀e,e<d->gt b e≠[]->gt Y e=0
structure StripTo (P:Pr) (b:List (List Int)) (X:List Int) (d:Nat) (Y:List Int):Prop where
 vec:T P d Y
 inv:∀Q q R,AddInv P Q (gt b) (X :: q) R->∃R',AddInv P Q (gt b) (Y :: q) R'
structure FullTo (P:Pr) (r:Nat->List Int) (m:Nat) (X:List Int) (e:Nat) (Y:List Int):Prop where
 vec:Vec P.orders Y
 zer:∀i,m<=i->i<e->r i≠[]->gt Y i=0
 cos:∀K,Sub P K->(∀i,m<=i->i<P.orders.length->r i≠[]->K (r i))->K (rMul P (rInv P X) Y)
 old:∀k,(∀i,m<=i->i<P.orders.length->r i≠[]->k<i)->gt Y k=gt X k
def comsR (P:Pr) (b:List (List Int)) (z:List Int):Nat->List (List Int)
 | 0=>[]
 | k+1=>comsR P b z k++(if gt b k=[] then [] else [comR P z (gt b k)])
theorem comsR_len (P:Pr) (b:List (List Int)) (z:List Int) (k:Nat):(comsR P b z k).length<=k:=by
 induction k with
 | zero=>exact Nat.le_refl _
 | succ k a=>simp only[comsR];split<;>simp<;>omega
theorem mem_comsR {P:Pr}{b:List (List Int)}{z x:List Int}{k:Nat} : x∈comsR P b z k↔∃e,e<k/\gt b e≠[]/\x=comR P z (gt b e):=by
 induction k with
 | zero=>simp[comsR]
 | succ k j=>
  simp only[comsR,List.mem_append,j];constructor
  ·rintro (⟨e,h1,a,i⟩|h)
   ·exact⟨e,by omega,a,i⟩
   ·split at h
    ·simp at h
    ·rename_i hk
     simp at h
     exact⟨k,by omega,hk,h⟩
  ·rintro ⟨e,h1,a,i⟩
   rcases Nat.lt_succ_iff_lt_or_eq.1 h1 with h|h
   ·exact .inl ⟨e,h,a,i⟩
   ·subst h;right;rw[if_neg a];simp[i]
section
variable {P:Pr}(G:Grp P)
include G
theorem Grp.ind_tab {H:List Int->Prop}(S:Sub P H):Ind P H (gt (tabTo (cseq P H) P.orders.length (cseq P H).length)):=by
 obtain⟨h1,h2,h3⟩:=G.seq_facts S;refine⟨S,λd a b => ?_,λx hx d a l m => ?_⟩
 ·refine ⟨?_,tabTo_vec h1 d a b⟩
  rcases tabTo_at P _ _ (Nat.le_refl _) d a with⟨h,_⟩|⟨j,e,_,k⟩
  ·exact absurd h b
  ·rw[k];exact h2 _ (gtMem e)
 ·obtain ⟨j,e,hjd⟩:=h3 x hx d a l m
  rcases tabTo_at P _ _ (Nat.le_refl _) d a with⟨_,h⟩|⟨i,hi,_,k⟩
  ·exact absurd hjd (h j e)
  ·rw [k]
   intro hn;have:=(h1.1 _ (gtMem hi)).1.1;rw[hn] at this;simp at this;omega
theorem Grp.redTo_zero {H:List Int->Prop}{b:List (List Int)}(S:Sub P H) {X:List Int}(a:Vec P.orders X):RedTo P H b X 0 X:=
 ⟨a,by rw[G.inv_mul a];exact S.one,λe i=>by omega⟩
omit G in
theorem RedTo.skip {H:List Int->Prop}{b:List (List Int)}{X Y:List Int}{d:Nat}(h:RedTo P H b X d Y) (i:gt b d=[]\/gt Y d=0):RedTo P H b X (d+1) Y:=
 ⟨h.vec,h.cos,λe j a=>by
  rcases Nat.lt_succ_iff_lt_or_eq.1 j with h1|h1
  ·exact h.zer e h1 a
  ·subst h1;exact i.elim (λh=>absurd h a) id⟩
theorem Grp.redTo_step {H:List Int->Prop}{b:List (List Int)}(I:Ind P H (gt b)) {X Y:List Int}{d:Nat}(l:Vec P.orders X) (j:d<P.orders.length) (m:gt b d≠[]) (h:RedTo P H b X d Y) :
  RedTo P H b X (d+1) (rMul P Y (pwZ P (gt b d) (-(gt Y d)))):=by
 obtain⟨p,k,m3⟩:=I.mem d j m;have a:=G.right_clear j h.vec k m3;refine⟨a.2.2,?_,λe q i => ?_⟩
 ·rw [<-G.ass (G.invV l) h.vec (G.pwZ_vec k.1 _)]
  exact I.sub.mul _ _ h.cos (I.sub.pwZ p _)
 ·rcases Nat.lt_succ_iff_lt_or_eq.1 q with h1|h1
  ·rw[a.2.1 e h1];exact h.zer e h1 i
  ·subst h1;exact a.1
omit G in
theorem RedTo.rep {H:List Int->Prop}{b:List (List Int)}{X Y:List Int}(h:RedTo P H b X P.orders.length Y):Rep P H (gt b) X Y:=⟨h.vec,h.cos,h.zer⟩
omit G in
theorem stripTo_zero {b:List (List Int)}{X:List Int}(a:Vec P.orders X):StripTo P b X 0 X:=⟨T_zero.2 a,λ_ _ R A=>⟨R,A⟩⟩
omit G in
theorem StripTo.skip {b:List (List Int)}{X Y:List Int}{d:Nat}(h:StripTo P b X d Y) (a:gt Y d=0):StripTo P b X (d+1) Y:=⟨h.vec.up a,h.inv⟩
theorem Grp.stripTo_step {b:List (List Int)}{X Y:List Int}{d:Nat}(l:d<P.orders.length) (p:gt b d≠[]) (a:T P d (gt b d)/\gt (gt b d) d=1) (r:gt Y d≠0) (h:StripTo P b X d Y) :
  StripTo P b X (d+1) (rMul P Y (pwZ P (gt b d) (-(gt Y d)))):=by
 have e:=G.right_clear l h.vec.1 a.1 a.2;have m:T P (d+1) (rMul P Y (pwZ P (gt b d) (-(gt Y d)))):=T.up ⟨e.2.2,λk hk=>by rw[e.2.1 k hk];exact h.vec.2 k hk⟩ e.1;have i:=G.pwZ_vec a.1.1 (-(gt Y d));refine⟨m,λQ q R A => ?_⟩;obtain⟨w,A1⟩:=h.inv Q q R A;refine⟨_,addInv_sift A1 l h.vec r p m (λK S h1 j => ?_) (λK S h1 j=>S.mul _ _ j (S.pwZ h1 _))⟩;have u:=S.mul _ _ j (S.inv _ (S.pwZ h1 (-(gt Y d))));rwa [G.ass h.vec.1 i (G.invV i),G.mul_inv i,G.grp.er _ h.vec.1] at u
theorem Grp.close_step {Q:List Int->Prop}{b q q':List (List Int)}{R:List Int->Prop}{y:List Int}(A:AddInv P Q (gt b) (y :: q) R) {d:Nat}(m:d<P.orders.length) (p:T P d y) (w:gt b d=[]) (r:b.length=P.orders.length)
  (k:Int) (i:0<=k) (hk:(k*gt y d)%gt P.orders d=1) (a:∀x,x∈q'↔x∈q\/x=y\/x=pw P (pw P y k.toNat) (gt P.orders d).toNat\/x∈comsR P b (pw P y k.toNat) P.orders.length) :
  ∃R',AddInv P Q (gt (b.set d (pw P y k.toNat))) q' R':=by
 obtain⟨z,hz1⟩:=G.lead_one m p k i hk;refine⟨_,G.addInv_insert A m p w z hz1 (λK S h=>S.pw h _) (λe u => ?_) (λx hx => ?_) (λx hx => ?_) (λe u j => .inr ?_)⟩
 ·by_cases h:e=d
  ·subst h;rw[if_pos rfl,gt_set_eq _ _ _ (by omega)]
  ·rw[if_neg h,gt_set_ne _ _ _ _ (λl=>h l.symm)]
 ·rcases (a x).1 hx with h|h|h|h
  ·exact .inl h
  ·exact .inr (.inl h)
  ·exact .inr (.inr (.inr (.inl h)))
  ·obtain ⟨e,h1,l,h3⟩:=mem_comsR.1 h
   exact .inr (.inr (.inr (.inr ⟨e,h1,l,.inr h3⟩)))
 ·rw [a]
  rcases hx with h|h|h
  ·exact .inl h
  ·exact .inr (.inl h)
  ·exact .inr (.inr (.inl h))
 ·rw [a]
  exact .inr (.inr (.inr (mem_comsR.2 ⟨e,u,j,rfl⟩)))
theorem Grp.fullTo_zero {r:Nat->List Int}{m:Nat}{X:List Int}(a:Vec P.orders X):FullTo P r m X m X:=
 ⟨a,λi h1 b=>by omega,λK S _=>by rw[G.inv_mul a];exact S.one,λ_ _=>rfl⟩
omit G in
theorem FullTo.skip {r:Nat->List Int}{m e:Nat}{X Y:List Int}(h:FullTo P r m X e Y) (b:r e=[]\/gt Y e=0):FullTo P r m X (e+1) Y:=
 ⟨h.vec,λi h1 j hr=>by
  rcases Nat.lt_succ_iff_lt_or_eq.1 j with a|a
  ·exact h.zer i h1 a hr
  ·subst a;exact b.elim (λh=>absurd h hr) id,h.cos,h.old⟩
theorem Grp.fullTo_step {r:Nat->List Int}{m e:Nat}{X Y:List Int}(w:Vec P.orders X) (a:m<=e) (l:e<P.orders.length) (hr:r e≠[]) (p:T P e (r e)/\gt (r e) e=1) (h:FullTo P r m X e Y) :
  FullTo P r m X (e+1) (rMul P Y (pwZ P (r e) (-(gt Y e)))):=by
 have b:=G.right_clear l h.vec p.1 p.2;refine⟨b.2.2,λi h1 y q => ?_,λK S u => ?_,λk hk=>by rw[b.2.1 k (hk e a l hr)];exact h.old k hk⟩
 ·rcases Nat.lt_succ_iff_lt_or_eq.1 y with j|j
  ·rw[b.2.1 i j];exact h.zer i h1 j q
  ·subst j;exact b.1
 ·rw [<-G.ass (G.invV w) h.vec (G.pwZ_vec p.1.1 _)]
  exact S.mul _ _ (h.cos K S u) (S.pwZ (u e a l hr) _)
omit G in
theorem FullTo.repTo {H:List Int->Prop}{b r:Nat->List Int}{d k:Nat}{X Y:List Int}(h:FullTo P r (d+1) X P.orders.length Y) (C:CanInv P H b r (d+1)) (hk:d+1+k=P.orders.length) :
  RepTo P (sq r k (d+1)) X (sq r k (d+1)).length Y:=by
 refine ⟨h.vec,λj l => ?_,λK S p=>h.cos K S (λi h1 m a=>p _ (mem_sq.2 ⟨i,h1,by omega,a,rfl⟩)),λj l=>h.old j (λi h1 m a=>by
  have:=l _ (mem_sq.2 ⟨i,h1,by omega,a,rfl⟩);rwa [C.dep h1 m a] at this)⟩
 obtain⟨e,h1,m,a,q⟩:=mem_sq.1 (gtMem l);rw[q,C.dep h1 (by omega) a];exact h.zer e h1 (by omega) a
end
theorem genP_self {P:Pr}{H:List Int->Prop}(S:Sub P H):genP P H=H:=
 funext λ_=>propext ⟨λh=>h H S (λ_ hy=>hy),λh=>genP_mem h⟩
theorem genP_or (P:Pr) (Q L:List Int->Prop):genP P (λx=>genP P Q x\/L x)=genP P (λx=>Q x\/L x):=
 funext λ_=>propext ⟨λh K S a=>h K S (λy hy=>hy.elim (λh=>h K S (λz b=>a z (.inl b))) (λh=>a y (.inr h))),
  λh K S a=>h K S (λy hy=>hy.elim (λh=>a y (.inl (genP_mem h))) (λh=>a y (.inr h)))⟩
theorem Grp.genP_none {P:Pr}(G:Grp P):genP P (λ_=>False)=λx=>x=zeros P.orders.length:=
 funext λ_=>propext ⟨λh=>h _ G.sub_one (λ_ h=>h.elim),λh K S _=>by rw[h];exact S.one⟩
theorem Grp.genP_cseq {P:Pr}(G:Grp P) {H:List Int->Prop}(S:Sub P H):genP P (λx=>x∈cseq P H)=H:=by
 have a:=G.seq_facts S;have hV:∀y,y∈cseq P H->Vec P.orders y:=λy hy=>S.vec y (a.2.1 y hy);refine funext λx=>propext ⟨λh=>h H S a.2.1,λh => ?_⟩;exact elsP_sub (G.genP_sub hV) (λz b=>genP_mem b) _ (Nat.le_refl _) x ((G.elsP_mem S a.1 a.2.1 a.2.2 x).2 h)
theorem Grp.subB {P:Pr}(G:Grp P) {u:List (List Int)}(h:SubB P u):Sub P (genP P (λx=>x∈u)):=G.genP_sub h.1
theorem Grp.subB_cseq {P:Pr}(G:Grp P) {H:List Int->Prop}(S:Sub P H):SubB P (cseq P H):=
 ⟨λx hx=>S.vec x ((G.seq_facts S).2.1 x hx),by rw[G.genP_cseq S]⟩
end Go.Proofs.YtldheeicjnncoaaGreat
namespace Go.Proofs.YtldheeicjnncoaaGreat
open Go.RowKit
def prodU (P:Pr) (U:List (List Int)):Nat->Int
 | 0=>1
 | k+1=>prodU P U k*gt P.orders (dep (gt U k))
theorem prodU_le {P:Pr}(hP:Valid P) {U:List (List Int)}(hU:SeqOk P U):∀k m,k<=U.length->(∀j,j<k->dep (gt U j)<m)->m<=P.orders.length->1<=prodU P U k/\prodU P U k<=prodTo P.orders m:=by
 intro k;induction k with
 | zero=>intro m _ _ e;exact⟨by simp[prodU],prodTo_pos m (λi hi=>hP.pos i (by omega))⟩
 | succ k l=>
  intro m hk a e;have q:=a k (by omega);have b:k<U.length:=by omega
  obtain⟨h1,h2⟩:=l (dep (gt U k)) (by omega) (λj a=>hU.2 j k a b) (by omega);have r:=hP.ord7 (dep (gt U k)) (by omega);have u:prodU P U k*gt P.orders (dep (gt U k))<=prodTo P.orders (dep (gt U k))*gt P.orders (dep (gt U k)):=Int.mul_le_mul_of_nonneg_right h2 (by omega);have p:prodTo P.orders (dep (gt U k)+1)<=prodTo P.orders m:=prodTo_mono _ _ (by omega) (λi hi=>hP.pos i (by omega));have w:1*1<=prodU P U k*gt P.orders (dep (gt U k)):=Int.mul_le_mul h1 (by omega) (by omega) (by omega);simp only[prodTo] at p;simp only[prodU];exact⟨by omega,by omega⟩
theorem prodU_729 {P:Pr}(hP:Valid P) {U:List (List Int)}(hU:SeqOk P U) (k:Nat) (hk:k<=U.length):1<=prodU P U k/\prodU P U k<=729:=by
 obtain⟨h1,h2⟩:=prodU_le hP hU k P.orders.length hk (λj a=>(hU.1 _ (gtMem (by omega))).2.1) (Nat.le_refl _);have:=hP.le729;exact⟨h1,by omega⟩
theorem sizeOf_ok (P:Pr) (hP:Valid P) (w:World) (p H:Value) (U:List (List Int)) (O I:Nat->Prop) (J:PresP O w p P) (K:Rows2 I w H U) (hU:SeqOk P U) (hl:U.length<=100) :
  Calls Tryz.prog 122 #[p,H] w (Ret w λ_ v=>v=.int .i64 (prodU P U U.length)):=by
 have Q:=hP.n6;obtain⟨pb,po,rfl⟩:=J.shape;obtain⟨ao,capo,gy,y⟩:=J.ordAt;obtain⟨au,capu,rfl,_,_⟩:=Sl.shape K;have A:∀z∈U,dep z<z.length:=λz R=>by have:=hU.1 z R;rw[this.1.1];exact this.2.1
 have L:=Lib.hid hU;clear hU;go_enter Tryz.func122,Tryz.ntmps122;go_wp2_with fail
 refine Calls.mono (pivots_ok _ U w I K A (by omega)) ?_;rintro e1 S ⟨pv,rfl,j,k⟩
 have m:∃V q,pv=.slice V U.length q:=by
  rcases k.form with⟨h1,l⟩|⟨g,cp,h1,_⟩
  ·have W:U.length=0:=by unfold depV at l;rw[List.map_eq_nil_iff] at l;rw[l];rfl
   exact⟨none,0,by rw[h1,W]⟩
  ·exact⟨_,_,by rw[h1];unfold depV;rw[List.length_map]⟩
 obtain⟨ap,capp,rfl⟩:=m;go_wp2;go_loopw [5,11] (λX B wr=>∃i:Nat,X=.int .i64 (prodU P U i)/\B=.int .i64 i/\i<=U.length/\S=wr) (λ_ B _=>U.length-(intOf B).toNat)
 case atStart=>exact⟨0,rfl,rfl,by omega,rfl⟩
 case round=>
  obtain⟨i,rfl,rfl,hi,rfl⟩:=hrel;by_cases a:i<U.length
  ·have M:(i:Int)<U.length:=by omega
   have r:gt (depV U) i=.int .i64 (dep (gt U i)):=by unfold depV;rw[gt_map _ _ _ a]
   have C:∃g,ap=some ⟨g,0,none⟩:=by
    rcases k.form with⟨h1,l⟩|⟨g,cp,h1,_⟩
    ·unfold depV at l;rw[List.map_eq_nil_iff] at l;rw[l] at a;simp at a
    ·simp only[Value.slice.injEq] at h1;exact⟨g,h1.1⟩
   obtain⟨gp,rfl⟩:=C;have u:=k.cell i (by unfold depV;rw[List.length_map];exact a);rw[r] at u;clear r;have e:prodU P U (i+1)=prodU P U i*gt P.orders (dep (gt U i)):=rfl;have D:=prodU_729 hP L.out (i+1) a;rw[e] at D;obtain⟨d,E⟩:∃d,d=dep (gt U i):=⟨_,rfl⟩;rw[<-E] at u e D;have F:d<P.orders.length:=by rw[E];exact(L.out.1 _ (gtMem a)).2.1
   clear E;have N:(d:Int)<P.orders.length:=by omega
   obtain⟨b,off,rfl,_,_,dM⟩:=Ints.at (y.ext j) d F;have Y:=j.cell gy (by simp);have hw:IntKind.i64.wrap (prodU P U i*gt P.orders d)=prodU P U i*gt P.orders d:=IntWalk.i64_in _ (by omega);have Z:=Lib.hid e;clear e D;go_wp2;go_roundw
   case rel=>exact⟨i+1,by rw[Z.out],by go_num,by omega,trivial⟩
   case measure=>simp[intOf];omega
  ·have G:i=U.length:=by omega
   subst G;go_wp2;go_ret;exact⟨_,rfl,j,rfl⟩
end Go.Proofs.YtldheeicjnncoaaGreat
namespace Go.Proofs.YtldheeicjnncoaaGreat
def prodR (P:Pr) (U:List (List Int)) (a:List Int):Nat->List Int
 | 0=>zeros P.orders.length
 | k+1=>rMul P (prodR P U a k) (pwZ P (gt U k) (gt a k))
section
variable {P:Pr}(G:Grp P)
include G
theorem Grp.prodR_vec {U:List (List Int)}(hU:∀z∈U,Vec P.orders z) (a:List Int) (k:Nat) (hk:k<=U.length):Vec P.orders (prodR P U a k):=by
 induction k with
 | zero=>exact G.oneV
 | succ k b=>exact G.mulV (b (by omega)) (G.pwZ_vec (hU _ (gtMem (by omega))) _)
end
theorem stepE_len (P:Pr) (u:List Int) (o:Nat) (x:List Int):(stepE P u o x).length=o:=by unfold stepE;simp
theorem flatMap_len (P:Pr) (u:List Int) (o:Nat) (l:List (List Int)):(l.flatMap (stepE P u o)).length=l.length*o:=by
 induction l with
 | nil=>simp
 | cons x l a=>rw[List.flatMap_cons,List.length_append,a,stepE_len,List.length_cons,Nat.add_mul];omega
theorem elsP_len {P:Pr}(hP:Valid P) {U:List (List Int)}(hU:SeqOk P U) (k:Nat) (hk:k<=U.length):((elsP P U k).length:Int)=prodU P U k:=by
 induction k with
 | zero=>simp[elsP,prodU]
 | succ k a=>
  have a:=a (by omega);have b:=hP.ord7 (dep (gt U k)) (hU.1 _ (gtMem (by omega))).2.1;simp only[elsP,prodU];rw[flatMap_len,Int.natCast_mul,a,show(((gt P.orders (dep (gt U k))).toNat:Nat):Int)=gt P.orders (dep (gt U k)) by omega]
theorem Grp.step_mul {P:Pr}(G:Grp P) {x u:List Int}(hx:Vec P.orders x) (a:Vec P.orders u) (t:Nat):rMul P (rMul P x (pw P u t)) u=rMul P x (pw P u (t+1)):=by
 rw[pw_succ,G.ass hx (G.pw_vec a t) a]
def nWord (e:List Int):Nat->List Int
 | 0=>[]
 | k+1=>nWord e k++List.replicate (gt e k).toNat ((k:Int)+1)
def invWord (w:List Int):List Int:=(w.map (λl => -l)).reverse
def WordN (n:Nat) (w:List Int):Prop:=∀l∈w,(1<=l/\l<=n)\/(-(n:Int)<=l/\l <= -1)
theorem WordN.nil (n:Nat):WordN n []:=λl h=>by cases h
theorem WordN.app {n:Nat}{a b:List Int}(h:WordN n a) (k:WordN n b):WordN n (a++b):=λl e=>(List.mem_append.1 e).elim (h l) (k l)
theorem WordN.rep {n k:Nat}(m:Nat) (hk:k<n):WordN n (List.replicate m ((k:Int)+1)):=λl a=>by
 have:=(List.mem_replicate.1 a).2;omega
theorem WordN.nWord {n:Nat}(e:List Int):∀k,k<=n->WordN n (nWord e k)
 | 0,_=>WordN.nil n
 | k+1,h=>(WordN.nWord e k (by omega)).app (WordN.rep _ (by omega))
theorem WordN.inv {n:Nat}{w:List Int}(h:WordN n w):WordN n (invWord w):=λl b=>by
 unfold invWord at b;rw[List.mem_reverse,List.mem_map] at b;obtain⟨a,ha,rfl⟩:=b;have:=h a ha;omega
theorem nWord_len {e:List Int}(h:∀i,gt e i<=7):∀k,(nWord e k).length<=7*k
 | 0=>by simp[nWord]
 | k+1=>by
  have:=nWord_len h k;have:=h k;simp only[nWord,List.length_append,List.length_replicate];omega
theorem invWord_len (w:List Int):(invWord w).length=w.length:=by unfold invWord;simp
def relPow (P:Pr) (i:Nat):List Int:=List.replicate (gt P.orders i).toNat ((i:Int)+1)++invWord (nWord (gt P.powers i) P.orders.length)
def relCon (P:Pr) (i k:Nat):List Int:=[-((i:Int)+1),(i:Int)+k+2,(i:Int)+1]++invWord (nWord (gt (gt P.conj i) k) P.orders.length)
def relPs (P:Pr):Nat->List (List Int)
 | 0=>[]
 | k+1=>relPs P k++[relPow P k]
def relCs (P:Pr) (i:Nat):Nat->List (List Int)
 | 0=>[]
 | k+1=>relCs P i k++[relCon P i k]
def relTo (P:Pr):Nat->List (List Int)
 | 0=>relPs P P.orders.length
 | i+1=>relTo P i++relCs P i (gt P.conj i).length
def relsP (P:Pr):List (List Int):=relTo P P.orders.length
theorem relPs_len (P:Pr) (k:Nat):(relPs P k).length=k:=by
 induction k with
 | zero=>rfl
 | succ k a=>rw[relPs,List.length_append,a];rfl
theorem relCs_len (P:Pr) (i k:Nat):(relCs P i k).length=k:=by
 induction k with
 | zero=>rfl
 | succ k a=>rw[relCs,List.length_append,a];rfl
def evalTo (Q:Pr) (Is:List (List Int)) (w:List Int):Nat->List Int
 | 0=>zeros Q.orders.length
 | k+1=>rMul Q (evalTo Q Is w k) (if gt w k<0 then rInv Q (gt Is (-(gt w k)-1).toNat) else gt Is ((gt w k)-1).toNat)
def HomB (P Q:Pr) (Is:List (List Int)):Prop:=rconsB P=true/\rconsB Q=true/\Is.length=P.orders.length/\(∀x∈Is,Vec Q.orders x)/\∀w∈relsP P,evalTo Q Is w w.length=zeros Q.orders.length
def backP (P Q:Pr) (Is:List (List Int)) (H:List Int->Prop) (x:List Int):Prop:=Vec P.orders x/\H (prodR Q Is x Is.length)
section
variable {Q:Pr}(G:Grp Q)
include G
theorem Grp.eval_vec {Is:List (List Int)}{w:List Int}(h:∀x∈Is,Vec Q.orders x) (b:WordN Is.length w):∀k,k<=w.length->Vec Q.orders (evalTo Q Is w k):=by
 intro k;induction k with
 | zero=>intro _;exact G.oneV
 | succ k a=>
  intro hk;have e:=b _ (gtMem (l:=w) (i:=k) (by omega));rw[evalTo];split
  ·exact G.mulV (a (by omega)) (G.invV (h _ (gtMem (by omega))))
  ·exact G.mulV (a (by omega)) (h _ (gtMem (by omega)))
omit G in
theorem prodR_step {Is:List (List Int)}{x:List Int}{i:Nat}(hx:0<=gt x i):prodR Q Is x (i+1)=rMul Q (prodR Q Is x i) (pw Q (gt Is i) (gt x i).toNat):=by
 rw[prodR];unfold pwZ;rw[if_neg (by omega)]
end
theorem relPow_word {P:Pr}{i:Nat}(hi:i<P.orders.length):WordN P.orders.length (relPow P i):=
 (WordN.rep _ hi).app (WordN.nWord _ _ (Nat.le_refl _)).inv
theorem relCon_word {P:Pr}{i k:Nat}(hi:i+k+1<P.orders.length):WordN P.orders.length (relCon P i k):=
 WordN.app (λl a=>by simp at a;omega) (WordN.nWord _ _ (Nat.le_refl _)).inv
theorem relPs_word {P:Pr} : ∀k,k<=P.orders.length->∀w∈relPs P k,WordN P.orders.length w
 | 0,_,w,h=>by cases h
 | k+1,hk,w,h=>by
  rcases List.mem_append.1 h with h1|h1
  ·exact relPs_word k (by omega) w h1
  ·rw[List.mem_singleton.1 h1];exact relPow_word (by omega)
theorem relCs_word {P:Pr}{i:Nat} : ∀k,i+k<P.orders.length->∀w∈relCs P i k,WordN P.orders.length w
 | 0,_,w,h=>by cases h
 | k+1,hk,w,h=>by
  rcases List.mem_append.1 h with h1|h1
  ·exact relCs_word k (by omega) w h1
  ·rw[List.mem_singleton.1 h1];exact relCon_word (by omega)
theorem flatMap_len' {α b:Type}(l:List α) (f:α->List b) (n:Nat) (h:∀x∈l,(f x).length=n):(l.flatMap f).length=l.length*n:=by
 induction l with
 | nil=>simp
 | cons a l e=>
  rw[List.flatMap_cons,List.length_append,h a (List.mem_cons_self ..),e (λx hx=>h x (List.mem_cons_of_mem _ hx)),List.length_cons,Nat.succ_mul];omega
section
variable {α:Type}{m:α->α->α}{e:α}{P:Pr}{h:Nat->α}
theorem npr_skip {x:List Int}{i f:Nat}(hx:∀k,k<i->gt x k=0):npr m h x 0 e (i+f)=npr m h x i e f:=by
 unfold npr;rw[acc_split,acc_zero _ x 0 e i (λl _ b=>hx l (by omega)),Nat.zero_add]
theorem npr_skip2 {x:List Int}{i j f:Nat}(p:i<=j) (hx:∀k,i<=k->k<j->gt x k=0):npr m h x i e ((j-i)+f)=npr m h x j e f:=by
 unfold npr;rw[acc_split,acc_zero _ x i e (j-i) (λl a b=>hx l a (by omega)),show i+(j-i)=j by omega]
theorem npr_unit (M:MonOn (λ_:α=>True) m e) {n i J:Nat}(hi:i<=J) (j:J<n):npr m h (unitV n J) i e (n-i)=h J:=by
 rw[npr_three M hi j (λ_ _ _=>trivial),gt_unit n J J j,if_pos rfl];have k:npr m h (unitV n J) i e (J-i)=e:=acc_zero _ _ _ _ _ (λl a b=>by rw[gt_unit n J l (by omega),if_neg (by omega)]);have p:npr m h (unitV n J) (J+1) e (n-(J+1))=e:=acc_zero _ _ _ _ _ (λl a b=>by rw[gt_unit n J l (by omega),if_neg (by omega)]);rw[k,p,M.er _ trivial];show m e (m e (h J))=h J
 rw[M.el _ trivial,M.el _ trivial]
theorem pow_thru (M:MonOn (λ_:α=>True) m e) {a b c:α}(H:m a b=m b c) (k:Nat):m (iter k (λy=>m y a) e) b=m b (iter k (λy=>m y c) e):=by
 induction k with
 | zero=>show m e b=m b e;rw[M.el _ trivial,M.er _ trivial]
 | succ k i=>
  show m (m (iter k (λy=>m y a) e) a) b=m b (m (iter k (λy=>m y c) e) c)
  rw[M.ass _ _ _ trivial trivial trivial,H,<-M.ass _ _ _ trivial trivial trivial,i,M.ass _ _ _ trivial trivial trivial]
theorem braid (M:MonOn (λ_:α=>True) m e) {a b c x y z i:α}(k:m a c=m c x) (j:m b c=m c y) (l:m a b=m b z) (p:m z c=m c i):m c (m x y)=m c (m y i):=by
 have A:=λx y z=>M.ass x y z trivial trivial trivial
 calc m c (m x y)=m (m c x) y:=(A c x y).symm
  _=m (m a c) y:=by rw[k]
  _=m a (m c y):=A a c y
  _=m a (m b c):=by rw[j]
  _=m (m a b) c:=(A a b c).symm
  _=m (m b z) c:=by rw[l]
  _=m b (m z c):=A b z c
  _=m b (m c i):=by rw[p]
  _=m (m b c) i:=(A b c i).symm
  _=m (m c y) i:=by rw[j]
  _=m c (m y i):=A c y i
theorem real_level (hP:Valid P) (M:MonOn (λ_:α=>True) m e) (H:Holds P (λ_=>True) m e h 0)
  (p:∀j,j<P.orders.length->∀a b,m (h j) a=m (h j) b->a=b)
  (inj:∀x y,Vec P.orders x->Vec P.orders y->npr m h x 0 e P.orders.length=npr m h y 0 e P.orders.length->x=y)
  {f i:Nat}(hi:i+(f+1)=P.orders.length) (L:Lvl P f (i+1)):RLevel P f i:=by
 have l:i<P.orders.length:=by omega
 have U:P.orders.length-(i+1)=f:=by omega
 have C:∀x y,T P (i+1) x->T P (i+1) y->npr m h x (i+1) e f=npr m h y (i+1) e f->x=y:=λx y hx hy V=>by
  refine inj x y hx.1 hy.1 ?_;have hn:P.orders.length=(i+1)+f:=by omega
  rw[hn,npr_skip (λk hk=>hx.2 k hk),npr_skip (λk hk=>hy.2 k hk),V]
 have q:∀A B,Vec P.orders A->Vec P.orders B->npr m h (rAt P f (i+1) A B) (i+1) e f=m (npr m h A (i+1) e f) (npr m h B (i+1) e f):=vd_at hP M f (i+1) (by omega) (H.up (by omega));have D:∀x,m (npr m h x (i+1) e f) (h i)=m (h i) (npr m h (rImage P f i x) (i+1) e f):=vd_image hP M hi (H.up (by omega)) q
 have I:∀J,i<=J->J<P.orders.length->npr m h (gt P.powers J) (i+1) e f=iter (gt P.orders J).toNat (λy=>m y (h J)) e:=λJ a b=>by
  rw[H.pw J (by omega) b];have N:f=(J+1-(i+1))+(P.orders.length-(J+1)):=by omega
  rw[N,npr_skip2 (by omega) (λk _ hk=>(hP.pv J b).2 k (by omega))]
 have W:∀J,i<J->J<P.orders.length->npr m h (unitV P.orders.length J) (i+1) e f=h J:=λJ a b=>by
  have:=npr_unit (h:=h) M (n:=P.orders.length) (i:=i+1) (J:=J) (by omega) b;rwa [U] at this
 have cj:∀J K,i<=J->J<K->K<P.orders.length->m (h K) (h J)=m (h J) (npr m h (gt (gt P.conj J) (K-J-1)) (i+1) e f):=λJ K a b c=>by
  rw[H.cj J K (by omega) b c];have N:f=(J+1-(i+1))+(P.orders.length-(J+1)):=by omega
  rw[N,npr_skip2 (by omega) (λk _ hk=>(cj_T hP b c).2 k (by omega))]
 have r:∀J,i<J->J<P.orders.length->T P (i+1) (gt (gt P.conj i) (J-i-1)):=λJ a b=>cj_T hP a b
 have u:∀x,Vec P.orders x->∀k,Vec P.orders (iter k (λy=>rAt P f (i+1) y x) (zeros P.orders.length))/\npr m h (iter k (λy=>rAt P f (i+1) y x) (zeros P.orders.length)) (i+1) e f=iter k (λy=>m y (npr m h x (i+1) e f)) e:=λx hx k=>by
  induction k with
  | zero=>exact⟨zeros_vec hP,acc_zero _ _ _ _ _ (λj _ _=>gt_replicate _ _)⟩
  | succ k w=>
   refine⟨rAt_vec hP f (i+1) _ _ (by omega) w.1 hx,?_⟩;show npr m h (rAt P f (i+1) _ x) (i+1) e f=m _ _
   rw[q _ _ w.1 hx,w.2]
 have O:∀x,T P (i+1) x->∀k,T P (i+1) (iter k (λy=>rAt P f (i+1) y x) (zeros P.orders.length)):=λx hx k=>iter_inv (T P (i+1)) _ (λy hy=>L.grp.cl _ _ hy hx) _ _ (T.zeros hP _)
 have Q:∀x k,m (npr m h x (i+1) e f) (iter k (λy=>m y (h i)) e)=m (iter k (λy=>m y (h i)) e) (npr m h (iter k (λx=>rImage P f i x) x) (i+1) e f):=λx k=>by
  induction k with
  | zero=>
   show m (npr m h x (i+1) e f) e=m e (npr m h x (i+1) e f)
   rw[M.er _ trivial,M.el _ trivial]
  | succ k w=>
   show m _ (m (iter k (λy=>m y (h i)) e) (h i))=m (m (iter k (λy=>m y (h i)) e) (h i)) (npr m h (rImage P f i (iter k (λx=>rImage P f i x) x)) (i+1) e f)
   rw[<-M.ass _ _ _ trivial trivial trivial,w,M.ass _ _ _ trivial trivial trivial,D,M.ass _ _ _ trivial trivial trivial]
 have z:∀x,T P (i+1) x->∀k,T P (i+1) (iter k (λx=>rImage P f i x) x):=λx hx k=>iter_inv (T P (i+1)) _ (λy _=>rImage_T hP hi y) _ _ hx;refine⟨λJ a b => ?_,λJ K a b c => ?_,?_,λJ a b => ?_⟩
 ·show rRep (rAt P f (i+1)) (zeros P.orders.length) (gt (gt P.conj i) (J-i-1)) (gt P.orders J).toNat=rImage P f i (gt P.powers J)
  rw[L.rRep_eq (r J a b)];refine C _ _ (O _ (r J a b) _) (rImage_T hP hi _) (p i l _ _ ?_);rw[(u _ (r J a b).1 _).2,<-D,I J (by omega) b];exact(pow_thru M (cj i J (Nat.le_refl _) a b) _).symm
 ·have R:=r K (by omega) c
  have E:=r J a (by omega);have S:=rImage_T hP hi (gt (gt P.conj J) (K-J-1));refine C _ _ (L.grp.cl _ _ R E) (L.grp.cl _ _ E S) (p i l _ _ ?_);rw[q _ _ R.1 E.1,q _ _ E.1 S.1];exact braid M (cj i K (Nat.le_refl _) (by omega) c) (cj i J (Nat.le_refl _) a (by omega)) (cj J K (by omega) b c) (D _)
 ·refine C _ _ (rImage_T hP hi _) (pw_T hP l) (p i l _ _ ?_)
  rw[<-D,I i (Nat.le_refl _) l];exact pow_thru M rfl _
 ·have F:=pw_T hP l
  have G:=T.unit hP (i:=i+1) (j:=J) (by omega) b;refine C _ _ (L.grp.cl _ _ F (z _ G _)) (L.grp.cl _ _ G F) ?_;rw[q _ _ F.1 (z _ G _).1,q _ _ G.1 F.1,I i (Nat.le_refl _) l,Q]
theorem real_all (hP:Valid P) (M:MonOn (λ_:α=>True) m e) (H:Holds P (λ_=>True) m e h 0)
  (i:∀j,j<P.orders.length->∀a b,m (h j) a=m (h j) b->a=b)
  (inj:∀x y,Vec P.orders x->Vec P.orders y->npr m h x 0 e P.orders.length=npr m h y 0 e P.orders.length->x=y) :
  ∀f k,k+f=P.orders.length->∀j,k<=j->j<P.orders.length->RLevel P (P.orders.length-1-j) j
 | 0,k,hk,j,a,b=>by omega
 | f + 1,k,hk,j,a,b=>by
  by_cases l:j=k
  ·subst l
   have L:=lvl_of_R hP f (j+1) (by omega) (λq p r=>real_all hP M H i inj f (j+1) (by omega) q p r);have u:P.orders.length-1-j=f:=by omega
   rw[u];exact real_level hP M H i inj hk L
  ·exact real_all hP M H i inj f (k+1) (by omega) j (by omega) b
open Classical in
theorem real_cons (hP:Valid P) (M:MonOn (λ_:α=>True) m e) (H:Holds P (λ_=>True) m e h 0)
  (i:∀j,j<P.orders.length->∀a b,m (h j) a=m (h j) b->a=b)
  (inj:∀x y,Vec P.orders x->Vec P.orders y->npr m h x 0 e P.orders.length=npr m h y 0 e P.orders.length->x=y):rconsB P=true:=by
 unfold rconsB;exact decide_eq_true ⟨hP,λk hk=>real_all hP M H i inj P.orders.length 0 (by omega) k (by omega) hk⟩
/-! ### words -/
def letW (h hi:Nat->α) (l:Int):α:=if l<0 then hi (-l-1).toNat else h (l-1).toNat
def evW (m:α->α->α) (e:α) (h hi:Nat->α) (w:List Int):α:=w.foldl (λy l=>m y (letW h hi l)) e
theorem foldl_out (M:MonOn (λ_:α=>True) m e) (g:Int->α):∀(v:List Int) (y:α),v.foldl (λy l=>m y (g l)) y=m y (v.foldl (λy l=>m y (g l)) e)
 | [],y=>(M.er _ trivial).symm
 | l :: v,y=>by
  rw[List.foldl_cons,List.foldl_cons,foldl_out M g v (m y (g l)),foldl_out M g v (m e (g l)),M.el _ trivial,M.ass _ _ _ trivial trivial trivial]
theorem evW_app (M:MonOn (λ_:α=>True) m e) {hi:Nat->α}(w v:List Int):evW m e h hi (w++v)=m (evW m e h hi w) (evW m e h hi v):=by
 unfold evW;rw[List.foldl_append,foldl_out M]
theorem evW_one (M:MonOn (λ_:α=>True) m e) {hi:Nat->α}(l:Int):evW m e h hi [l]=letW h hi l:=by
 unfold evW;rw[List.foldl_cons,List.foldl_nil,M.el _ trivial]
theorem evW_rep (M:MonOn (λ_:α=>True) m e) {hi:Nat->α}(i k:Nat):evW m e h hi (List.replicate k ((i:Int)+1))=iter k (λy=>m y (h i)) e:=by
 induction k with
 | zero=>rfl
 | succ k a=>
  rw[List.replicate_succ',evW_app M,a,evW_one M];unfold letW;rw[if_neg (by omega),show((i:Int)+1-1).toNat=i by omega];rfl
theorem evW_nWord (M:MonOn (λ_:α=>True) m e) {hi:Nat->α}(x:List Int):∀k,evW m e h hi (nWord x k)=npr m h x 0 e k
 | 0=>rfl
 | k+1=>by
  rw[nWord,evW_app M,evW_nWord M x k,evW_rep M];show m (npr m h x 0 e k) _=iter (gt x (0+k)).toNat (λy=>m y (h (0+k))) (npr m h x 0 e k)
  rw[Nat.zero_add];exact(M.pow_out (h:=h k) trivial trivial _).symm
theorem invWord_cons (l:Int) (w:List Int):invWord (l :: w)=invWord w++[-l]:=by unfold invWord;simp
theorem invWord_inv (w:List Int):invWord (invWord w)=w:=by
 unfold invWord;rw[List.map_reverse,List.reverse_reverse,List.map_map];have:((λl:Int => -l) ∘ λl => -l)=id:=by funext l;simp
 rw[this,List.map_id]
theorem letW_inv {hi:Nat->α}{n:Nat}(h1:∀j,j<n->m (h j) (hi j)=e) (b:∀j,j<n->m (hi j) (h j)=e) {l:Int}(a:(1<=l/\l<=n)\/(-(n:Int)<=l/\l <= -1)):m (letW h hi l) (letW h hi (-l))=e:=by
 unfold letW;rcases a with a|a
 ·rw[if_neg (by omega),if_pos (by omega),show(- -l-1).toNat=(l-1).toNat by omega];exact h1 _ (by omega)
 ·rw[if_pos (by omega),if_neg (by omega)];exact b _ (by omega)
theorem evW_inv (M:MonOn (λ_:α=>True) m e) {hi:Nat->α}{n:Nat}(h1:∀j,j<n->m (h j) (hi j)=e) (a:∀j,j<n->m (hi j) (h j)=e):∀w,WordN n w->m (evW m e h hi w) (evW m e h hi (invWord w))=e
 | [],_=>M.el _ trivial
 | l :: w,b=>by
  have i:=evW_inv M h1 a w (λx hx=>b x (List.mem_cons_of_mem _ hx));have k:=letW_inv (m:=m) (e:=e) h1 a (b l (List.mem_cons_self ..));have A:=λx y z=>M.ass x y z trivial trivial trivial
  have p:evW m e h hi (l :: w)=m (letW h hi l) (evW m e h hi w):=by
   rw[show l :: w=[l]++w from rfl,evW_app M,evW_one M]
  rw[invWord_cons,evW_app M,evW_one M,p,A,<-A (evW m e h hi w),i,M.el _ trivial,k]
theorem rel_eq (M:MonOn (λ_:α=>True) m e) {hi:Nat->α}{n:Nat}(h1:∀j,j<n->m (h j) (hi j)=e) (a:∀j,j<n->m (hi j) (h j)=e) {w v:List Int}(b:WordN n v) (hr:evW m e h hi (w++invWord v)=e):evW m e h hi w=evW m e h hi v:=by
 rw[evW_app M] at hr;have k:=evW_inv M h1 a (invWord v) b.inv;rw[invWord_inv] at k;have A:=λx y z=>M.ass x y z trivial trivial trivial
 calc evW m e h hi w=m (evW m e h hi w) (m (evW m e h hi (invWord v)) (evW m e h hi v)):=by rw[k,M.er _ trivial]
  _=m (m (evW m e h hi w) (evW m e h hi (invWord v))) (evW m e h hi v):=(A _ _ _).symm
  _=evW m e h hi v:=by rw[hr,M.el _ trivial]
end
theorem relPs_mem {P:Pr}{i:Nat} : ∀k,i<k->relPow P i∈relPs P k
 | k+1,h=>by
  rcases Nat.lt_succ_iff_lt_or_eq.1 h with h1|h1
  ·exact List.mem_append_left _ (relPs_mem k h1)
  ·rw[h1];exact List.mem_append_right _ (List.mem_singleton.2 rfl)
theorem relCs_mem {P:Pr}{i j:Nat} : ∀k,j<k->relCon P i j∈relCs P i k
 | k+1,h=>by
  rcases Nat.lt_succ_iff_lt_or_eq.1 h with h1|h1
  ·exact List.mem_append_left _ (relCs_mem k h1)
  ·rw[h1];exact List.mem_append_right _ (List.mem_singleton.2 rfl)
theorem relTo_pow {P:Pr}{i:Nat}(hi:i<P.orders.length):∀k,relPow P i∈relTo P k
 | 0=>relPs_mem _ hi
 | k+1=>List.mem_append_left _ (relTo_pow hi k)
theorem relTo_con {P:Pr}{i j:Nat}(a:j<(gt P.conj i).length):∀k,i<k->relCon P i j∈relTo P k
 | k+1,h=>by
  rcases Nat.lt_succ_iff_lt_or_eq.1 h with h1|h1
  ·exact List.mem_append_left _ (relTo_con a k h1)
  ·rw[<-h1];exact List.mem_append_right _ (relCs_mem _ a)
theorem relTo_wd {P:Pr}(hP:Valid P):∀i,i<=P.orders.length->∀w∈relTo P i,WordN P.orders.length w
 | 0,_,w,h=>relPs_word _ (Nat.le_refl _) w h
 | i+1,hi,w,h=>by
  rcases List.mem_append.1 h with h1|h1
  ·exact relTo_wd hP i (by omega) w h1
  ·exact relCs_word (i:=i) _ (by rw[(hP.cv i (by omega)).1];omega) w h1
theorem relsP_word {P:Pr}(hP:Valid P):∀w∈relsP P,WordN P.orders.length w:=relTo_wd hP _ (Nat.le_refl _)
theorem holds_of {α:Type}{m:α->α->α}{e:α}{P:Pr}{h hi:Nat->α}(hP:Valid P) (M:MonOn (λ_:α=>True) m e) (h1:∀j,j<P.orders.length->m (h j) (hi j)=e) (r:∀j,j<P.orders.length->m (hi j) (h j)=e)
  (hr:∀w∈relsP P,evW m e h hi w=e):Holds P (λ_=>True) m e h 0:=by
 refine⟨λ_ _ _=>trivial,λj _ b => ?_,λj k _ b c => ?_⟩
 ·have a:=rel_eq M h1 r (WordN.nWord (gt P.powers j) _ (Nat.le_refl _)) (hr _ (relTo_pow b _))
  rw[evW_rep M,evW_nWord M] at a;rw[a];have q:P.orders.length=(j+1)+(P.orders.length-(j+1)):=by omega
  have p:=npr_skip (m:=m) (h:=h) (e:=e) (x:=gt P.powers j) (i:=j+1) (f:=P.orders.length-(j+1)) (λk hk=>(hP.pv j b).2 k (by omega));rw[<-q] at p;exact p
 ·have hk:k-j-1<(gt P.conj j).length:=by rw[(hP.cv j (by omega)).1];omega
  have a:=rel_eq M h1 r (WordN.nWord (gt (gt P.conj j) (k-j-1)) _ (Nat.le_refl _)) (hr _ (relTo_con hk _ (by omega)));rw[evW_nWord M] at a
  have u:evW m e h hi [-((j:Int)+1),(j:Int)+((k-j-1:Nat):Int)+2,(j:Int)+1]=m (m (hi j) (h k)) (h j):=by
   unfold evW;rw[List.foldl_cons,List.foldl_cons,List.foldl_cons,List.foldl_nil,M.el _ trivial];unfold letW;rw[if_pos (by omega),if_neg (by omega),if_neg (by omega),show(- -((j:Int)+1)-1).toNat=j by omega,show((j:Int)+((k-j-1:Nat):Int)+2-1).toNat=k by omega,show((j:Int)+1-1).toNat=j by omega]
  rw[u] at a;have q:P.orders.length=(j+1)+(P.orders.length-(j+1)):=by omega
  have p:=npr_skip (m:=m) (h:=h) (e:=e) (x:=gt (gt P.conj j) (k-j-1)) (i:=j+1) (f:=P.orders.length-(j+1)) (λl B=>(cj_T hP b c).2 l (by omega));rw[<-q] at p;rw[<-p,<-a];have A:=λx y z=>M.ass x y z trivial trivial trivial;rw[<-A,<-A,h1 j (by omega),M.el _ trivial]
/-! ### bijections -/
theorem gt_range {n t:Nat}(h:t<n):gt (List.range n) t=t:=by simp[gt,h]
section
variable {P:Pr}(G:Grp P)
include G
theorem Grp.num_lt {x:List Int}(hx:Vec P.orders x):(num P x).toNat<(ordP P).toNat/\elAt P ((num P x).toNat:Int)=x:=by
 have a:=num_bd G.v hx;refine⟨by omega,?_⟩;rw[show(((num P x).toNat:Nat):Int)=num P x by omega];exact elAt_num G.v hx
end
end Go.Proofs.YtldheeicjnncoaaGreat
namespace Go.Proofs.YtldheeicjnncoaaGreat
open Go.RowKit
section
variable {P:Pr}(G:Grp P)
include G
theorem Grp.order_elems {H:List Int->Prop}(S:Sub P H):prodU P (cseq P H) (cseq P H).length=(elemsIn P H).length:=by
 rw[<-G.els_sorted S,(sortL_perm _).length_eq];exact(elsP_len G.v (G.seq_facts S).1 _ (Nat.le_refl _)).symm
omit G in
theorem elemsIn_nodup {P:Pr}(hP:Valid P) (H:List Int->Prop):(elemsIn P H).Nodup:=
 List.nodup_iff_pairwise_ne.2 ((elemsIn_asc hP H).imp (λ{a b} h e=>by subst e;omega))
end
section
variable {P:Pr}(G:Grp P)
include G
end
end Go.Proofs.YtldheeicjnncoaaGreat
namespace Go.Proofs.YtldheeicjnncoaaGreat
def El {P:Pr}(_:Grp P):Type := {x:List Int // Vec P.orders x}
section
variable {P:Pr}{G:Grp P}
instance:Mul (El G):=⟨λx y=>⟨rMul P x.1 y.1,G.mulV x.2 y.2⟩⟩
instance:One (El G):=⟨⟨zeros P.orders.length,G.oneV⟩⟩
instance:Inv (El G):=⟨λx=>⟨rInv P x.1,G.invV x.2⟩⟩
theorem El.ass (x y z:El G):x*y*z=x*(y*z):=Subtype.ext (G.ass x.2 y.2 z.2)
theorem El.ol (x:El G):1*x=x:=Subtype.ext (G.grp.el _ x.2)
theorem El.or (x:El G):x*1=x:=Subtype.ext (G.grp.er _ x.2)
theorem El.il (x:El G):x⁻¹ * x=1:=Subtype.ext (G.inv_mul x.2)
theorem El.ir (x:El G):x*x⁻¹ = 1:=Subtype.ext (G.mul_inv x.2)
theorem El.ilc (x y:El G):x⁻¹ * (x*y)=y:=by rw[<-El.ass,El.il,El.ol]
theorem El.irc (x y:El G):x*(x⁻¹ * y)=y:=by rw[<-El.ass,El.ir,El.ol]
theorem El.inv_of {x y:El G}(h:x*y=1):y=x⁻¹ :=by rw[<-El.ilc x y,h,El.or]
theorem El.mi (x y:El G):(x*y)⁻¹ = y⁻¹ * x⁻¹ := (El.inv_of (by rw[El.ass,El.irc,El.ir])).symm
theorem El.ii (x:El G):x⁻¹⁻¹ = x:=(El.inv_of (El.il x)).symm
def ep (x:El G):Nat->El G
 | 0=>1
 | k+1=>ep x k*x
theorem ep_val (x:El G):∀k,(ep x k).1=pw P x.1 k
 | 0=>rfl
 | k+1=>by
  show rMul P (ep x k).1 x.1=_
  rw[ep_val x k];rfl
structure SG (H:El G->Prop):Prop where
 one:H 1
 mul:∀x y,H x->H y->H (x*y)
 inv:∀x,H x->H x⁻¹
theorem SG.ep {H:El G->Prop}(S:SG H) {x:El G}(hx:H x) (k:Nat):H (ep x k):=by
 induction k with
 | zero=>exact S.one
 | succ k a=>exact S.mul _ _ a hx
theorem SG.and {H K:El G->Prop}(S:SG H) (R:SG K):SG (λx=>H x/\K x):=
 ⟨⟨S.one,R.one⟩,λ_ _ h k=>⟨S.mul _ _ h.1 k.1,R.mul _ _ h.2 k.2⟩,λ_ h=>⟨S.inv _ h.1,R.inv _ h.2⟩⟩
def dT (d:Nat) (x:El G):Prop:=∀k,k<d->gt x.1 k=0
theorem dT_T {d:Nat}{x:El G} : dT d x↔T P d x.1:=⟨λh=>⟨x.2,h⟩,λh=>h.2⟩
theorem dT_sg {d:Nat}(a:d<=P.orders.length):SG (dT (G:=G) d):=
 ⟨dT_T.2 (T.zeros G.v d),λ_ _ h k=>dT_T.2 (G.T_mul a (dT_T.1 h) (dT_T.1 k)),λ_ h=>dT_T.2 (G.T_inv a (dT_T.1 h))⟩
theorem dT_top {x:El G}(h:dT P.orders.length x):x=1:=Subtype.ext ((dT_T.1 h).top G.v)
theorem dT_up {d:Nat}{x:El G}(h:dT d x) (a:gt x.1 d=0):dT (d+1) x:=dT_T.2 ((dT_T.1 h).up a)
theorem dT_down {d:Nat}{x:El G}(h:dT (d+1) x):dT d x:=λk hk=>h k (by omega)
theorem dT_zero (x:El G):dT 0 x:=λk hk=>by omega
def pv (H:El G->Prop) (d:Nat):Prop:=d<P.orders.length/\∃x,H x/\dT d x/\gt x.1 d≠0
theorem hit7 (q b c:Nat) (a:q=2\/q=3\/q=5\/q=7) (e:0<b) (h1:b<q) (i:c<q):∃j,(j*b)%q=c:=by
 have key:∀q,q<8->(q=2\/q=3\/q=5\/q=7)->∀b,b<q->0<b->∀c,c<q->∃j,j<q/\(j*b)%q=c:=by decide
 obtain⟨j,_,h⟩:=key q (by omega) a b h1 e c i;exact⟨j,h⟩
theorem ordN (G:Grp P) {d:Nat}(a:d<P.orders.length):∃q:Nat,gt P.orders d=(q:Int)/\(gt P.orders d).toNat=q/\(q=2\/q=3\/q=5\/q=7):=by
 have:=G.v.ord d a;exact⟨(gt P.orders d).toNat,by omega,rfl,by omega⟩
theorem ep_dT {d:Nat}(a:d<=P.orders.length) {x:El G}(h:dT d x) (k:Nat):dT d (ep x k):=(dT_sg a).ep h k
theorem ep_at {d:Nat}(a:d<P.orders.length) {x:El G}(h:dT d x) (k:Nat):gt (ep x k).1 d=((k:Int)*gt x.1 d)%gt P.orders d:=by
 rw[ep_val];exact G.pw_at a (dT_T.1 h) k
theorem lead_hit {d:Nat}(a:d<P.orders.length) {x:El G}(h:dT d x) (i:gt x.1 d≠0) {c:Int}(k:0<=c/\c<gt P.orders d):∃j,gt (ep x j).1 d=c:=by
 obtain⟨q,h1,h2,h3⟩:=ordN G a;have l:=x.2.2 d a;obtain⟨b,hbe⟩:∃b:Nat,gt x.1 d=(b:Int):=⟨(gt x.1 d).toNat,by omega⟩;obtain⟨e,he⟩:∃e:Nat,c=(e:Int):=⟨c.toNat,by omega⟩;obtain⟨j,hj⟩:=hit7 q b e h3 (by omega) (by omega) (by omega);refine⟨j,?_⟩;rw[ep_at a h,h1,hbe,he,<-hj,Int.natCast_emod,Int.natCast_mul]
theorem el_diff {d:Nat}(a:d<P.orders.length) {x y:El G}(hx:dT d x) (hy:dT d y) (h:gt x.1 d=gt y.1 d):dT (d+1) (x⁻¹ * y):=
 dT_T.2 (G.diff a (dT_T.1 hx) (dT_T.1 hy) h)
theorem el_same {d:Nat}(a:d<P.orders.length) {x y:El G}(h:dT (d+1) (x⁻¹ * y)):gt x.1 d=gt y.1 d:=by
 have h1:=(G.right (Nat.succ_le_of_lt a) x.2 (dT_T.1 h)).1 d (by omega);have b:rMul P x.1 (x⁻¹ * y).1=y.1:=congrArg Subtype.val (El.irc x y);rw[b] at h1;exact h1.symm
theorem els_ex (G:Grp P):∃l:List (El G),l.Nodup/\∀x,x∈l:=by
 have key:∀m:List (List Int),m.Nodup->∃l:List (El G),l.Nodup/\∀x:El G,x∈l↔x.1∈m:=by
  intro m;induction m with
  | nil=>intro _;exact⟨[],List.nodup_nil,λx=>by simp⟩
  | cons a m k=>
   intro h;obtain⟨h1,i⟩:=List.nodup_cons.1 h;obtain⟨l,hl,j⟩:=k i;by_cases ha:Vec P.orders a
   ·obtain ⟨y,hy⟩:∃y:El G,y.1=a:=⟨⟨a,ha⟩,rfl⟩
    refine⟨y :: l,List.nodup_cons.2 ⟨λb=>h1 (hy▸(j _).1 b),hl⟩,λx => ?_⟩;rw[List.mem_cons,List.mem_cons,j x];exact⟨λb=>b.elim (λe => .inl (by rw[e];exact hy)) .inr,λb=>b.elim (λe => .inl (Subtype.ext (e.trans hy.symm))) .inr⟩
   ·refine ⟨l,hl,λx => ?_⟩
    rw[j x,List.mem_cons];exact⟨.inr,λb=>b.elim (λe=>absurd (e▸x.2) ha) id⟩
 obtain⟨l,h1,i⟩:=key (elemsIn P (Vec P.orders)) (elemsIn_nodup G.v _);exact⟨l,h1,λx=>(i x).2 ((elemsIn_mem G.v (λ_ h=>h)) x.1 |>.2 x.2)⟩
noncomputable def els (G:Grp P):List (El G):=Classical.choose (els_ex G)
theorem els_nodup (G:Grp P):(els G).Nodup:=(Classical.choose_spec (els_ex G)).1
theorem els_mem (G:Grp P) (x:El G):x∈els G:=(Classical.choose_spec (els_ex G)).2 x
open Classical in
noncomputable def elsIn (H:El G->Prop):List (El G):=(els G).filter (λx=>decide (H x))
theorem elsIn_nodup (H:El G->Prop):(elsIn H).Nodup:=(els_nodup G).filter _
theorem elsIn_mem {H:El G->Prop}{x:El G} : x∈elsIn H↔H x:=by
 classical
 unfold elsIn;rw[List.mem_filter,decide_eq_true_iff];exact⟨λh=>h.2,λh=>⟨els_mem G x,h⟩⟩
noncomputable def cd (H:El G->Prop):Nat:=(elsIn H).length
theorem cd_list {H:El G->Prop}{l:List (El G)}(h1:l.Nodup) (a:∀x,x∈l↔H x):cd H=l.length:=
 ((List.perm_ext_iff_of_nodup (elsIn_nodup H) h1).2 (λx=>elsIn_mem.trans (a x).symm)).length_eq
theorem cd_congr {H K:El G->Prop}(h:∀x,H x↔K x):cd H=cd K:=by
 have:H=K:=funext λx=>propext (h x);rw[this]
def eqv (N:El G->Prop) (x y:El G):Prop:=N (x⁻¹ * y)
theorem eqv_refl {N:El G->Prop}(S:SG N) (x:El G):eqv N x x:=by unfold eqv;rw[El.il];exact S.one
theorem eqv_symm {N:El G->Prop}(S:SG N) {x y:El G}(h:eqv N x y):eqv N y x:=by
 have:=S.inv _ h;rwa [El.mi,El.ii] at this
theorem eqv_trans {N:El G->Prop}(S:SG N) {x y z:El G}(h:eqv N x y) (k:eqv N y z):eqv N x z:=by
 have:=S.mul _ _ h k;rwa [El.ass,El.irc] at this
theorem flat_len {α a:Type}(l:List α) (f:α->List a) (n:Nat) (h:∀x∈l,(f x).length=n):(l.flatMap f).length=l.length*n:=flatMap_len' l f n h
theorem cd_mul {N B:El G->Prop}(S:SG N) {ts:List (El G)}(hn:ts.Nodup) (p:∀t∈ts,∀n,N n->B (t*n)) (h1:∀t∈ts,∀u∈ts,eqv N t u->t=u) (q:∀x,B x->∃t∈ts,eqv N t x):cd B=ts.length*cd N:=by
 rw[cd_list (H:=B) (l:=ts.flatMap (λt=>(elsIn N).map (λn=>t*n))) ?_ ?_]
 ·exact flat_len _ _ _ (λx _=>List.length_map ..)
 ·refine List.nodup_iff_pairwise_ne.2 (List.pairwise_flatMap.2 ⟨λt _ => ?_,?_⟩)
  ·rw [List.pairwise_map]
   refine(List.nodup_iff_pairwise_ne.1 (elsIn_nodup N)).imp (λ{a b} i e=>i ?_);have:=congrArg (λz=>t⁻¹ * z) e;simpa only[El.ilc] using this
  ·refine (List.nodup_iff_pairwise_ne.1 hn).imp_of_mem (λ{a b} ha r i x hx y hy e=>i (h1 a ha b r ?_))
   obtain⟨n,j,rfl⟩:=List.mem_map.1 hx;obtain⟨m,k,rfl⟩:=List.mem_map.1 hy;unfold eqv
   have w:a⁻¹ * b=n*m⁻¹ :=by
    have A:b=a*n*m⁻¹ :=by rw[e,El.ass,El.ir,El.or]
    rw[A,El.ass,El.ilc]
   rw[w];exact S.mul _ _ (elsIn_mem.1 j) (S.inv _ (elsIn_mem.1 k))
 ·intro x
  rw[List.mem_flatMap];constructor
  ·rintro ⟨t,ht,hx⟩
   obtain⟨n,j,rfl⟩:=List.mem_map.1 hx;exact p t ht n (elsIn_mem.1 j)
  ·intro hx
   obtain⟨t,ht,h⟩:=q x hx;exact⟨t,ht,List.mem_map.2 ⟨t⁻¹ * x,elsIn_mem.2 h,El.irc t x⟩⟩
open Classical in
noncomputable def prd (P:Pr) (Q:Nat->Prop):Nat->Nat->Nat
 | 0,_=>1
 | f+1,d=>(if Q d then (gt P.orders d).toNat else 1)*prd P Q f (d+1)
theorem prd_congr {Q R:Nat->Prop} : ∀f d,(∀k,d<=k->k<d+f->(Q k↔R k))->prd P Q f d=prd P R f d
 | 0,_,_=>rfl
 | f+1,d,h=>by
  have h1:=h d (by omega) (by omega);unfold prd;rw[prd_congr f (d+1) (λk a b=>h k (by omega) (by omega))];by_cases e:Q d
  ·rw[if_pos e,if_pos (h1.1 e)]
  ·rw[if_neg e,if_neg (λhr=>e (h1.2 hr))]
theorem prd_mul {Q R:Nat->Prop} : ∀f d,(∀k,d<=k->k<d+f->Q k->¬R k)->prd P Q f d*prd P R f d=prd P (λk=>Q k\/R k) f d
 | 0,_,_=>rfl
 | f + 1,d,h=>by
  have h1:=h d (by omega) (by omega);have i:=prd_mul f (d+1) (λk a b=>h k (by omega) (by omega));unfold prd;rw[<-i];by_cases e:Q d
  ·rw [if_pos e,if_neg (h1 e),if_pos (.inl e)]
   simp only[Nat.one_mul,Nat.mul_assoc]
  ·by_cases hr:R d
   ·rw [if_neg e,if_pos hr,if_pos (.inr hr)]
    simp only[Nat.one_mul,Nat.mul_left_comm]
   ·rw [if_neg e,if_neg hr,if_neg (λj=>j.elim e hr)]
    simp only[Nat.one_mul]
theorem cd_pv {H:El G->Prop}(S:SG H):∀f d,d+f=P.orders.length->cd (λx=>H x/\dT d x)=prd P (pv H) f d
 | 0, d,hd=>by
  have:d=P.orders.length:=by omega
  subst this
  have:=cd_list (H:=λx=>H x/\dT P.orders.length x) (l:=[(1:El G)]) (by simp) (λx=>by
   rw[List.mem_singleton];exact⟨λe=>by rw[e];exact⟨S.one,(dT_sg (Nat.le_refl _)).one⟩,λh=>dT_top h.2⟩)
  exact this
 | f + 1,d,hd=>by
  have m:d<P.orders.length:=by omega
  have J:=cd_pv S f (d+1) (by omega);have S':SG (λx=>H x/\dT (d+1) x):=S.and (dT_sg (by omega));have C:SG (dT (G:=G) d):=dT_sg (by omega);rw[prd,<-J];by_cases B:pv H d
  ·rw [if_pos B]
   obtain⟨_,y0,hy0,z,hn0⟩:=B;obtain⟨q,hq1,hq2,hq3⟩:=ordN G m;obtain⟨j,D⟩:=lead_hit m z hn0 (c:=1) (by omega);obtain⟨y,hy⟩:∃y,y=ep y0 j:=⟨_,rfl⟩;have A:H y:=by rw[hy];exact S.ep hy0 j
   have r:dT d y:=by rw[hy];exact ep_dT (by omega) z j
   have hy1:gt y.1 d=1:=by rw[hy];exact D
   have w:∀i,i<q->gt (ep y i).1 d=(i:Int):=λi hi=>by
    rw[ep_at m r,hy1,hq1,Int.mul_one,Int.emod_eq_of_lt (by omega) (by omega)]
   have p:∀i j,i<q->j<q->eqv (λx=>H x/\dT (d+1) x) (ep y i) (ep y j)->i=j:=λi j hi D h=>by
    have:=el_same m h.2;rw[w i hi,w j D] at this;omega
   have K:((List.range q).map (λi=>ep y i)).length=(gt P.orders d).toNat:=by rw[List.length_map,List.length_range,hq2]
   rw[<-K];refine cd_mul S' ?_ ?_ ?_ ?_
   ·refine List.nodup_iff_pairwise_ne.2 ?_
    rw[List.pairwise_map];refine(List.nodup_iff_pairwise_ne.1 List.nodup_range).imp_of_mem (λ{a b} ha I E e=>E (p a b (List.mem_range.1 ha) (List.mem_range.1 I) ?_));rw[e];exact eqv_refl S' _
   ·intro t F n hn
    obtain⟨i,_,rfl⟩:=List.mem_map.1 F;exact⟨S.mul _ _ (S.ep A i) hn.1,C.mul _ _ (C.ep r i) (dT_down hn.2)⟩
   ·intro t F u L h
    obtain⟨i,hi,rfl⟩:=List.mem_map.1 F;obtain⟨k,hk,rfl⟩:=List.mem_map.1 L;rw[p i k (List.mem_range.1 hi) (List.mem_range.1 hk) h]
   ·intro x hx
    have I:=x.2.2 d m;refine⟨ep y (gt x.1 d).toNat,List.mem_map.2 ⟨_,List.mem_range.2 (by omega),rfl⟩,S.mul _ _ (S.inv _ (S.ep A _)) hx.1,el_diff m (C.ep r _) hx.2 ?_⟩;rw[w _ (by omega)];omega
  ·rw [if_neg B,Nat.one_mul]
   exact cd_congr (λx=>⟨λh=>⟨h.1,dT_up h.2 (Classical.byContradiction λM=>B ⟨m,x,h.1,h.2,M⟩)⟩,λh=>⟨h.1,dT_down h.2⟩⟩)
theorem cd_eq {H:El G->Prop}(S:SG H):cd H=prd P (pv H) P.orders.length 0:=by
 rw[<-cd_pv S _ _ (Nat.zero_add _)];exact cd_congr (λx=>⟨λh=>⟨h,dT_zero x⟩,λh=>h.1⟩)
end
/-! ### the value in a group -/
section
variable {P:Pr}(G:Grp P)
theorem el_mon:MonOn (λ_:El G=>True) (· * ·) 1:=⟨λ_ _ _ _=>trivial,trivial,λx y z _ _ _=>El.ass x y z,λx _=>El.ol x,λx _=>El.or x⟩
def gE (j:Nat):El G:=⟨unitV P.orders.length j,unitV_vec G.v j⟩
theorem npr_val (x:List Int) (i:Nat):∀k,(npr (· * ·) (gE G) x i 1 k).1=npr (rMul P) (unitV P.orders.length) x i (zeros P.orders.length) k
 | 0=>rfl
 | k + 1=>by
  have b:=npr_val x i k;unfold npr at b ⊢;rw[acc,acc,<-b];generalize acc (λ(y:El G) j=>y*gE G j) x i 1 k=z;induction (gt x (i+k)).toNat with
  | zero=>rfl
  | succ m a=>
   show rMul P (iter m (λy=>y*gE G (i+k)) z).1 (unitV P.orders.length (i+k))=_
   rw[a];rfl
theorem el_holds:Holds P (λ_:El G=>True) (· * ·) 1 (gE G) 0:=by
 refine⟨λ_ _ _=>trivial,λj a b => ?_,λj k a b c => ?_⟩
 ·apply Subtype.ext
  rw[npr_val,<-G.rel.pw j a b];induction (gt P.orders j).toNat with
  | zero=>rfl
  | succ m e=>
   show rMul P (iter m (λy=>y*gE G j) 1).1 (unitV P.orders.length j)=_
   rw[e];rfl
 ·apply Subtype.ext
  have:=G.rel.cj j k a b c;rw[<-npr_val G] at this;exact this
theorem el_nf {x:List Int}(hx:Vec P.orders x):(npr (· * ·) (gE G) x 0 1 P.orders.length).1=x:=by rw[npr_val];exact G.nf hx
def wv (w:List Int):El G:=evW (· * ·) 1 (gE G) (λj=>(gE G j)⁻¹) w
theorem wv_app (w v:List Int):wv G (w++v)=wv G w*wv G v:=evW_app (el_mon G) w v
theorem wv_one {l:Int}(h:1<=l):wv G [l]=gE G (l-1).toNat:=by
 unfold wv;rw[evW_one (el_mon G)];unfold letW;rw[if_neg (by omega)]
theorem wv_nWord (x:List Int) (k:Nat):wv G (nWord x k)=npr (· * ·) (gE G) x 0 1 k:=evW_nWord (el_mon G) x k
theorem wv_rep (i k:Nat):wv G (List.replicate k ((i:Int)+1))=iter k (λy=>y*gE G i) 1:=evW_rep (el_mon G) i k
end
/-! ### normal words -/
end Go.Proofs.YtldheeicjnncoaaGreat
namespace Go.Proofs.YtldheeicjnncoaaGreat
open Go.RowKit
theorem step_app_int {ops:Array Oper}{o:Oper}{a:Act}{K:Act->World->Prop}{Q:Exit->Act->World->Prop}{p:Prop}{w:World}(j:o.guard=none) (s x:Operand)
  (q:o.op=Op.call { callee:=Callee.builtin Builtin.append,args := #[s,x],argTypes := #[24,24] }) (B:Nat) (v:Value) (l:List Int) (y:Int) (r:a.eval s=v) (b:World) (i:Own B b v l)
  (u:w=b.alloc (.cells #[.int .i64 y] 2)) (hx:a.eval x=.slice (some ⟨b.heap.size,0,none⟩) 1 1) (m:l.length<=1000000) (k:B<=b.heap.size)
  (h:∀v' w',Own B w' v' (l++[y])->b.grownBy w' v.ownBlock->K (a.put o.dst v') w') :
  if Region.wanted o (yielded ops a.tmps)=true then Oper.wp Tryz.prog o a w K Q else p:=by
 subst u;have e:Ext b (b.alloc (.cells #[.int .i64 y] 2)):=World.grownBy_alloc _ _ _;refine step_app 24 2 (.int .i64 0) 8 und_ints Tryz.infoInt rfl (by decide) j s x q B v (l.map (Value.int .i64)) r (i.ext0 e).v b.heap.size (.int .i64 y) hx (by rw[World.cell?_alloc_at _ _ _ _ rfl];rfl) rfl (by simpa using (by omega:l.length<=2000000)) (by have:=e.size;omega) ?_;intro v' w' h1 z _;exact h v' w' (Own.of (by rw[List.map_append];exact h1)) (grown_trans (grown_of_ext _ e) z)
/-! ### a row of bools of the call's own -/
def Near (w:World) (g:Nat) (w':World):Prop:=∃a,Ext w a/\(w'=a\/∃j x,w'=a.setCell ⟨g,j,none⟩ x)
theorem Near.of {w w':World}{g:Nat}(h:Ext w w'):Near w g w':=⟨w',h,.inl rfl⟩
theorem Near.store {w w':World}{g j:Nat}{x:Value}(h:Ext w w'):Near w g (w'.setCell ⟨g,j,none⟩ x):=⟨w',h,.inr ⟨j,x,rfl⟩⟩
theorem Near.cell {w w':World}{g:Nat}(h:Near w g w') {a:Addr}{v:Value}(e:w.cell? a=some v) (b:a.block≠g):w'.cell? a=some v:=by
 obtain⟨i,h1,rfl|⟨j,x,rfl⟩⟩:=h
 ·exact h1.cell e (by simp)
 ·rw [World.cell?_setCell_far _ _ _ _ (by simpa using Ne.symm b)]
  exact h1.cell e (by simp)
theorem wp_app_v (T E:Nat) (z:Value) (bytes:Nat) (A:Tryz.prog.underlying T=some (.slice E)) (hE:(Tryz.prog.info? E).map (λi=>(i.zero,i.size,i.bytes))=some (some z,1,bytes))
  (m:z.cells.size=1) (p:bytes<=64) {ops:Array Oper}{rest:List Oper}{o:Oper}{a:Act}{Q:Exit->Act->World->Prop}{w:World}(q:o.guard=none) (s x:Operand)
  (B:o.op=Op.call { callee:=Callee.builtin Builtin.append,args := #[s,x],argTypes := #[T,T] }) (base:Nat) (b:World) (v u:Value) (xs:List Value) (C:a.eval s=v) (k:OwnV base E b v xs)
  (D:w=b.alloc (.cells #[u] E)) (F:u.oneCell'=true) (hx:a.eval x=.slice (some ⟨b.heap.size,0,none⟩) 1 1) (y:xs.length<=1000000) (r:base<=b.heap.size)
  (h:∀v' w',OwnV base E w' v' (xs++[u])->b.grownBy w' v.ownBlock->wpList Tryz.prog ops Q rest (a.put o.dst v') w') :
  wpList Tryz.prog ops Q (o :: rest) a w:=by
 subst D;have e:Ext b (b.alloc (.cells #[u] E)):=World.grownBy_alloc _ _ _;refine wp_app T E z bytes A hE m p q s x B base v xs C (k.kept e (by cases H:v.ownBlock<;>simp)) (some ⟨b.heap.size,0,none⟩) 1 1 [u] hx rfl (by simp) ?_ ?_ (by omega) (by have:=e.size;omega) ?_
 ·intro j I
  have:j=0:=by omega
  subst this;exact⟨_,_,rfl,by rw[World.cell?_alloc_at _ _ _ _ rfl];rfl⟩
 ·intro J l
  simp at l;subst l;exact F
 ·intro v' w' h1 G _ _
  exact h v' w' h1 (grown_trans (grown_of_ext _ e) G)
theorem wp_app_int {ops:Array Oper}{rest:List Oper}{o:Oper}{a:Act}{Q:Exit->Act->World->Prop}{w:World}(k:o.guard=none) (s x:Operand)
  (m:o.op=Op.call { callee:=Callee.builtin Builtin.append,args := #[s,x],argTypes := #[24,24] }) (B:Nat) (v:Value) (l:List Int) (y:Int) (p:a.eval s=v) (e:World) (i:Own B e v l)
  (q:w=e.alloc (.cells #[.int .i64 y] 2)) (hx:a.eval x=.slice (some ⟨e.heap.size,0,none⟩) 1 1) (j:l.length<=1000000) (b:B<=e.heap.size)
  (h:∀v' w',Own B w' v' (l++[y])->e.grownBy w' v.ownBlock->wpList Tryz.prog ops Q rest (a.put o.dst v') w') :
  wpList Tryz.prog ops Q (o :: rest) a w:=
 wp_app_v 24 2 (.int .i64 0) 8 und_ints Tryz.infoInt rfl (by decide) k s x m B e v (.int .i64 y) (l.map (Value.int .i64)) p i.v q rfl hx (by rw[List.length_map];exact j) b
  (λv' w' h1 r=>h v' w' (Own.of (by rw[List.map_append];exact h1)) r)
theorem wp_app_vb (T E:Nat) (z:Value) (bytes:Nat) (C:Tryz.prog.underlying T=some (.slice E)) (hE:(Tryz.prog.info? E).map (λi=>(i.zero,i.size,i.bytes))=some (some z,1,bytes))
  (q:z.cells.size=1) (r:bytes<=64) {ops:Array Oper}{rest:List Oper}{o:Oper}{a:Act}{Q:Exit->Act->World->Prop}{w:World}(y:o.guard=none) (s x:Operand)
  (D:o.op=Op.call { callee:=Callee.builtin Builtin.append,args := #[s,x],argTypes := #[T,T] }) (base:Nat) (b:World) (v u:Value) (xs:List Value) (F:a.eval s=v) (m:OwnV base E b v xs)
  (G:w=b.alloc (.cells #[u] E)) (H:u.oneCell'=true) (hx:a.eval x=.slice (some ⟨b.heap.size,0,none⟩) 1 1) (B:xs.length<=1000000) (A:base<=b.heap.size)
  (h:∀v' w',OwnV base E w' v' (xs++[u])->b.grownBy w' v.ownBlock->(v'.ownBlock=v.ownBlock\/∀k,v'.ownBlock=some k->b.heap.size<=k)->wpList Tryz.prog ops Q rest (a.put o.dst v') w') :
  wpList Tryz.prog ops Q (o :: rest) a w:=by
 subst G;have l:Ext b (b.alloc (.cells #[u] E)):=World.grownBy_alloc _ _ _;refine wp_app T E z bytes C hE q r y s x D base v xs F (m.kept l (by cases K:v.ownBlock<;>simp)) (some ⟨b.heap.size,0,none⟩) 1 1 [u] hx rfl (by simp) ?_ ?_ (by omega) (by have:=l.size;omega) ?_
 ·intro j L
  have:j=0:=by omega
  subst this;exact⟨_,_,rfl,by rw[World.cell?_alloc_at _ _ _ _ rfl];rfl⟩
 ·intro M p
  simp at p;subst p;exact H
 ·intro v' w' h1 I _ J
  exact h v' w' h1 (grown_trans (grown_of_ext _ l) I) (J.elim .inl (λe => .inr (λk hk=>by rw[e] at hk;cases hk;exact l.size)))
theorem wp_app_intb {ops:Array Oper}{rest:List Oper}{o:Oper}{a:Act}{Q:Exit->Act->World->Prop}{w:World}(m:o.guard=none) (s x:Operand)
  (p:o.op=Op.call { callee:=Callee.builtin Builtin.append,args := #[s,x],argTypes := #[24,24] }) (B:Nat) (v:Value) (l:List Int) (y:Int) (q:a.eval s=v) (b:World) (i:Own B b v l)
  (r:w=b.alloc (.cells #[.int .i64 y] 2)) (hx:a.eval x=.slice (some ⟨b.heap.size,0,none⟩) 1 1) (j:l.length<=1000000) (e:B<=b.heap.size)
  (h:∀v' w',Own B w' v' (l++[y])->b.grownBy w' v.ownBlock->(v'.ownBlock=v.ownBlock\/∀k,v'.ownBlock=some k->b.heap.size<=k)->wpList Tryz.prog ops Q rest (a.put o.dst v') w') :
  wpList Tryz.prog ops Q (o :: rest) a w:=
 wp_app_vb 24 2 (.int .i64 0) 8 und_ints Tryz.infoInt rfl (by decide) m s x p B b v (.int .i64 y) (l.map (Value.int .i64)) q i.v r rfl hx (by rw[List.length_map];exact j) e
  (λv' w' h1 u z=>h v' w' (Own.of (by rw[List.map_append];exact h1)) u z)
end Go.Proofs.YtldheeicjnncoaaGreat
namespace Go.Proofs.YtldheeicjnncoaaGreat
section
variable {P:Pr}(G:Grp P)
include G
theorem wv_neg {l:Int}(h:l<0):wv G [l]=(gE G (-l-1).toNat)⁻¹ :=by
 unfold wv;rw[evW_one (el_mon G)];unfold letW;rw[if_pos h]
theorem wv_takeS {w:List Int}{k:Nat}(hk:k<w.length):wv G (w.take (k+1))=wv G (w.take k)*wv G [gt w k]:=by rw[take_succ_gt w k hk,wv_app]
theorem wv_inv {w:List Int}(a:WordN P.orders.length w):wv G (invWord w)=(wv G w)⁻¹:=
 El.inv_of (evW_inv (el_mon G) (n:=P.orders.length) (λj _=>El.ir (gE G j)) (λj _=>El.il (gE G j)) w a)
theorem wv_relPow {i:Nat}(hi:i<P.orders.length):wv G (relPow P i)=1:=by
 have hP:=G.v;have j:=(el_holds G).pw i (Nat.zero_le _) hi;have p:P.orders.length=(i+1)+(P.orders.length-(i+1)):=by omega
 have k:=npr_skip (m:=λa b:El G=>a*b) (h:=gE G) (e:=(1:El G)) (x:=gt P.powers i) (i:=i+1) (f:=P.orders.length-(i+1)) (λl r=>(hP.pv i hi).2 l (by omega));rw[<-p] at k;rw[<-k] at j;unfold relPow;rw[wv_app,wv_inv G (WordN.nWord _ _ (Nat.le_refl _)),wv_nWord,wv_rep];have q:iter (gt P.orders i).toNat (λy=>y*gE G i) 1=npr (· * ·) (gE G) (gt P.powers i) 0 1 P.orders.length:=j;rw[q,El.ir]
theorem wv_relCon {i k:Nat}(hi:i+k+1<P.orders.length):wv G (relCon P i k)=1:=by
 have hP:=G.v;have p:=(el_holds G).cj i (i+k+1) (Nat.zero_le _) (by omega) (by omega);have r:P.orders.length=(i+1)+(P.orders.length-(i+1)):=by omega
 have q:=npr_skip (m:=λa b:El G=>a*b) (h:=gE G) (e:=(1:El G)) (x:=gt (gt P.conj i) (i+k+1-i-1)) (i:=i+1) (f:=P.orders.length-(i+1)) (λl y=>(cj_T hP (i:=i) (j:=i+k+1) (by omega) (by omega)).2 l (by omega));rw[<-r] at q;rw[<-q] at p;rw[show i+k+1-i-1=k by omega] at p;unfold relCon;rw[wv_app,wv_inv G (WordN.nWord _ _ (Nat.le_refl _)),wv_nWord]
 have u:wv G [-((i:Int)+1),(i:Int)+k+2,(i:Int)+1]=(gE G i)⁻¹ * (gE G (i+k+1)*gE G i):=by
  rw[show([-((i:Int)+1),(i:Int)+k+2,(i:Int)+1]:List Int)=[-((i:Int)+1)]++([(i:Int)+k+2]++[(i:Int)+1]) from rfl,wv_app,wv_app,wv_neg G (by omega),wv_one G (by omega),wv_one G (by omega),show(- -((i:Int)+1)-1).toNat=i by omega,show((i:Int)+k+2-1).toNat=i+k+1 by omega,show((i:Int)+1-1).toNat=i by omega]
 have w:gE G (i+k+1)*gE G i=gE G i*npr (· * ·) (gE G) (gt (gt P.conj i) k) 0 1 P.orders.length:=p;rw[u,w,El.ilc,El.ir]
theorem wv_relPs:∀k,k<=P.orders.length->∀w∈relPs P k,wv G w=1
 | 0,_,w,h=>by cases h
 | k+1,hk,w,h=>by
  rcases List.mem_append.1 h with h1|h1
  ·exact wv_relPs k (by omega) w h1
  ·rw[List.mem_singleton.1 h1];exact wv_relPow G (by omega)
theorem wv_relCs {i:Nat} : ∀k,i+k<P.orders.length->∀w∈relCs P i k,wv G w=1
 | 0,_,w,h=>by cases h
 | k+1,hk,w,h=>by
  rcases List.mem_append.1 h with h1|h1
  ·exact wv_relCs k (by omega) w h1
  ·rw[List.mem_singleton.1 h1];exact wv_relCon G (by omega)
theorem wv_relTo:∀i,i<=P.orders.length->∀w∈relTo P i,wv G w=1
 | 0,_,w,h=>wv_relPs G _ (Nat.le_refl _) w h
 | i+1,hi,w,h=>by
  rcases List.mem_append.1 h with h1|h1
  ·exact wv_relTo i (by omega) w h1
  ·exact wv_relCs G (i:=i) _ (by rw[(G.v.cv i (by omega)).1];omega) w h1
theorem wv_rels:∀w∈relsP P,wv G w=1:=wv_relTo G _ (Nat.le_refl _)
theorem wv_eval {w:List Int}(e:WordN P.orders.length w):∀k,k<=w.length->evalTo P (gensOf P.orders.length) w k=(wv G (w.take k)).1
 | 0,_=>by rw[List.take_zero];rfl
 | k + 1,hk=>by
  have p:=wv_eval e k (by omega);have q:=e _ (gtMem (l:=w) (i:=k) (by omega))
  have b:∀j,j<P.orders.length->gt (gensOf P.orders.length) j=unitV P.orders.length j:=λj m=>by
   unfold gensOf;rw[gt_map _ _ _ (by rw[List.length_range];exact m),gt_range m]
  rw[evalTo,p,wv_takeS G (by omega)];split
  ·rename_i a
   rw[b _ (by omega),wv_neg G a];rfl
  ·rename_i a
   rw[b _ (by omega),wv_one G (by omega)];rfl
theorem wv_eval0 {w:List Int}(a:WordN P.orders.length w):evalTo P (gensOf P.orders.length) w w.length=(wv G w).1:=by
 have:=wv_eval G a w.length (Nat.le_refl _);rwa [List.take_length] at this
theorem gens_vec:∀x∈gensOf P.orders.length,Vec P.orders x:=λx hx=>by
 unfold gensOf at hx;obtain⟨k,_,rfl⟩:=List.mem_map.1 hx;exact unitV_vec G.v k
end
end Go.Proofs.YtldheeicjnncoaaGreat
namespace Go.Proofs.YtldheeicjnncoaaGreat
open Go.RowKit
theorem Grp.rRep_pw {P:Pr}(G:Grp P) {X:List Int}(a:Vec P.orders X) (k:Nat):rRep (rAt P P.orders.length 0) (zeros P.orders.length) X k=pw P X k:=
 G.lvl.rRep_eq (T_zero.2 a) k
theorem l10Pow_ok (P:Pr) (G:Grp P) (w:World) (pv x:Value) (X:List Int) (k:Int) (F D:Nat->Prop) (H:PresV F w pv P) (hx:Ints D w x X) (B:Vec P.orders X) (hk : -1000000000<=k/\k<=1000000000) :
  Calls Tryz.prog 241 #[pv,x,.int .i64 k] w (Ret w λw' v=>Own w.heap.size w' v (pwZ P X k)):=by
 have hP:=G.v;have I:=hP.n6;obtain⟨vo,vp,vc,rfl,h3⟩:=H;have l:=PresP.box h3 28;have b:Ext w (w.alloc (.cells #[vo,vp,vc] 28)):=World.grownBy_alloc _ _ _;have m:=hx.ext b;have p:(w.alloc (.cells #[vo,vp,vc] 28)).heap.size=w.heap.size+1:=by simp
 have E:=Lib.hid p;clear p hx;have q:X.length=P.orders.length:=B.1;have A:=Lib.hid (And.intro B q);clear B q;by_cases a:k<0
 ·have r:pwZ P X k=pw P (rInv P X) (-k).toNat:=by unfold pwZ;rw[if_pos a]
  have e:=G.invV A.out.1;have J:(rInv P X).length<=6:=by rw[e.1];omega
  have u:=Lib.hid (And.intro r e);clear r e;have K:IntKind.i64.wrap (-k) = -k:=IntWalk.i64_in _ (by omega);go_enter Tryz.func241,Tryz.ntmps241;go_wp2;generalize C:w.alloc (.cells #[vo,vp,vc] 28)=w0 at *;clear C;obtain⟨y,eo,dQ,_,_,hc0,i,j,ew⟩:=l.at;have L:∀w',Ext w0 w'->w'.cell? ⟨w.heap.size,0,none⟩=some y:=λw' h=>h.cell hc0 (by simp);have M:∀w',Ext w0 w'->w'.cell? ⟨w.heap.size,1,none⟩=some eo:=λw' h=>h.cell (by simpa using i) (by simp);have N:∀w',Ext w0 w'->w'.cell? ⟨w.heap.size,2,none⟩=some dQ:=λw' h=>h.cell (by simpa using j) (by simp);clear hc0 i j
  go_region_held3 (λw'=>Ext w0 w') (first|exact grown_drew _ _|assumption)
   (first
    | (go_at_call 296;refine Calls.mono (Calls.rel (w0:=w0) (by assumption) (l10Inv_ok P hP _ _ _ _ Any Any ⟨_,_,_,rfl,Pres3.ext ew (by assumption)⟩ (Ints.sub (Ints.ext m (by assumption)) (λ_ _ _=>trivial)) A.out.1)) ?_;rintro S U ⟨V,rfl,eu,hsA,fE⟩;have z:=fE.ints (by omega))
    | (go_at_call 310;refine Calls.mono (Calls.rel (w0:=w0) (by assumption) (l08Repeat_ok P hP _ _ _ 0 P.orders.length (by omega) _ (-k) Any Any ⟨_,_,_,rfl,Pres3.ext ew (by assumption)⟩ z u.out.2 (by omega) (by omega))) ?_;rintro O Q ⟨R,rfl,hgB,hsB,gi⟩))
  clear L M N;rw[G.rRep_pw u.out.2,<-u.out.1] at gi;go_wp2;go_ret;exact⟨_,rfl,grown_trans b hgB,gi.weak (by have:=E.out;omega)⟩
 ·have r:pwZ P X k=pw P X k.toNat:=by unfold pwZ;rw[if_neg a]
  have u:=Lib.hid r;clear r;obtain⟨y,eo,dQ,_,_,hc0,i,j,ew⟩:=l.at;go_enter Tryz.func241,Tryz.ntmps241;go_wp2_with fail
  refine Calls.mono (l08Repeat_ok P hP _ _ _ 0 P.orders.length (by omega) X k Any D ⟨_,_,_,rfl,ew⟩ m A.out.1 (by omega) (by omega)) ?_;rintro O Q ⟨R,rfl,hgB,gi⟩;rw[G.rRep_pw A.out.1,<-u.out] at gi;go_wp2;go_ret;exact⟨_,rfl,grown_trans b hgB,gi.weak (by have:=E.out;omega)⟩
theorem l02Lead_ok (v:Value) (X:List Int) (w:World) (S:Nat->Prop) (h:Ints S w v X) :
  Calls Tryz.prog 349 #[v] w λe w'=>e=.returned (.int .i64 (dep X))/\w=w':=by
 obtain⟨a,cap,rfl,_,_⟩:=h.shape;go_enter Tryz.func349,Tryz.ntmps349;go_wp2;go_loop [3] (λi=>∃k:Nat,i=.int .i64 k/\k<=X.length/\∀j,j<k->gt X j=0) (λi=>X.length-(intOf i).toNat)
 case atStart=>exact⟨0,rfl,by omega,λj p=>by omega⟩
 case round=>
  obtain⟨k,rfl,hk,hz⟩:=hrel;have q:=Lib.hid hz;clear hz;by_cases l:k<X.length
  ·obtain ⟨b,off,rfl,_,_,hc⟩:=Ints.at h k l
   by_cases hx:gt X k=0
   ·have u:(gt X k != 0)=false:=by simp[hx]
    have y:=Lib.hid hx;clear hx;go_wp2;go_round
    case rel=>exact⟨k+1,by go_num,by omega,λj p=>by
     rcases Nat.lt_succ_iff_lt_or_eq.1 p with h1|h1
     ·exact q.out j h1
     ·rw[h1];exact y.out⟩
    case measure=>simp[intOf];omega
   ·have u:(gt X k != 0)=true:=by simp[hx]
    have m:dep X=k:=dep_eq l q.out hx;have r:=Lib.hid m;clear m hx;go_wp2;go_ret;exact⟨by rw[r.out];rfl,rfl⟩
  ·have z:k=X.length:=by omega
   have m:dep X=X.length:=dep_all (λj p=>q.out j (by omega));have r:=Lib.hid m;clear m;go_wp2;go_ret;exact⟨by rw[r.out];rfl,rfl⟩
theorem l12Depth_ok (v:Value) (X:List Int) (w:World) (S:Nat->Prop) (h:Ints S w v X) :
  Calls Tryz.prog 302 #[v] w (Ret w λ_ r=>r=.int .i64 (dep X)):=by
 have b:=l02Lead_ok v X w S h;obtain⟨a,cap,rfl,_,_⟩:=h.shape;go_enter Tryz.func302,Tryz.ntmps302;go_wp2_with fail
 refine Calls.mono b ?_;rintro e i ⟨rfl,rfl⟩;clear b;go_wp2;go_ret;exact⟨_,rfl,Ext.refl _,rfl⟩
theorem TabAt.rows {B gb n:Nat}{bad:Nat->Prop}{w:World}{b:List (List Int)}(h:TabAt B bad w gb n b) (hn:n<=1000000):Rows2 (λk=>k=gb\/(k≠gb/\¬bad k)) w (.slice (some ⟨gb,0,none⟩) n n) b:=by
 have m:=h.len;have e:=h.lt;refine⟨_,_,by rw[m],⟨by omega,by omega,λh=>by cases h⟩,λi hi => ?_⟩;obtain⟨_,l⟩:=h.at i (by omega);rcases l with⟨p,l⟩|⟨_,a,cap,l,hI⟩
 ·refine ⟨gb,0,_,rfl,.inl rfl,e.2,by rw[Nat.zero_add];exact l,?_⟩
  rw[p];exact⟨none,0,rfl,⟨by simp,by simp,λ_=>rfl⟩,λj q=>by simp at q⟩
 ·exact⟨gb,0,_,rfl,.inl rfl,e.2,by rw[Nat.zero_add];exact l,Ints.sub hI (λk hk _ => .inr hk)⟩
theorem l12Table_ok (P:Pr) (hP:Valid P) (w:World) (pv Z:Value) (U:List (List Int)) (Sp Su:Nat->Prop) (M:PresV Sp w pv P) (hu:Rows2 Su w Z U) (hU:SeqOk P U) (hl:U.length<=6) :
  Calls Tryz.prog 309 #[pv,Z] w (Ret w λw' v=>Rows2 Any w' v (tabTo U P.orders.length U.length)):=by
 have ai:=hP.n6;obtain⟨vo,vp,vc,rfl,h3⟩:=M;have F:=PresP.box h3 28;have N:Ext w (w.alloc (.cells #[vo,vp,vc] 28)):=World.grownBy_alloc _ _ _;obtain⟨ao,capo,dM,hoi⟩:=F.ordAt;obtain⟨au,capu,rfl,_,_⟩:=Sl.shape hu;have HU:=Lib.hid hU;clear hU;go_enter Tryz.func309,Tryz.ntmps309;go_wp2_with (first|(at_make;refine wp_make_tab rfl _ _ rfl w.heap.size P.orders.length (w.heap.size+1) (by simp) _ rfl rfl rfl (by omega) (by omega) ?_;intro w1 G O ab)|fail)
 have H:=grown_trans N O;have C:=G (λ_=>False);clear G dM hoi F;go_loopw [6] (λQ wr=>∃i:Nat,Q=.int .i64 i/\i<=U.length/\Ext w wr/\TabAt w.heap.size (λ_=>False) wr (w.heap.size+1) P.orders.length (tabTo U P.orders.length i)) (λQ _=>U.length-(intOf Q).toNat)
 case atStart=>exact⟨0,rfl,by omega,H,C⟩
 case round=>
  clear C H;obtain⟨i,rfl,hi,E,C⟩:=hrel;by_cases l:i<U.length
  ·have ac:(i:Int)<U.length:=by omega
   obtain⟨b,off,a2,a,rfl,_,mK,hc0,hr⟩:=Rows2.at hu i l;have hc:=E.cell hc0 (by simp);clear hc0;obtain⟨p,q,r⟩:=HU.out.1 _ (gtMem l);have A:tabTo U P.orders.length (i+1)=(tabTo U P.orders.length i).set (dep (gt U i)) (gt U i):=rfl;obtain⟨z,hz⟩:∃z,z=gt U i:=⟨_,rfl⟩;rw[<-hz] at hc hr p q r A;clear hz;obtain⟨d,R⟩:∃d,d=dep z:=⟨_,rfl⟩;rw[<-R] at q A r;have HD:=Lib.hid R;clear R;have al:b<w.heap.size:=mK;have S:=Ints.ext hr E;have B:z≠[]:=λe=>by have:=p.1;rw[e] at this;simp at this;omega
   have V:Ints (λk=>k≠w.heap.size+1/\¬False) wr (.slice a2 z.length a) z:=by
    have h1:Ints (λk=>k<w.heap.size) w (.slice a2 z.length a) z:=Ints.sub hr (λ_ _ h=>h);exact h1.mono (λk hk l=>⟨⟨by omega,id⟩,Nat.lt_of_lt_of_le l E.size,E.block k l (by simp)⟩)
   obtain⟨am,I⟩:=C.at d q;have HS:=Lib.hid (And.intro A (And.intro B (And.intro p r)));clear A B p r;have an:(d:Int)<P.orders.length:=by omega
   obtain⟨u0,hu0⟩:∃u0,wr.cell? ⟨w.heap.size+1,d,none⟩=some u0:=by rcases I with⟨_,h⟩|⟨_,_,_,h,_⟩<;>exact⟨_,h⟩
   clear I mK;have e1:∀w',Near wr (w.heap.size+1) w'->w'.cell? ⟨b,off+i,none⟩=some (.slice a2 z.length a):=λw' h=>h.cell hc (by simp;omega);go_wp2
   go_region_held3 (λw'=>Near wr (w.heap.size+1) w') (first|exact Near.of (grown_drew _ _)|exact Near.of (by assumption)|exact Near.store (by assumption)|assumption)
    (first
     | (go_at_call 302;refine Calls.mono (Calls.rel (w0:=wr) (by first|exact grown_drew _ _|assumption) (l12Depth_ok _ z _ Any (Ints.sub (Ints.ext S (by first|exact grown_drew _ _|assumption)) (λ_ _ _=>trivial)))) ?_;rintro eE wE ⟨vE,rfl,m,gu,J⟩;rw[<-HD.out] at J;subst J;have D:=m.cell hu0 (by simp);have K:=((C.ext m).at d q).1))
   clear e1;obtain⟨W,L⟩:=(C.ext m).put d (u := .slice a2 z.length a) (y:=z) (Ints.ext V m) HS.out.2.1;have X:Ext w (wE.setCell ⟨w.heap.size+1,d,none⟩ (.slice a2 z.length a)):=grown_own (grown_trans E m) L (λj hj l=>by cases hj;omega);clear D K L;go_wp2;go_roundw
   case rel=>exact⟨i+1,by go_num,by omega,X,by rw[HS.out.1];exact W⟩
   case measure=>simp[intOf];omega
  ·have Y:i=U.length:=by omega
   subst Y;go_wp2;go_ret;exact⟨_,rfl,E,Rows2.sub (C.rows (by omega)) (λ_ _ _=>trivial)⟩
theorem l12Reduce_ok (P:Pr) (G:Grp P) (w:World) (pv tv M:Value) (b:List (List Int)) (X:List Int) (H:List Int->Prop) (Sp Sb Sx:Nat->Prop) (N:PresV Sp w pv P) (ht:Rows2 Sb w tv b) (hx:Ints Sx w M X) (O:Vec P.orders X)
  (l:b.length=P.orders.length) (hI:Ind P H (gt b)) :
  Calls Tryz.prog 308 #[pv,tv,M] w (Ret w λw' v=>∃Y,Own w.heap.size w' v Y/\RedTo P H b X P.orders.length Y):=by
 have hP:=G.v;have ao:=hP.n6;obtain⟨vo,vp,vc,rfl,h3⟩:=N;have y:=PresP.box h3 28;have m:Ext w (w.alloc (.cells #[vo,vp,vc] 28)):=World.grownBy_alloc _ _ _;have Q:=hx.ext m;have R:=Rows2.ext ht m;have ap:X.length<=6:=by rw[O.1];omega
 have z:(w.alloc (.cells #[vo,vp,vc] 28)).heap.size=w.heap.size+1:=by simp
 obtain⟨at_,capt,A,_,_⟩:=Sl.shape ht;rw[l] at A;subst A;have r:=Lib.hid (And.intro hI (And.intro O l));clear hI O l;obtain⟨S,eo,dQ,_,_,U,B,C,D⟩:=y.at;simp only[Nat.zero_add] at B C;clear y;go_enter Tryz.func308,Tryz.ntmps308;go_wp2_with fail
 have HS:=Lib.hid z;clear z;generalize V:w.alloc (.cells #[vo,vp,vc] 28)=w0 at *;clear V;refine Calls.mono (l01Own_ok w0 M X Sx Q (by omega)) ?_;rintro e1 w1 ⟨ov,rfl,hg1,gN⟩;go_wp2;go_loopw [7,8] (λov W wr=>∃(d:Nat) (Y:List Int),W=.int .i64 d/\d<=P.orders.length/\Ext w0 wr/\Own w.heap.size wr ov Y/\Hid (RedTo P H b X d Y)) (λ_ W _=>P.orders.length-(intOf W).toNat)
 case atStart=>exact⟨0,X,rfl,by omega,hg1,gN.weak (by have:=HS.out;omega),Lib.hid (G.redTo_zero r.out.1.sub r.out.2.1)⟩
 case round=>
  clear gN;obtain⟨d,Y,rfl,hd,e,hO,E⟩:=hrel;have a:=E.out.vec;have Z:Y.length=P.orders.length:=a.1;have p:=hO.ints (by omega);obtain⟨ay,capy,F,_,_⟩:=p.shape;rw[Z] at F;subst F;by_cases i:d<P.orders.length
  ·have ak:(d:Int)<P.orders.length:=by omega
   obtain⟨bb,off,a2,I,rfl,_,_,hc,hr⟩:=Rows2.at (Rows2.ext R e) d (by rw[r.out.2.2];exact i);obtain⟨aa,oy,rfl,_,_,iG⟩:=Ints.at p d (by omega);by_cases k:gt b d=[]
   ·have ab:¬(0:Int)<(gt b d).length:=by rw[k];simp
    have j:=Lib.hid (E.out.skip (.inl k));clear k a;go_wp2;go_roundw
    case rel=>exact⟨d+1,Y,by go_num,by omega,e,hO,j⟩
    case measure=>simp[intOf];omega
   ·have ab:(0:Int)<(gt b d).length:=by
     have:0<(gt b d).length:=List.length_pos_iff.2 k;omega
    by_cases hy:gt Y d=0
    ·have ac:(gt Y d != 0)=false:=by simp[hy]
     have j:=Lib.hid (E.out.skip (.inr hy));clear k a hy;go_wp2;go_roundw
     case rel=>exact⟨d+1,Y,by go_num,by omega,e,hO,j⟩
     case measure=>simp[intOf];omega
    ·have ac:(gt Y d != 0)=true:=by simp[hy]
     have J:=a.2 d i;have ho:=hP.ord7 d i;have ar:IntKind.i64.wrap (-(gt Y d)) = -(gt Y d):=IntWalk.i64_in _ (by omega);obtain⟨m1,m2,m3⟩:=r.out.1.mem d i k;have j:=Lib.hid (G.redTo_step r.out.1 r.out.2.1 i k E.out);have q:=G.pwZ_vec m2.1 (-(gt Y d));have K:(pwZ P (gt b d) (-(gt Y d))).length<=6:=by rw[q.1];omega
     have u:=Lib.hid (And.intro m2.1 (And.intro q (And.intro K (And.intro a (And.intro J ho)))));clear m1 m2 m3 q K a J ho k hy;have e1:∀w',Ext wr w'->w'.cell? ⟨w.heap.size,0,none⟩=some S:=λw' h=>(grown_trans e h).cell U (by simp);have e2:∀w',Ext wr w'->w'.cell? ⟨w.heap.size,1,none⟩=some eo:=λw' h=>(grown_trans e h).cell B (by simp);have e3:∀w',Ext wr w'->w'.cell? ⟨w.heap.size,2,none⟩=some dQ:=λw' h=>(grown_trans e h).cell C (by simp);have e4:∀w',Ext wr w'->w'.cell? ⟨bb,off+d,none⟩=some (.slice a2 (gt b d).length I):=λw' h=>h.cell hc (by simp);have e5:∀w',Ext wr w'->w'.cell? ⟨aa,oy+d,none⟩=some (.int .i64 (gt Y d)):=λw' h=>h.cell iG (by simp);go_wp2;clear hc iG
     go_region_held3 (λw'=>Ext wr w') (first|exact grown_drew _ _|assumption)
      (first
       | (go_at_call 241;refine Calls.mono (Calls.rel (w0:=wr) (by assumption) (l10Pow_ok P G _ _ _ (gt b d) _ Any Any ⟨_,_,_,rfl,Pres3.ext (Pres3.ext D e) (by assumption)⟩ (Ints.sub (Ints.ext hr (by assumption)) (λ_ _ _=>trivial)) u.out.1 (by have:=u.out.2.2.2.2.1;have:=u.out.2.2.2.2.2;omega))) ?_;rintro eA wA ⟨vA,rfl,eu,hsA,fE⟩;have L:=fE.ints (by have:=u.out.2.2.1;omega))
       | (go_at_call 295;refine Calls.mono (Calls.rel (w0:=wr) (by assumption) (l08Mul_ok P hP _ _ _ _ Y _ Any Any Any ⟨_,_,_,rfl,Pres3.ext (Pres3.ext D e) (by assumption)⟩ (Ints.sub (Ints.ext p (by assumption)) (λ_ _ _=>trivial)) L u.out.2.2.2.1 u.out.2.1)) ?_;rintro eB wB ⟨vB,rfl,hgB,hsB,gi⟩))
     clear e1 e2 e3 e4 e5;go_wp2;go_roundw
     case rel=>exact⟨d+1,_,by go_num,by omega,grown_trans e hgB,gi.weak (by have:=e.size;have:=HS.out;omega),j⟩
     case measure=>simp[intOf];omega
  ·have ae:d=P.orders.length:=by omega
   subst ae;go_wp2;go_ret;exact⟨_,rfl,grown_trans m e,Y,hO,E.out⟩
theorem Grp.repTo_mem {P:Pr}(G:Grp P) {H:List Int->Prop}(S:Sub P H) {X Y:List Int}(a:Vec P.orders X) (h:RepTo P (cseq P H) X (cseq P H).length Y):Y=zeros P.orders.length↔H X:=by
 obtain⟨h1,h2,h3⟩:=G.seq_facts S;have hi:=G.invV a;have e:=h.cos H S h2;constructor
 ·intro b
  rw[b,G.grp.er _ hi] at e;have:=S.inv _ e;rwa [G.inv_inv a] at this
 ·intro hx
  have hy:=S.mul _ _ hx e;rw[<-G.ass a hi h.vec,G.mul_inv a,G.grp.el _ h.vec] at hy;by_cases b:Y=zeros P.orders.length
  ·exact b
  ·obtain ⟨d,hd,hT,hne⟩:=depth_ex h.vec b
   obtain⟨j,hj,i⟩:=h3 Y hy d hd hT hne;exact absurd (by rw[<-i];exact h.zer j hj) hne
theorem isZeroB_zeros {o l:List Int}(h:Vec o l):isZeroB l=true↔l=zeros o.length:=by
 rw[isZeroB_true];constructor
 ·intro a
  refine ext_gt (by rw[h.1];simp[zeros]) (λi hi => ?_);rw[a i hi];exact(gt_replicate _ _).symm
 ·intro a i hi
  rw[a];exact gt_replicate _ _
theorem isMember_ok (P:Pr) (G:Grp P) (w:World) (p m q:Value) (H:List Int->Prop) (X:List Int) (y z A:Nat->Prop) (S:Sub P H) (B:PresP y w p P) (C:Rows2 z w m (cseq P H)) (hx:Ints A w q X) (D:Vec P.orders X) :
  Calls Tryz.prog 188 #[p,m,q] w (Ret w λ_ v=>∃r:Bool,v=.bool r/\(r=true↔H X)):=by
 have F:=G.v.n6;have K:=G.cseq_len S;have e:=(G.seq_facts S).1;have b:=representative_ok P G w p m q (cseq P H) X y z A B C e (by omega) hx D;obtain⟨pb,po,rfl⟩:=B.shape;obtain⟨L,capu,rfl,_,_⟩:=Sl.shape C;obtain⟨M,capx,rfl,_,_⟩:=hx.shape;have N:=Lib.hid e;clear e;go_enter Tryz.func188,Tryz.ntmps188;go_wp2_with fail
 refine Calls.mono b ?_;rintro O E ⟨v1,rfl,hg1,Y,hO,l⟩;clear b;have i:=hO.ints (by rw[l.vec.1];omega);obtain⟨Q,capy,rfl,_,_⟩:=i.shape;have a:=(isZeroB_zeros l.vec).trans (G.repTo_mem S D l);cases k:isZeroB Y with
 | true=>
  rw[k] at a;have u:=Lib.hid a;have j:=isZero_ok _ _ E Any i;rw[k] at j;clear a k l;go_wp2_with fail
  refine Calls.mono j ?_;rintro I J ⟨rfl,rfl⟩;clear j;go_wp2;go_ret;exact⟨_,rfl,hg1,true,rfl,by simpa using u.out⟩
 | false=>
  rw[k] at a;have u:=Lib.hid a;have j:=isZero_ok _ _ E Any i;rw[k] at j;clear a k l;go_wp2_with fail
  refine Calls.mono j ?_;rintro I J ⟨rfl,rfl⟩;clear j;go_wp2;go_ret;exact⟨_,rfl,hg1,false,rfl,by simpa using u.out⟩
end Go.Proofs.YtldheeicjnncoaaGreat
