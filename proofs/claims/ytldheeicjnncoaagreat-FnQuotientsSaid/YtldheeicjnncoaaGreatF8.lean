/- Merged from templates. -/
import Derived.Test.YtldheeicjnncoaaGreatF7
set_option maxRecDepth 100000
set_option maxHeartbeats 8000000
namespace Go.Proofs.YtldheeicjnncoaaGreat
open Go.RowKit
section
variable {P:Pr}
theorem prd_all (G:Grp P):((prd P (λ_=>True) P.orders.length 0:Nat):Int)=ordP P:=by
 have key:∀k,k<=P.orders.length->((prF P (λ_=>True) k:Nat):Int)=prodTo P.orders k:=by
  intro k;induction k with
  | zero=>intro _;rfl
  | succ k a=>
   intro h;obtain⟨q,h1,h2,h3⟩:=ordN G (show k<P.orders.length by omega);rw[prF_succ,if_pos trivial,Int.natCast_mul,a (by omega),h2,prodTo,h1]
 exact key _ (Nat.le_refl _)
end
section
variable {P:Pr}
theorem frI_mem {U:List (List Int)}{i:Nat} : i∈frI P U↔i<P.orders.length/\¬i∈U.map dep:=by
 unfold frI;rw[List.mem_filter,List.mem_range];simp
theorem szR_prF (p:Nat->Bool):∀k,szR P ((List.range k).filter p).reverse=prF P (λd=>p d=true) k
 | 0=>rfl
 | k + 1=>by
  rw[List.range_succ,List.filter_append,List.reverse_append,prF_succ];by_cases h:p k=true
  ·rw [List.filter_cons_of_pos h,List.filter_nil,List.reverse_singleton,List.singleton_append,if_pos h]
   show szR P _*ordN' P k=_
   rw[szR_prF p k];rfl
  ·rw[List.filter_cons_of_neg h,List.filter_nil,List.reverse_nil,List.nil_append,if_neg h,Nat.mul_one,szR_prF p k]
theorem pvU_dep (G:Grp P) {U:List (List Int)}(h:SubB P U) (d:Nat):pvU G U d↔d∈U.map dep:=by
 have S:=G.subB h;obtain⟨h1,b,i⟩:=G.seq_facts S;have e:cseq P (gP P U)=U:=h.2.symm;rw[e] at h1 b i;constructor
 ·rintro ⟨l,x,hx,m,p⟩
  obtain⟨j,hj,hjd⟩:=i x.1 hx d l (dT_T.1 m) p;exact List.mem_map.2 ⟨_,gt_mem hj,hjd⟩
 ·intro q
  obtain⟨z,hz,rfl⟩:=List.mem_map.1 q;obtain⟨k,hlt,a⟩:=h1.1 z hz;exact⟨hlt,⟨z,k⟩,b z hz,dT_T.2 (dep_T k),by show gt z (dep z)≠0;rw[a];decide⟩
theorem idx_mul (G:Grp P) {U:List (List Int)}(h:SubB P U):ordP P=prodU P U U.length*((szR P (frI P U).reverse:Nat):Int):=by
 have a:szR P (frI P U).reverse=prd P (λd=>¬pvU G U d) P.orders.length 0:=by
  unfold frI;rw[szR_prF];exact prd_congr _ _ (λk _ _=>by rw[pvU_dep G h];simp)
 rw[ordU G h,a,<-Int.natCast_mul,prd_mul _ _ (λk _ _ hk b=>b hk)];rw[<-prd_all G,Int.natCast_inj];exact prd_congr _ _ (λk _ _=>⟨λ_=>Classical.em _,λ_=>trivial⟩)
theorem elR_zr (G:Grp P) {U:List (List Int)}(t:Nat):Zr P U (elR P (frI P U).reverse t):=by
 have key:∀(r:List Nat),(∀i∈r,i<P.orders.length/\¬i∈U.map dep)->∀t,Vec P.orders (elR P r t)/\∀k,k∈U.map dep->gt (elR P r t) k=0:=by
  intro r;induction r with
  | nil=>intro _ t;exact⟨G.oneV,λk _=>gt_replicate _ _⟩
  | cons i r e=>
   intro hr t;obtain⟨h1,h2⟩:=e (λj b=>hr j (List.mem_cons_of_mem _ b)) (t/ordN' P i);obtain⟨hi,hn⟩:=hr i (List.mem_cons_self ..);obtain⟨q,e1,e2,e3⟩:=ordN G hi;have l:ordN' P i=q:=e2;have m:2<=q:=by omega
   unfold elR;refine⟨⟨by rw[List.length_set];exact h1.1,λk hk => ?_⟩,λk hk => ?_⟩
   ·by_cases a:k=i
    ·subst a
     rw[gt_set_eq _ _ _ (by rw[h1.1];exact hi),l,e1];have:=Nat.mod_lt t (show 0<q by omega);omega
    ·rw [gt_set_ne _ _ _ _ (λh=>a h.symm)]
     exact h1.2 k hk
   ·have a:k≠i:=λh=>hn (h▸hk)
    rw[gt_set_ne _ _ _ _ (λh=>a h.symm)];exact h2 k hk
 obtain⟨h1,h2⟩:=key (frI P U).reverse (λi hi=>frI_mem.1 (List.mem_reverse.1 hi)) t;exact⟨h1,λj b=>h2 _ (List.mem_map.2 ⟨_,gt_mem b,rfl⟩)⟩
end
end Go.Proofs.YtldheeicjnncoaaGreat
namespace Go.Proofs.YtldheeicjnncoaaGreat
open Go.RowKit
open Classical
def elOf {P:Pr}(G:Grp P) (x:List Int) (h:Vec P.orders x):El G:=⟨x,h⟩
noncomputable def mkE {P:Pr}(G:Grp P) (x:List Int):El G:=if h:Vec P.orders x then elOf G x h else 1
theorem mkE_val {P:Pr}(G:Grp P) {x:List Int}(h:Vec P.orders x):(mkE G x).1=x:=by unfold mkE;rw[dif_pos h];rfl
section
variable {P:Pr}(G:Grp P)
include G
end
section
variable {P:Pr}(G:Grp P)
include G
theorem elR_ok:∀(r:List Nat),r.Nodup->(∀i∈r,i<P.orders.length)->∀t,(elR P r t).length=P.orders.length/\∀k,¬k∈r->gt (elR P r t) k=0
 | [],_,_,_=>⟨G.oneV.1,λ_ _=>gt_replicate _ _⟩
 | i :: r,hn,hr,t=>by
  rw[List.nodup_cons] at hn;obtain⟨h1,h2⟩:=elR_ok r hn.2 (λj b=>hr j (List.mem_cons_of_mem _ b)) (t/ordN' P i);unfold elR;refine⟨by rw[List.length_set];exact h1,λk hk => ?_⟩;have a:¬i=k:=λe=>hk (e▸List.mem_cons_self ..);rw[gt_set_ne _ _ _ _ a];exact h2 k (λh=>hk (List.mem_cons_of_mem _ h))
theorem elR_inj:∀(r:List Nat),r.Nodup->(∀i∈r,i<P.orders.length)->∀t u,t<szR P r->u<szR P r->elR P r t=elR P r u->t=u
 | [],_,_,t,u,m,hu,_=>by unfold szR at m hu;omega
 | i :: r,hn,hr,t,u,m,hu,e=>by
  rw[List.nodup_cons] at hn;have a:∀j∈r,j<P.orders.length:=λj p=>hr j (List.mem_cons_of_mem _ p);obtain⟨a1,a2⟩:=elR_ok G r hn.2 a (t/ordN' P i);obtain⟨b1,b2⟩:=elR_ok G r hn.2 a (u/ordN' P i);have hi:=hr i (List.mem_cons_self ..);unfold elR at e;unfold szR at m hu
  have z:0<ordN' P i:=by
   rcases Nat.eq_zero_or_pos (ordN' P i) with h|h
   ·rw[h] at m;omega
   ·exact h
  have q:t%ordN' P i=u%ordN' P i:=by
   have:=congrArg (λl=>gt l i) e;rw[gt_set_eq _ _ _ (by rw[a1];exact hi),gt_set_eq _ _ _ (by rw[b1];exact hi)] at this;omega
  have w:elR P r (t/ordN' P i)=elR P r (u/ordN' P i):=by
   refine ext_gt (by rw[a1,b1]) (λk hk => ?_);by_cases b:i=k
   ·subst b;rw[a2 _ hn.1,b2 _ hn.1]
   ·have:=congrArg (λl=>gt l k) e
    rwa [gt_set_ne _ _ _ _ b,gt_set_ne _ _ _ _ b] at this
  have y:=elR_inj r hn.2 a _ _ (Nat.div_lt_of_lt_mul (by rw[Nat.mul_comm];exact m)) (Nat.div_lt_of_lt_mul (by rw[Nat.mul_comm];exact hu)) w;have t1:=Nat.div_add_mod t (ordN' P i);have u1:=Nat.div_add_mod u (ordN' P i);rw[y,q] at t1;omega
omit G in
theorem trT_els (U:List (List Int)):trT P (frI P U)=(List.range (szR P (frI P U).reverse)).map (elR P (frI P U).reverse):=by
 have:=trT_eq P (frI P U).reverse;rwa [List.reverse_reverse] at this
theorem Grp.els_len:((els G).length:Int)=ordP P:=by
 have q:=G.v.ordP_pos
 have h1:((els G).map (λx:El G=>(num P x.1).toNat)).Nodup:=by
  rw[List.nodup_iff_pairwise_ne,List.pairwise_map];refine(List.nodup_iff_pairwise_ne.1 (els_nodup G)).imp (λ{a b} i e=>i (Subtype.ext ?_));have ha:=G.num_lt a.2;have j:=G.num_lt b.2;rw[<-ha.2,<-j.2,e]
 have k:=(List.perm_ext_iff_of_nodup h1 (List.nodup_range (n:=(ordP P).toNat))).2 (λm=>by
  rw[List.mem_map,List.mem_range];constructor
  ·rintro⟨x,_,rfl⟩;exact(G.num_lt x.2).1
  ·intro r
   have l:=elAt_vec G.v (m:Int) (by omega);refine⟨mkE G (elAt P (m:Int)),els_mem G _,?_⟩;rw[mkE_val G l,num_elAt G.v (m:Int) (by omega) (by omega)];rfl)
 have p:=k.length_eq;rw[List.length_map,List.length_range] at p;omega
theorem Grp.trT_rep {U:List (List Int)}(hU:SubB P U):LRep (toE G (gP P U)) ((trT P (frI P U)).map (mkE G)):=by
 have S:=G.subB hU;have I:=toE_sg (G:=G) S
 have w:(frI P U).reverse.Nodup:=by
  rw[List.nodup_iff_pairwise_ne,List.pairwise_reverse];exact(List.nodup_iff_pairwise_ne.1 (List.nodup_range.filter _)).imp (λh=>h.symm)
 have z:∀i∈(frI P U).reverse,i<P.orders.length:=λi hi=>(frI_mem.1 (List.mem_reverse.1 hi)).1
 have D:∀x∈trT P (frI P U),Zr P U x:=λx hx=>by
  rw[trT_els (P:=P) U] at hx;obtain⟨t,_,rfl⟩:=List.mem_map.1 hx;exact elR_zr G t
 have j:∀t∈(trT P (frI P U)).map (mkE G),∀u∈(trT P (frI P U)).map (mkE G),eqv (toE G (gP P U)) t u->t=u:=by
  intro t A u J r;obtain⟨x,hx,rfl⟩:=List.mem_map.1 A;obtain⟨y,hy,rfl⟩:=List.mem_map.1 J;have E:=D x hx;have F:=D y hy;have r:gP P U (rMul P (rInv P (mkE G x).1) (mkE G y).1):=r;rw[mkE_val G E.1,mkE_val G F.1] at r;have k:cseq P (gP P U)=U:=hU.2.symm;have:=G.zr_one S (x:=x) (y:=y) (by rw[k];exact E) (by rw[k];exact F) r;rw[this]
 have l:((trT P (frI P U)).map (mkE G)).Nodup:=by
  rw[trT_els (P:=P) U,List.map_map,List.nodup_iff_pairwise_ne,List.pairwise_map];refine List.pairwise_lt_range.imp_of_mem (λ{a b} ha K L e => ?_);have B:=congrArg Subtype.val e;simp only[Function.comp] at B;rw[mkE_val G (elR_zr G (U:=U) a).1,mkE_val G (elR_zr G (U:=U) b).1] at B;have:=elR_inj G _ w z a b (List.mem_range.1 ha) (List.mem_range.1 K) B;omega
 refine⟨l,j,?_⟩
 have C:cd (λg=>∃t∈(trT P (frI P U)).map (mkE G),eqv (toE G (gP P U)) t g)=((trT P (frI P U)).map (mkE G)).length*cd (toE G (gP P U)):=by
  refine cd_mul I l ?_ j (λx hx=>hx);intro t A n hn;refine⟨t,A,?_⟩;show toE G (gP P U) (t⁻¹ * (t*n))
  rw[El.ilc];exact hn
 have m:((trT P (frI P U)).map (mkE G)).length=szR P (frI P U).reverse:=by
  rw[trT_els (P:=P) U,List.length_map,List.length_map,List.length_range]
 have H:=order_cd (G:=G) S;rw[<-hU.2] at H;have hi:=Go.Proofs.YtldheeicjnncoaaGreat.idx_mul G hU;have p:((els G).length:Int)=ordP P:=G.els_len;intro g
 have q:(elsIn (λg=>∃t∈(trT P (frI P U)).map (mkE G),eqv (toE G (gP P U)) t g)).length=(els G).length:=by
  have h1:((elsIn (λg=>∃t∈(trT P (frI P U)).map (mkE G),eqv (toE G (gP P U)) t g)).length:Int)=((els G).length:Int):=by
   show((cd _:Nat):Int)=_
   rw[p,hi,C,m,Int.natCast_mul,H,Int.mul_comm]
  omega
 have:=(List.length_filter_eq_length_iff.1 q) g (els_mem G g);simpa using this
end
end Go.Proofs.YtldheeicjnncoaaGreat
namespace Go.Proofs.YtldheeicjnncoaaGreat
open Go.RowKit
theorem copyRows_ok (w:World) (v:Value) (L:List (List Int)) (S:Nat->Prop) (E:Rows2 S w v L) (F:∀x∈L,x.length<=1000000) (G:L.length<=1000000) :
  Calls Tryz.prog 237 #[v] w (Ret w λw' r=>RowsO w.heap.size w' r L):=by
 obtain⟨a,cap,rfl,_,_⟩:=Sl.shape E;have J:=Lib.hid F;clear F;go_enter Tryz.func237,Tryz.ntmps237;go_wp2;go_loopw [3,8] (λK y wr=>∃(i:Nat) (v4:Value),v4=K/\y=.int .i64 i/\i<=L.length/\Ext w wr/\RowsO w.heap.size wr v4 (L.take i)) (λ_ y _=>L.length-(intOf y).toNat)
 case atStart=>exact⟨0,_,rfl,rfl,by omega,Ext.refl _,SlO.nil _ _ _ _⟩
 case round=>
  obtain⟨i,v4,rfl,rfl,hi,u,hO⟩:=hrel;by_cases k:i<L.length
  ·have H:(i:Int)<L.length:=by omega
   obtain⟨b,off,a2,cap2,rfl,_,_,hc,hr⟩:=Rows2.at (Rows2.ext E u) i k;have e:=take_succ_gt L i k;have m:=J.out _ (gtMem k);have z:(L.take i).length<=1000000:=by rw[List.length_take];omega
   have l:=Lib.hid (And.intro e m);clear e m;go_wp2_with fail
   refine Calls.mono (clone_ok wr _ (gt L i) _ hr (by have:=l.out.2;omega)) ?_;rintro O I ⟨M,rfl,A,fT⟩;have p:OwnIn (From wr.heap.size) I M (gt L i):=OwnIn.of fT (by have:=l.out.2;omega) (λj h1 _=>h1);obtain⟨Q,capy,gz,_,_⟩:=p.ints.shape;subst gz;clear hc;go_wp2_with (first|(at_builtin;refine wp_app_row rfl _ _ rfl w.heap.size wr I v4 _ (L.take i) (gt L i) rfl hO A p rfl rfl z u.size ?_;intro v5 R B C N;have q:=hO.extw u (Nat.le_refl _) C)|fail)
   go_roundw
   case rel=>exact⟨i+1,v5,rfl,by go_num,by omega,q,by rw[l.out.1];exact B⟩
   case measure=>simp[intOf];omega
  ·have D:i=L.length:=by omega
   subst D;rw[List.take_length] at hO;obtain⟨U,capz,fR,_,_⟩:=SlD.shape (hO.toD (by omega));subst fR;go_wp2;go_ret;exact⟨_,rfl,u,hO⟩
section
variable {P:Pr}(G:Grp P)
include G
end
theorem l02Unit_ok (n:Nat) (w:World) (hn:n<=6):Calls Tryz.prog 219 #[.int .i64 n] w (Ret w λw' v=>Rows2 Any w' v (gensOf n)):=by
 have p:=gensOf_len n;have e:=Lib.hid p;clear p;go_enter Tryz.func219,Tryz.ntmps219;go_wp2;go_loopw [3,4] (λK y wr=>∃(k:Nat) (v4:Value),v4=K/\y=.int .i64 k/\k<=n/\Ext w wr/\RowsO w.heap.size wr v4 ((gensOf n).take k)) (λ_ y _=>n-(intOf y).toNat)
 case atStart=>exact⟨0,_,rfl,rfl,by omega,World.grownBy_alloc _ _ _,[],λ_ _=>False,rfl,World.ownsRow_lit w #[] 0 (Nat.le_refl _) (by decide) rfl,by simp,by simp,by simp⟩
 case round=>
  obtain⟨k,v4,rfl,rfl,hk,A,hO⟩:=hrel;by_cases i:k<n
  ·have G:(k:Int)<n:=by omega
   have a:(gensOf n).take (k+1)=(gensOf n).take k++[unitV n k]:=by rw[take_succ_gt _ k (by rw[e.out];exact i),gensOf_at n k i]
   have q:((gensOf n).take k).length<=1000000:=by rw[List.length_take];omega
   have r:(unitV n k).length=n:=by simp[unitV]
   have m:=Lib.hid (And.intro a (And.intro q r));clear a q r
   go_wp2_with (first
    | (at_make;refine wp_make_ints rfl _ _ rfl wr.heap.size n wr.heap.size rfl _ rfl rfl rfl (by omega) (Nat.le_refl _) ?_;intro H b B I;have N:=b.cell k (by simp;omega);have O:=b.frozen k)
    | (at_builtin;go_must (refine wp_app_row rfl _ _ rfl w.heap.size wr _ v4 _ ((gensOf n).take k) (unitV n k) rfl hO (grown_own B (b.store k 1).2 (λj L i=>by cases L;omega)) (OwnIn.of (base:=wr.heap.size) (F:=From wr.heap.size) (l:=unitV n k) (b.store k 1).1 (by have:=m.out.2.2;omega) (λj h1 _=>h1)) rfl (congrArg (λz=>Value.slice (some ⟨z,0,none⟩) 1 1) (show H.heap.size=(H.setCell ⟨wr.heap.size,k,none⟩ (.int .i64 1)).heap.size by simp[World.setCell])) m.out.2.1 A.size ?_);intro v5 Q C D M;have u:=hO.extw A (Nat.le_refl _) D)
    | fail)
   go_roundw
   case rel=>exact⟨k+1,v5,rfl,by go_num,by omega,u,by rw[m.out.1];exact C⟩
   case measure=>simp[intOf];omega
  ·have E:k=n:=by omega
   subst E;rw[List.take_of_length_le (by rw[e.out];exact Nat.le_refl _)] at hO;have J:=RowsD.rows (hO.toD (by rw[e.out];omega));obtain⟨R,capz,fR,_,_⟩:=Sl.shape J;subst fR;go_wp2;go_ret;exact⟨_,rfl,A,Rows2.sub J (λ_ _ _=>trivial)⟩
theorem l12Whole_ok (P:Pr) (hP:Valid P) (w:World) (pv:Value) (k:Nat->Prop) (b:PresV k w pv P) :
  Calls Tryz.prog 113 #[pv] w (Ret w λw' v=>Rows2 Any w' v (gensOf P.orders.length)):=by
 obtain⟨vo,vp,vc,rfl,h3⟩:=b;have e:=PresP.box h3 28;have i:Ext w (w.alloc (.cells #[vo,vp,vc] 28)):=World.grownBy_alloc _ _ _;have j:=hP.n6;obtain⟨m,capo,dM,hoi⟩:=e.ordAt;go_enter Tryz.func113,Tryz.ntmps113;go_wp2_with fail
 refine Calls.mono (l02Unit_ok P.orders.length _ j) ?_;rintro p q ⟨v1,rfl,hg1,hR⟩;have a:=gensOf_len P.orders.length;have l:=Lib.hid a;clear a;obtain⟨r,capz,fR,_,_⟩:=Sl.shape hR;subst fR;go_wp2;go_ret;exact⟨_,rfl,grown_trans i hg1,hR⟩
def oneOk (P:Pr) (U:List (List Int)):Prop:=rconsB P=true/\SubB P U
def crOk (P:Pr) (U:List (List Int)) (X:List Int):Prop:=oneOk P U/\Vec P.orders X
def IsRep (P:Pr) (U:List (List Int)) (X Y:List Int):Prop:=Rep P (gU P U) (gt (tabTo (cseq P (gU P U)) P.orders.length (cseq P (gU P U)).length)) X Y
theorem Grp.rep_of_to {P:Pr}(G:Grp P) {U:List (List Int)}(hU:SubB P U) {X Y:List Int}(h:RepTo P (cseq P (gU P U)) X (cseq P (gU P U)).length Y):IsRep P U X Y:=by
 have S:=G.subB hU;have b:=G.seq_facts S;refine⟨h.vec,h.cos _ S b.2.1,λe i a => ?_⟩;obtain⟨k,m2,l⟩:=(G.ind_tab S).mem e i a;obtain⟨j,hj,m⟩:=b.2.2 _ k e i m2 (by rw[l];decide);rw[<-m];exact h.zer j hj
theorem Grp.isRep_one {P:Pr}(G:Grp P) {U:List (List Int)}(hU:SubB P U) {X Y a:List Int}(b:Vec P.orders X) (h:IsRep P U X Y) (e:IsRep P U X a):Y=a:=
 G.rep_one (G.ind_tab (G.subB hU)) b h e
open Classical in
noncomputable def crV (P:Pr) (U:List (List Int)) (X:List Int):List Int:=if h:crOk P U X/\∃Y,IsRep P U X Y then Classical.choose h.2 else []
theorem cr_ok {P:Pr}{U:List (List Int)}{X Y:List Int}(h:crOk P U X) (a:IsRep P U X Y):crV P U X=Y:=by
 have b:crOk P U X/\∃Y,IsRep P U X Y:=⟨h,Y,a⟩;unfold crV;rw[dif_pos b];exact(grp_of_r h.1.1).isRep_one h.1.2 h.2 (Classical.choose_spec b.2) a
theorem cr_is {P:Pr}{U:List (List Int)}{X:List Int}(h:crOk P U X):IsRep P U X (crV P U X):=by
 have G:=grp_of_r h.1.1;obtain⟨Y,a⟩:=G.rep_ex (G.ind_tab (G.subB h.1.2)) h.2;rw[cr_ok h a];exact a
def nmR (P:Pr):List Nat->List Int->Nat
 | [],_=>0
 | i :: r,y=>nmR P r y*ordN' P i+(gt y i).toNat
theorem nmR_set (P:Pr) (i:Nat) (x:Int) (y:List Int):∀r:List Nat,¬i∈r->nmR P r (y.set i x)=nmR P r y
 | [],_=>rfl
 | j :: r,h=>by
  have a:¬i=j:=λe=>h (by rw[e];exact List.mem_cons_self ..);unfold nmR;rw[nmR_set P i x y r (λe=>h (List.mem_cons_of_mem _ e)),gt_set_ne _ _ _ _ a]
section
variable {P:Pr}(G:Grp P)
include G
theorem nmR_elR:∀(r:List Nat),r.Nodup->(∀i∈r,i<P.orders.length)->∀t,t<szR P r->nmR P r (elR P r t)=t
 | [],_,_,t,ht=>by unfold szR at ht;unfold nmR;omega
 | i :: r,hn,hr,t,ht=>by
  rw[List.nodup_cons] at hn;have a:∀j∈r,j<P.orders.length:=λj b=>hr j (List.mem_cons_of_mem _ b);have hi:=hr i (List.mem_cons_self ..);obtain⟨a1,_⟩:=elR_ok G r hn.2 a (t/ordN' P i);unfold szR at ht;have e:=nmR_elR r hn.2 a (t/ordN' P i) (Nat.div_lt_of_lt_mul (by rw[Nat.mul_comm];exact ht));unfold nmR elR;rw[nmR_set P i _ _ r hn.1,e,gt_set_eq _ _ _ (by rw[a1];exact hi),Int.toNat_natCast,Nat.mul_comm];exact Nat.div_add_mod _ _
omit G in
theorem frR_nodup (U:List (List Int)):(frI P U).reverse.Nodup:=by
 rw[List.nodup_iff_pairwise_ne,List.pairwise_reverse];exact(List.nodup_iff_pairwise_ne.1 (List.nodup_range.filter _)).imp (λh=>h.symm)
omit G in
theorem frR_lt (U:List (List Int)):∀i∈(frI P U).reverse,i<P.orders.length:=λ_ hi=>(frI_mem.1 (List.mem_reverse.1 hi)).1
theorem Grp.tr_num {U:List (List Int)}{t:Nat}(a:t<szR P (frI P U).reverse):nmR P (frI P U).reverse (elR P (frI P U).reverse t)=t:=
 nmR_elR G _ (frR_nodup U) (frR_lt U) t a
theorem Grp.zr_el {U:List (List Int)}(hU:SubB P U) {y:List Int}(hy:Zr P U y):∃t,t<szR P (frI P U).reverse/\y=elR P (frI P U).reverse t:=by
 have S:=G.subB hU;obtain⟨x,hx,b⟩:=(G.trT_rep hU).all (mkE G y);obtain⟨z,hz,rfl⟩:=List.mem_map.1 hx;rw[trT_els (P:=P) U] at hz;obtain⟨t,ht,rfl⟩:=List.mem_map.1 hz;refine⟨t,List.mem_range.1 ht,?_⟩;have e:=elR_zr G (U:=U) t;have b:gP P U (rMul P (rInv P (mkE G (elR P (frI P U).reverse t)).1) (mkE G y).1):=b;rw[mkE_val G e.1,mkE_val G hy.1] at b;have a:cseq P (gP P U)=U:=hU.2.symm;exact(G.zr_one S (x:=elR P (frI P U).reverse t) (y:=y) (by rw[a];exact e) (by rw[a];exact hy) b).symm
theorem Grp.tr_lt {U:List (List Int)}(hU:SubB P U) {y:List Int}(hy:Zr P U y):nmR P (frI P U).reverse y<szR P (frI P U).reverse/\elR P (frI P U).reverse (nmR P (frI P U).reverse y)=y:=by
 obtain⟨t,a,rfl⟩:=G.zr_el hU hy;rw[G.tr_num a];exact⟨a,rfl⟩
theorem Grp.isRep_zr {U:List (List Int)}(hU:SubB P U) {X Y:List Int}(h:IsRep P U X Y):Zr P U Y:=by
 have S:=G.subB hU;obtain⟨h1,_,_⟩:=G.seq_facts S;have e:cseq P (gU P U)=U:=hU.2.symm;rw[e] at h1;refine⟨h.1,λj a => ?_⟩;have b:dep (gt U j)<P.orders.length:=(h1.1 _ (gtMem a)).2.1;refine h.2.2 _ b ?_;show gt (tabTo (cseq P (gU P U)) P.orders.length (cseq P (gU P U)).length) (dep (gt U j))≠[]
 rw[e];rcases tabTo_at P U U.length (Nat.le_refl _) _ b with⟨_,l⟩|⟨k,hk,hkd,m⟩
 ·exact absurd rfl (l j a)
 ·rw [m]
  intro p;have i:=(h1.1 _ (gtMem hk)).1.1;rw[p] at i;simp at i
  omega
noncomputable def cnV (P:Pr) (U:List (List Int)) (X:List Int):Nat:=nmR P (frI P U).reverse (crV P U X)
theorem Grp.cn_spec (hr:rconsB P=true) {U:List (List Int)}(hU:SubB P U) {X:List Int}(a:Vec P.orders X):cnV P U X<szR P (frI P U).reverse/\elR P (frI P U).reverse (cnV P U X)=crV P U X/\gU P U (rMul P (rInv P X) (elR P (frI P U).reverse (cnV P U X))):=by
 have hk:crOk P U X:=⟨⟨hr,hU⟩,a⟩;have hi:=cr_is hk;have h:=G.tr_lt hU (G.isRep_zr hU hi);refine⟨h.1,h.2,?_⟩;show gU P U (rMul P (rInv P X) (elR P (frI P U).reverse (nmR P (frI P U).reverse (crV P U X))))
 rw[h.2];exact hi.2.1
theorem Grp.cn_eq (hr:rconsB P=true) {U:List (List Int)}(hU:SubB P U) {X Y:List Int}(j:Vec P.orders X) (k:Vec P.orders Y):cnV P U X=cnV P U Y↔gU P U (rMul P (rInv P X) Y):=by
 have S:=G.subB hU;obtain⟨x1,x2,x3⟩:=G.cn_spec hr hU j;obtain⟨y,y2,q⟩:=G.cn_spec hr hU k;have z:=G.invV j;have A:=G.invV k;have l:=elR_zr G (U:=U) (cnV P U X);have r:=elR_zr G (U:=U) (cnV P U Y);-- x^-1 y = (x^-1 r) (r^-1 r') (y^-1 r')^-1
 have key:∀ {a b c:List Int},Vec P.orders a->Vec P.orders b->Vec P.orders c->gU P U (rMul P (rInv P a) b)->gU P U (rMul P (rInv P b) c)->gU P U (rMul P (rInv P a) c):=λ{a b c} ha i u h1 w=>by
  have:=S.mul _ _ h1 w
  have e:rMul P (rMul P (rInv P a) b) (rMul P (rInv P b) c)=rMul P (rInv P a) c:=by
   rw[G.ass (G.invV ha) i (G.mulV (G.invV i) u),<-G.ass i (G.invV i) u,G.mul_inv i,G.grp.el _ u]
  rwa [e] at this
 have m:∀ {a b:List Int},Vec P.orders a->Vec P.orders b->gU P U (rMul P (rInv P a) b)->gU P U (rMul P (rInv P b) a):=λ{a b} ha i h=>by
  have:=S.inv _ h;rwa [G.inv_mulR (G.invV ha) i,G.inv_inv ha] at this
 constructor
 ·intro e
  rw[<-e] at q;exact key j l.1 k x3 (m k l.1 q)
 ·intro h
  have w:gU P U (rMul P (rInv P (elR P (frI P U).reverse (cnV P U X))) (elR P (frI P U).reverse (cnV P U Y))):=key l.1 j r.1 (m j l.1 x3) (key j k r.1 h q);have p:cseq P (gP P U)=U:=hU.2.symm;have B:=G.zr_one S (by rw[p];exact l) (by rw[p];exact r) w;have C:=congrArg (nmR P (frI P U).reverse) B;rwa [G.tr_num x1,G.tr_num y] at C
end
def ixN (P:Pr) (U:List (List Int)):Nat:=szR P (frI P U).reverse
section
variable {P:Pr}(G:Grp P)
include G
theorem Grp.ix_mul {U:List (List Int)}(hU:SubB P U):((ixN P U:Nat):Int)*prodU P U U.length=ordP P:=by
 rw[Int.mul_comm];exact(Go.Proofs.YtldheeicjnncoaaGreat.idx_mul G hU).symm
end
noncomputable def prjV (P:Pr) (U:List (List Int)) (X:List Int):List Int:=(frI P U).map (λi=>gt (crV P U X) i)
noncomputable def quoP (P:Pr) (U:List (List Int)):Pr:=
 { orders:=(frI P U).map (λi=>gt P.orders i),powers:=(frI P U).map (λi=>prjV P U (pw P (unitV P.orders.length i) (gt P.orders i).toNat)),conj:=(List.range (frI P U).length).map (λk=>((frI P U).drop (k+1)).map (λj=>prjV P U (rConj P (unitV P.orders.length j) (unitV P.orders.length (gt (frI P U) k))))) }
theorem fr_mem {P:Pr}{U:List (List Int)}{i:Nat} : i∈frI P U↔i<P.orders.length/\i ∉ U.map dep:=by
 unfold frI;rw[List.mem_filter,List.mem_range];simp
theorem fr_at {P:Pr}{U:List (List Int)}{k:Nat}(hk:k<(frI P U).length):gt (frI P U) k<P.orders.length/\gt (frI P U) k ∉ U.map dep:=by
 refine fr_mem.1 ?_;simp only[gt,List.getD_eq_getElem?_getD,List.getElem?_eq_getElem hk,Option.getD_some];exact List.getElem_mem hk
theorem fr_mono {P:Pr}{U:List (List Int)}{k l:Nat}(a:k<l) (b:l<(frI P U).length):gt (frI P U) k<gt (frI P U) l:=by
 have h:(frI P U).Pairwise (· < ·):=List.pairwise_lt_range.filter _;have:=List.pairwise_iff_getElem.1 h k l (by omega) b a;simp only[gt,List.getD_eq_getElem?_getD,List.getElem?_eq_getElem b,List.getElem?_eq_getElem (show k<(frI P U).length by omega),Option.getD_some];exact this
theorem gt_prj {P:Pr}{U:List (List Int)}{X:List Int}{k:Nat}(hk:k<(frI P U).length):gt (prjV P U X) k=gt (crV P U X) (gt (frI P U) k):=by
 unfold prjV;rw[gt_map _ _ _ hk]
theorem gt_quoO {P:Pr}{U:List (List Int)}{k:Nat}(hk:k<(frI P U).length):gt (quoP P U).orders k=gt P.orders (gt (frI P U) k):=by
 show gt ((frI P U).map _) k=_
 rw[gt_map _ _ _ hk]
theorem quo_n (P:Pr) (U:List (List Int)):(quoP P U).orders.length=(frI P U).length:=by
 show((frI P U).map _).length=_
 rw[List.length_map]
section
variable {P:Pr}(G:Grp P)
include G
omit G in
theorem prj_vec {U:List (List Int)}(hr:rconsB P=true) (hU:SubB P U) {X:List Int}(a:Vec P.orders X):Vec (quoP P U).orders (prjV P U X):=by
 have hi:=cr_is (P:=P) (U:=U) (X:=X) ⟨⟨hr,hU⟩,a⟩;refine⟨by rw[quo_n];unfold prjV;rw[List.length_map],λk hk => ?_⟩;rw[quo_n] at hk;rw[gt_prj hk,gt_quoO hk];exact hi.1.2 _ (fr_at hk).1
theorem cr_zero {U:List (List Int)}(hr:rconsB P=true) (hU:SubB P U) {X:List Int}(a:Vec P.orders X) {d:Nat}(m:ZeroTo d X):ZeroTo d (crV P U X):=by
 have hi:=cr_is (P:=P) (U:=U) (X:=X) ⟨⟨hr,hU⟩,a⟩;obtain⟨b,hZ,hp⟩:=hi;have I:=G.ind_tab (G.subB hU);generalize crV P U X=Y at *;have p:=G.invV a;have q:rMul P X (rMul P (rInv P X) Y)=Y:=by rw[<-G.ass a p b,G.mul_inv a,G.grp.el _ b]
 by_cases i:rMul P (rInv P X) Y=zeros P.orders.length
 ·rw [i,G.grp.er _ a] at q
  rw[<-q];exact m
 ·have j:=I.sub.vec _ hZ
  obtain⟨e,l,z,h0⟩:=depth_ex j i;have r:=I.piv _ hZ e l z h0;have u:=G.right (Nat.le_of_lt l) a z;rw[q] at u;have w:=hp e l r
  have B:d<e:=by
   rcases Nat.lt_or_ge d e with h|h
   ·exact h
   ·exfalso
    have y:=u.2 l;rw[w,m e h,Int.zero_add] at y;have A:=j.2 e l;rw[Int.emod_eq_of_lt A.1 A.2] at y;exact h0 y.symm
  intro k hk;rw[u.1 k (by omega)];exact m k hk
theorem pw_unit {i:Nat}(hi:i<P.orders.length):pw P (unitV P.orders.length i) (gt P.orders i).toNat=gt P.powers i:=by
 have hP:=G.v;have j:=(el_holds G).pw i (Nat.zero_le _) hi;have q:P.orders.length=(i+1)+(P.orders.length-(i+1)):=by omega
 have k:=npr_skip (m:=λa b:El G=>a*b) (h:=gE G) (e:=(1:El G)) (x:=gt P.powers i) (i:=i+1) (f:=P.orders.length-(i+1)) (λl w=>(hP.pv i hi).2 l (by omega));rw[<-q] at k;rw[<-k] at j;have r:iter (gt P.orders i).toNat (λy=>y*gE G i) 1=npr (· * ·) (gE G) (gt P.powers i) 0 1 P.orders.length:=j;have p:=congrArg Subtype.val r;rw[el_nf G (hP.pv i hi).1] at p;rw[<-p];induction (gt P.orders i).toNat with
 | zero=>rfl
 | succ m u=>rw[pw_succ,u];rfl
theorem cj_unit {i k:Nat}(hi:i+k+1<P.orders.length):rConj P (unitV P.orders.length (i+k+1)) (unitV P.orders.length i)=gt (gt P.conj i) k:=by
 have hP:=G.v;have p:=(el_holds G).cj i (i+k+1) (Nat.zero_le _) (by omega) (by omega);have u:P.orders.length=(i+1)+(P.orders.length-(i+1)):=by omega
 have j:=(hP.cv i (by omega)).2 k (by omega);have q:=npr_skip (m:=λa b:El G=>a*b) (h:=gE G) (e:=(1:El G)) (x:=gt (gt P.conj i) k) (i:=i+1) (f:=P.orders.length-(i+1)) (λl z=>j.2 l (by omega));rw[<-u] at q;rw[show i+k+1-i-1=k by omega,<-q] at p;have w:gE G (i+k+1)*gE G i=gE G i*npr (· * ·) (gE G) (gt (gt P.conj i) k) 0 1 P.orders.length:=p;have y:(gE G i)⁻¹ * (gE G (i+k+1)*gE G i)=npr (· * ·) (gE G) (gt (gt P.conj i) k) 0 1 P.orders.length:=by rw[w,El.ilc]
 have r:=congrArg Subtype.val y;rw[el_nf G j.1] at r;rw[<-r];rfl
omit G in
theorem fr_sz {f:Nat->Int}(j:∀i,f i=((ordN' P i:Nat):Int)):∀r:List Nat,prodTo (r.reverse.map f) r.length=((szR P r:Nat):Int)
 | []=>rfl
 | a :: r=>by
  have l:=fr_sz j r;have e:((a :: r).reverse.map f)=r.reverse.map f++[f a]:=by simp
  have q:(r.reverse.map f).length=r.length:=by simp
  rw[e];show prodTo (r.reverse.map f++[f a]) (r.length+1)=((szR P r*ordN' P a:Nat):Int)
  rw[prodTo]
  have h1:gt (r.reverse.map f++[f a]) r.length=f a:=by
   simp[gt,List.getD_eq_getElem?_getD]
  have m:∀k,k<=r.length->prodTo (r.reverse.map f++[f a]) k=prodTo (r.reverse.map f) k:=by
   intro k;induction k with
   | zero=>intro _;rfl
   | succ k b=>
    intro hk
    have p:gt (r.reverse.map f++[f a]) k=gt (r.reverse.map f) k:=by
     simp only[gt,List.getD_eq_getElem?_getD];rw[List.getElem?_append_left (show k<(r.reverse.map f).length by omega)]
    rw[prodTo,prodTo,b (by omega),p]
  rw[h1,m _ (Nat.le_refl _),l,j,Int.natCast_mul]
theorem quo_valid {U:List (List Int)}(hr:rconsB P=true) (hU:SubB P U):Valid (quoP P U):=by
 have hP:=G.v
 have m:∀ {X:List Int},Vec P.orders X->∀k,k<(frI P U).length->ZeroTo (gt (frI P U) k) X->ZeroTo k (prjV P U X):=λ{X} q k hk m l r=>by
  rw[gt_prj (by omega)];refine cr_zero G hr hU q m _ ?_;rcases Nat.lt_or_ge l k with h|h
  ·exact Nat.le_of_lt (fr_mono h hk)
  ·have:l=k:=by omega
   rw[this];exact Nat.le_refl _
 refine⟨?_,?_,?_,?_,?_,?_,?_⟩
 ·have u:∀i,gt P.orders i=((ordN' P i:Nat):Int):=λi=>by
   unfold ordN';by_cases hi:i<P.orders.length
   ·have:=hP.ord7 i hi;omega
   ·rw[gt_big (by omega)];rfl
  have h1:=fr_sz (P:=P) (f:=λi=>gt P.orders i) u (frI P U).reverse;rw[List.reverse_reverse,List.length_reverse] at h1;have p:=G.ix_mul hU
  have w:1<=prodU P U U.length:=by
   have h:=(G.seq_facts (G.subB hU)).1;rw[<-hU.2] at h;exact(prodU_729 hP h _ (Nat.le_refl _)).1
  have A:ordP P<=729:=hP.le729;have B:((ixN P U:Nat):Int)*1<=((ixN P U:Nat):Int)*prodU P U U.length:=Int.mul_le_mul_of_nonneg_left w (by omega);rw[quo_n];show prodTo ((frI P U).map (λi=>gt P.orders i)) _<=729
  rw[h1];show((ixN P U:Nat):Int)<=729
  omega
 ·rw [quo_n]
  have:(frI P U).length<=P.orders.length:=by
   unfold frI;have:=List.length_filter_le (λi => !(U.map dep).contains i) (List.range P.orders.length);rw[List.length_range] at this;exact this
  have:=hP.n6;omega
 ·rw[quo_n];show((frI P U).map _).length=_;rw[List.length_map]
 ·rw[quo_n];show((List.range _).map _).length=_;rw[List.length_map,List.length_range]
 ·intro k hk
  rw[quo_n] at hk;rw[gt_quoO hk];exact hP.ord _ (fr_at hk).1
 ·intro k hk
  rw[quo_n] at hk
  have e:gt (quoP P U).powers k=prjV P U (gt P.powers (gt (frI P U) k)):=by
   show gt ((frI P U).map _) k=_
   rw[gt_map _ _ _ hk,pw_unit G (fr_at hk).1]
  rw[e];have a:=hP.pv _ (fr_at hk).1;exact⟨prj_vec hr hU a.1,m a.1 k hk a.2⟩
 ·intro k hk
  rw[quo_n] at hk
  have e:gt (quoP P U).conj k=((frI P U).drop (k+1)).map (λj=>prjV P U (rConj P (unitV P.orders.length j) (unitV P.orders.length (gt (frI P U) k)))):=by
   show gt ((List.range _).map _) k=_
   rw[gt_map _ _ _ (by rw[List.length_range];exact hk),gt_range hk]
  rw[e,quo_n];refine⟨by rw[List.length_map,List.length_drop];omega,λl r => ?_⟩;have b:k+1+l<(frI P U).length:=by omega
  have h1:gt (((frI P U).drop (k+1)).map (λj=>prjV P U (rConj P (unitV P.orders.length j) (unitV P.orders.length (gt (frI P U) k))))) l=prjV P U (rConj P (unitV P.orders.length (gt (frI P U) (k+1+l))) (unitV P.orders.length (gt (frI P U) k))):=by
   rw[gt_map _ _ _ (by rw[List.length_drop];omega)];have p:gt ((frI P U).drop (k+1)) l=gt (frI P U) (k+1+l):=by simp[gt,List.getElem?_drop]
   rw[p]
  rw[h1];obtain⟨i,hi⟩:∃i,i=gt (frI P U) k:=⟨_,rfl⟩;have C:=(fr_at b).1;have y:=fr_mono (P:=P) (U:=U) (show k<k+1+l by omega) b;obtain⟨d,z⟩:∃d,gt (frI P U) (k+1+l)=gt (frI P U) k+d+1:=⟨gt (frI P U) (k+1+l)-gt (frI P U) k-1,by omega⟩;rw[z,cj_unit G (by omega)];have a:=(hP.cv _ (fr_at hk).1).2 d (by omega);exact⟨prj_vec hr hU a.1,m a.1 k hk a.2⟩
end
section
variable {P:Pr}(G:Grp P) {U:List (List Int)}(hU:SubB P U)
include G hU
omit hU in
theorem iter_ep (x:El G):∀n,iter n (λy:El G=>y*x) 1=ep x n
 | 0=>rfl
 | n+1=>by show iter n _ 1*x=ep x n*x;rw[iter_ep x n]
end
section
variable {P Q:Pr}(GQ:Grp Q) {Is:List (List Int)}(hI:∀x∈Is,Vec Q.orders x)
def hE (j:Nat):El GQ:=if h:j<Is.length then ⟨gt Is j,hI _ (gtMem h)⟩ else 1
theorem hE_val {j:Nat}(h:j<Is.length):(hE GQ hI j).1=gt Is j:=by
 have e:hE GQ hI j=⟨gt Is j,hI _ (gtMem h)⟩:=dif_pos h;rw[e]
theorem prodR_npr (X:List Int) (a:∀i,i<Is.length->0<=gt X i):∀i,i<=Is.length->prodR Q Is X i=(npr (· * ·) (hE GQ hI) X 0 1 i).1
 | 0,_=>rfl
 | i + 1,h=>by
  have b:=prodR_npr X a i (by omega)
  have e:npr (· * ·) (hE GQ hI) X 0 1 (i+1)=npr (· * ·) (hE GQ hI) X 0 1 i*ep (hE GQ hI i) (gt X i).toNat:=by
   have h1:npr (· * ·) (hE GQ hI) X 0 1 (i+1)=iter (gt X (0+i)).toNat (λy=>y*hE GQ hI (0+i)) (npr (· * ·) (hE GQ hI) X 0 1 i):=rfl;have j:=(el_mon GQ).pow_out (h:=hE GQ hI i) (y:=npr (· * ·) (hE GQ hI) X 0 1 i) trivial trivial (gt X i).toNat;rw[h1,Nat.zero_add,<-iter_ep GQ];exact j
  rw[prodR_step (a i (by omega)),e,b];show _=rMul Q _ (ep _ _).1
  rw[ep_val,hE_val GQ hI (by omega)]
theorem ev_hE {w:List Int}(a:WordN Is.length w):∀k,k<=w.length->evalTo Q Is w k=(evW (· * ·) 1 (hE GQ hI) (λj=>(hE GQ hI j)⁻¹) (w.take k)).1
 | 0,_=>by rw[List.take_zero];rfl
 | k + 1,hk=>by
  have b:=ev_hE a k (by omega);have m:=a _ (gtMem (l:=w) (i:=k) (by omega));have e:w.take (k+1)=w.take k++[gt w k]:=take_succ_gt _ k (by omega);rw[evalTo,b,e,evW_app (el_mon GQ),evW_one (el_mon GQ)];unfold letW;split
  ·show rMul Q _ (rInv Q _)=rMul Q _ (rInv Q (hE GQ hI _).1)
   rw[hE_val GQ hI (by omega)]
  ·show rMul Q _ _=rMul Q _ (hE GQ hI _).1
   rw[hE_val GQ hI (by omega)]
end
def homV (Q:Pr) (Is:List (List Int)) (X:List Int):List Int:=prodR Q Is X Is.length
theorem homF_of {P Q:Pr}{Is:List (List Int)}(h:HomB P Q Is):HomF P Q (homV Q Is):=by
 obtain⟨hr,hq,l,hI,hw⟩:=h;have G:=grp_of_r hr;have GQ:=grp_of_r hq
 have hH:Holds P (λ_:El GQ=>True) (· * ·) 1 (hE GQ hI) 0:=holds_of (hi:=λj=>(hE GQ hI j)⁻¹) G.v (el_mon GQ) (λj _=>El.ir _) (λj _=>El.il _) (λw a=>by
  have e:=ev_hE GQ hI (w:=w) (by rw[l];exact relsP_word G.v w a) w.length (Nat.le_refl _);rw[List.take_length,hw w a] at e;exact Subtype.ext e.symm)
 have hn:∀X,Vec P.orders X->homV Q Is X=(npr (· * ·) (hE GQ hI) X 0 1 P.orders.length).1:=λX m=>by
  have:=prodR_npr GQ hI X (λi hi=>(m.2 i (by omega)).1) Is.length (Nat.le_refl _);rw[<-l];exact this
 refine⟨λx hx=>by rw[hn x hx];exact Subtype.property _,λx y hx hy => ?_⟩;have b:=G.mulV hx hy;have k:=vd_tv G.v (el_mon GQ) (Nat.zero_le _) hH x y hx hy (λk hk=>by omega);rw[Nat.sub_zero] at k;rw[hn _ b,hn x hx,hn y hy];have e:rMul P x y=tv P x y:=(G.tv_eq hx hy).symm;rw[e,k];rfl
theorem HomF.val {P Q:Pr}(G:Grp P) (GQ:Grp Q) {F:List Int->List Int}(H:HomF P Q F) {X:List Int}(j:Vec P.orders X):homV Q ((gensOf P.orders.length).map F) X=F X:=by
 have b:((gensOf P.orders.length).map F).length=P.orders.length:=by rw[List.length_map];exact gensOf_len _
 have l:∀k,k<=P.orders.length->prodR Q ((gensOf P.orders.length).map F) X k=F (npr (rMul P) (unitV P.orders.length) X 0 (zeros P.orders.length) k)/\Vec P.orders (npr (rMul P) (unitV P.orders.length) X 0 (zeros P.orders.length) k):=by
  intro k;induction k with
  | zero=>intro _;exact⟨(HomF.one G GQ H).symm,G.oneV⟩
  | succ k m=>
   intro hk;obtain⟨p,q⟩:=m (by omega);have a:=unitV_vec G.v k
   have e:npr (rMul P) (unitV P.orders.length) X 0 (zeros P.orders.length) (k+1)=iter (gt X k).toNat (λy=>rMul P y (unitV P.orders.length k)) (npr (rMul P) (unitV P.orders.length) X 0 (zeros P.orders.length) k):=by
    show iter (gt X (0+k)).toNat (λy=>rMul P y (unitV P.orders.length (0+k))) _=_
    rw[Nat.zero_add];rfl
   have r:∀(n:Nat) (y:List Int),Vec P.orders y->Vec P.orders (iter n (λy=>rMul P y (unitV P.orders.length k)) y)/\F (iter n (λy=>rMul P y (unitV P.orders.length k)) y)=rMul Q (F y) (pw Q (F (unitV P.orders.length k)) n):=by
    intro n;induction n with
    | zero=>intro y hy;exact⟨hy,(GQ.grp.er _ (H.vec _ hy)).symm⟩
    | succ n i=>
     intro y hy;obtain⟨v1,f1⟩:=i y hy;refine⟨G.mulV v1 a,?_⟩;show F (rMul P (iter n _ y) (unitV P.orders.length k))=_
     rw[H.mul _ _ v1 a,f1,pw_succ,<-GQ.ass (H.vec _ hy) (GQ.pw_vec (H.vec _ a) n) (H.vec _ a)]
   obtain⟨v1,f1⟩:=r (gt X k).toNat _ q;rw[e];refine⟨?_,v1⟩;rw[prodR_step (j.2 k (by omega)).1,p,f1,gt_imgs (by omega)]
 have h:=(l _ (Nat.le_refl _)).1;rw[G.nf j] at h;unfold homV;rw[b];exact h
section
variable {P Q:Pr}{Is:List (List Int)}(h:HomB P Q Is)
include h
end
noncomputable def liftV (P:Pr) (U:List (List Int)) (Y:List Int):List Int:=(List.range P.orders.length).map (λi=>gt Y ((frI P U).findIdx (λj=>j == i)))
theorem fr_idx {P:Pr}{U:List (List Int)}{k:Nat}(hk:k<(frI P U).length):(frI P U).findIdx (λj=>j == gt (frI P U) k)=k:=by
 rw[List.findIdx_eq hk];refine⟨by simp[gt,List.getD_eq_getElem?_getD,List.getElem?_eq_getElem hk],λj a => ?_⟩;have h:=fr_mono (P:=P) (U:=U) a hk;have e:(frI P U)[j]'(by omega)=gt (frI P U) j:=by simp[gt,List.getD_eq_getElem?_getD,List.getElem?_eq_getElem (show j<(frI P U).length by omega)]
 rw[e];simp only[beq_eq_false_iff_ne];omega
theorem gt_lift {P:Pr}{U:List (List Int)}{Y:List Int}{k:Nat}(hk:k<(frI P U).length):gt (liftV P U Y) (gt (frI P U) k)=gt Y k:=by
 unfold liftV;have h:=(fr_at hk).1;rw[gt_map _ _ _ (by rw[List.length_range];exact h),gt_range h,fr_idx hk]
theorem gt_lift0 {P:Pr}{U:List (List Int)}{Y:List Int}(a:Y.length=(frI P U).length) {i:Nat}(hi:¬i∈frI P U):gt (liftV P U Y) i=0:=by
 by_cases h:i<P.orders.length
 ·unfold liftV
  rw[gt_map _ _ _ (by rw[List.length_range];exact h),gt_range h]
  have e:(frI P U).findIdx (λj=>j == i)=(frI P U).length:=by
   rw[List.findIdx_eq_length];intro x hx;simp only[beq_eq_false_iff_ne];intro e;exact hi (e▸hx)
  rw[e];exact gt_big (by omega)
 ·exact gt_big (by unfold liftV;rw[List.length_map,List.length_range];omega)
theorem fr_ex {P:Pr}{U:List (List Int)}{i:Nat}(h:i∈frI P U):∃k,k<(frI P U).length/\gt (frI P U) k=i:=by
 obtain⟨k,hk,e⟩:=mem_gt h;exact⟨k,hk,e⟩
theorem lift_zr {P:Pr}{U:List (List Int)}(hP:Valid P) {Y:List Int}(a:Vec (quoP P U).orders Y):Zr P U (liftV P U Y):=by
 have b:Y.length=(frI P U).length:=by rw[a.1,quo_n]
 refine⟨⟨by unfold liftV;rw[List.length_map,List.length_range],λi hi => ?_⟩,λj e => ?_⟩
 ·by_cases h:i∈frI P U
  ·obtain ⟨k,hk,rfl⟩:=fr_ex h
   rw[gt_lift hk,<-gt_quoO hk];exact a.2 k (by rw[quo_n];exact hk)
  ·rw [gt_lift0 b h]
   have:=hP.ord7 i hi;omega
 ·exact gt_lift0 b (λh=>(fr_mem.1 h).2 (List.mem_map.2 ⟨gt U j,gtMem e,rfl⟩))
theorem acc_fr {α:Type}(g:α->Nat->α) (p:Nat->Bool) (X Y:List Int) (out:α) (a:Nat->Nat):∀n,(∀k,k<((List.range n).filter p).length->a k=gt ((List.range n).filter p) k/\gt Y k=gt X (a k))->(∀i,i<n->p i=false->gt X i=0) ->
  acc g X 0 out n=acc (λy k=>g y (a k)) Y 0 out ((List.range n).filter p).length
 | 0,_,_=>rfl
 | n + 1,h,hz=>by
  have e:(List.range (n+1)).filter p=(List.range n).filter p++(if p n then [n] else []):=by
   rw[List.range_succ,List.filter_append];congr 1
   by_cases b:p n=true<;>simp[b]
  by_cases b:p n=true
  ·rw [if_pos b] at e
   rw[e] at h ⊢;rw[List.length_append] at h ⊢
   have l:=acc_fr g p X Y out a n (λk hk=>by
    have:=h k (by rw[List.length_singleton];omega);rw[gt_append_left _ _ _ hk] at this;exact this) (λi hi=>hz i (by omega))
   show iter (gt X (0+n)).toNat _ (acc g X 0 out n)=iter (gt Y (0+_)).toNat _ (acc _ Y 0 out _)
   rw[l,Nat.zero_add,Nat.zero_add];have j:=h ((List.range n).filter p).length (by rw[List.length_singleton];omega);have m:gt ((List.range n).filter p++[n]) ((List.range n).filter p).length=n:=by simp[gt]
   rw[m] at j;rw[j.2,j.1];show _=iter _ (λy=>g y (a ((List.range n).filter p).length)) _
   rw[j.1]
  ·rw [if_neg b,List.append_nil] at e
   rw[e] at h ⊢;have l:=acc_fr g p X Y out a n h (λi hi=>hz i (by omega));show iter (gt X (0+n)).toNat _ (acc g X 0 out n)=_
   rw[l,Nat.zero_add,hz n (by omega) (by simpa using b)];rfl
theorem iter_map {α e:Type}(f:α->e) (g:α->α) (b:e->e) (h:∀a,f (g a)=b (f a)) (x:α):∀n,f (iter n g x)=iter n b (f x)
 | 0=>rfl
 | n+1=>by show f (g (iter n g x))=b (iter n b (f x));rw[h,iter_map f g b h x n]
theorem acc_map {α e:Type}(f:α->e) (g:α->Nat->α) (b:e->Nat->e) (h:∀a k,f (g a k)=b (f a) k) (X:List Int) (i:Nat) (out:α):∀n,f (acc g X i out n)=acc b X i (f out) n
 | 0=>rfl
 | n+1=>by
  show f (iter _ _ (acc g X i out n))=iter _ _ (acc b X i (f out) n)
  rw[iter_map f _ (λy=>b y (i+n)) (λa=>h a (i+n)),acc_map f g b h X i out n]
section
variable {P:Pr}(G:Grp P)
def quS {N:El G->Prop}(S:SG N):Setoid (El G):=⟨eqv N,eqv_refl S,eqv_symm S,eqv_trans S⟩
theorem eqv_mul {N:El G->Prop}(S:SG N) (b:∀n g,N n->N (g⁻¹ * (n*g))) {x x' y a:El G}(h:eqv N x x') (k:eqv N y a):eqv N (x*y) (x'*a):=by
 have e:(x*y)⁻¹ * (x'*a)=(y⁻¹ * ((x⁻¹ * x')*y))*(y⁻¹ * a):=by
  rw[El.mi];simp only[El.ass,El.irc]
 unfold eqv;rw[e];exact S.mul _ _ (b _ _ h) k
def qm {N:El G->Prop}(S:SG N) (e:∀n g,N n->N (g⁻¹ * (n*g))) (a b:Quotient (quS G S)):Quotient (quS G S):=
 Quotient.lift₂ (λx y=>Quotient.mk (quS G S) (x*y)) (λ_ _ _ _ h k=>Quotient.sound (s:=quS G S) (eqv_mul G S e h k)) a b
theorem qm_mon {N:El G->Prop}(S:SG N) (e:∀n g,N n->N (g⁻¹ * (n*g))):MonOn (λ_:Quotient (quS G S)=>True) (qm G S e) (Quotient.mk (quS G S) 1):=
 ⟨λ_ _ _ _=>trivial,trivial,
  λx y z _ _ _=>Quotient.inductionOn x (λa=>Quotient.inductionOn y (λb=>Quotient.inductionOn z (λc=>congrArg (Quotient.mk (quS G S)) (El.ass a b c)))),
  λx _=>Quotient.inductionOn x (λa=>congrArg (Quotient.mk (quS G S)) (El.ol a)),
  λx _=>Quotient.inductionOn x (λa=>congrArg (Quotient.mk (quS G S)) (El.or a))⟩
def nU (U:List (List Int)) (x:El G):Prop:=gU P U x.1
theorem nU_sg {U:List (List Int)}(hU:SubB P U):SG (nU G U):=by
 have S:=G.subB hU;exact⟨S.one,λ_ _ h k=>S.mul _ _ h k,λ_ h=>S.inv _ h⟩
theorem nU_nrm {U:List (List Int)}(hn:NormP P (gU P U)):∀n g:El G,nU G U n->nU G U (g⁻¹ * (n*g)):=λn g h=>hn n.1 h g.1 g.2
include G in
theorem cr_lift (hr:rconsB P=true) {U:List (List Int)}(hU:SubB P U) {X:List Int}(b:Zr P U X):crV P U X=X:=by
 have S:=G.subB hU;have hi:=cr_is (P:=P) (U:=U) (X:=X) ⟨⟨hr,hU⟩,b.1⟩;have z:=G.isRep_zr hU hi;have a:cseq P (gP P U)=U:=hU.2.symm;exact(G.zr_one S (by rw[a];exact b) (by rw[a];exact z) hi.2.1).symm
include G in
theorem prj_lift (hr:rconsB P=true) {U:List (List Int)}(hU:SubB P U) {Y:List Int}(a:Vec (quoP P U).orders Y):prjV P U (liftV P U Y)=Y:=by
 have z:=lift_zr G.v a;unfold prjV;rw[cr_lift G hr hU z];apply ext_gt
 ·rw[List.length_map,a.1,quo_n]
 ·intro k hk
  rw[List.length_map] at hk;rw[gt_map _ _ _ hk,gt_lift hk]
include G in
theorem lift_prj (hr:rconsB P=true) {U:List (List Int)}(hU:SubB P U) {X:List Int}(b:Vec P.orders X):liftV P U (prjV P U X)=crV P U X:=by
 have hi:=cr_is (P:=P) (U:=U) (X:=X) ⟨⟨hr,hU⟩,b⟩;have z:=G.isRep_zr hU hi;have e:(prjV P U X).length=(frI P U).length:=by unfold prjV;rw[List.length_map]
 apply ext_gt
 ·unfold liftV;rw[List.length_map,List.length_range,z.1.1]
 ·intro i hi
  have a:i<P.orders.length:=by unfold liftV at hi;rw[List.length_map,List.length_range] at hi;exact hi
  by_cases h:i∈frI P U
  ·obtain ⟨k,hk,rfl⟩:=fr_ex h
   rw[gt_lift hk,gt_prj hk]
  ·rw [gt_lift0 e h]
   have:i∈U.map dep:=by
    apply Classical.byContradiction;intro l;exact h (fr_mem.2 ⟨a,l⟩)
   obtain⟨u,hu,rfl⟩:=List.mem_map.1 this;obtain⟨j,m,rfl⟩:=mem_gt hu;exact(z.2 j m).symm
section
variable {U:List (List Int)}(hr:rconsB P=true) (hU:SubB P U) (hn:NormP P (gU P U))
include hr hU
def qg (k:Nat):Quotient (quS G (nU_sg G hU)):=Quotient.mk _ (gE G (gt (frI P U) k))
theorem q_prj {X:List Int}(b:Vec P.orders X):npr (qm G (nU_sg G hU) (nU_nrm G hn)) (qg G hU) (prjV P U X) 0 (Quotient.mk _ 1) (frI P U).length=Quotient.mk (quS G (nU_sg G hU)) ⟨X,b⟩:=by
 have hi:=cr_is (P:=P) (U:=U) (X:=X) ⟨⟨hr,hU⟩,b⟩;have z:=G.isRep_zr hU hi
 have h1:acc (λ(y:El G) j=>y*gE G j) (crV P U X) 0 1 P.orders.length=acc (λ(y:El G) k=>y*gE G (gt (frI P U) k)) (prjV P U X) 0 1 (frI P U).length:=
  acc_fr (λ(y:El G) j=>y*gE G j) (λi => !(U.map dep).contains i) (crV P U X) (prjV P U X) 1 (gt (frI P U)) P.orders.length (λk hk=>⟨rfl,gt_prj hk⟩) (λi hi l=>by
   have a:i∈U.map dep:=by simpa using l
   obtain⟨u,hu,rfl⟩:=List.mem_map.1 a;obtain⟨j,hj,rfl⟩:=mem_gt hu;exact z.2 j hj)
 have m:=acc_map (Quotient.mk (quS G (nU_sg G hU))) (λ(y:El G) k=>y*gE G (gt (frI P U) k)) (λy k=>qm G (nU_sg G hU) (nU_nrm G hn) y (qg G hU k)) (λ_ _=>rfl) (prjV P U X) 0 1 (frI P U).length;have e:npr (· * ·) (gE G) (crV P U X) 0 1 P.orders.length=(⟨crV P U X,z.1⟩:El G):=Subtype.ext (el_nf G z.1);unfold npr at e ⊢;rw[<-m,<-h1,e];exact Quotient.sound (s:=quS G (nU_sg G hU)) (eqv_symm (nU_sg G hU) hi.2.1)
theorem quo_holds:Holds (quoP P U) (λ_=>True) (qm G (nU_sg G hU) (nU_nrm G hn)) (Quotient.mk _ 1) (qg G hU) 0:=by
 have q:=quo_valid G hr hU;refine⟨λ_ _ _=>trivial,λk _ hk => ?_,λk l _ u r => ?_⟩
 ·rw [quo_n] at hk
  have hi:=(fr_at hk).1;have b:(quoP P U).orders.length=(k+1)+((quoP P U).orders.length-(k+1)):=by rw[quo_n];omega
  have a:=npr_skip (m:=qm G (nU_sg G hU) (nU_nrm G hn)) (h:=qg G hU) (e:=(Quotient.mk _ 1)) (x:=gt (quoP P U).powers k) (i:=k+1) (f:=(quoP P U).orders.length-(k+1)) (λl r=>(q.pv k (by rw[quo_n];exact hk)).2 l (by omega));rw[<-b] at a;rw[<-a]
  have e:gt (quoP P U).powers k=prjV P U (pw P (unitV P.orders.length (gt (frI P U) k)) (gt P.orders (gt (frI P U) k)).toNat):=by
   show gt ((frI P U).map _) k=_
   rw[gt_map _ _ _ hk]
  have p:Vec P.orders (pw P (unitV P.orders.length (gt (frI P U) k)) (gt P.orders (gt (frI P U) k)).toNat):=G.pw_vec (unitV_vec G.v _) _;rw[e,quo_n,q_prj G hr hU hn p,gt_quoO hk]
  have w:∀m:Nat,iter m (λy=>qm G (nU_sg G hU) (nU_nrm G hn) y (qg G hU k)) (Quotient.mk (quS G (nU_sg G hU)) 1)=Quotient.mk (quS G (nU_sg G hU)) (iter m (λy=>y*gE G (gt (frI P U) k)) 1):=λm=>
   (iter_map (Quotient.mk (quS G (nU_sg G hU))) (λy:El G=>y*gE G (gt (frI P U) k)) (λy=>qm G (nU_sg G hU) (nU_nrm G hn) y (qg G hU k)) (λ_=>rfl) 1 m).symm
  rw[w];congr 1
  apply Subtype.ext;show _=pw P (unitV P.orders.length (gt (frI P U) k)) _
  induction (gt P.orders (gt (frI P U) k)).toNat with
  | zero=>rfl
  | succ m z=>rw[pw_succ,<-z];rfl
 ·rw [quo_n] at r
  have hk:k<(frI P U).length:=by omega
  have A:=(q.cv k (by rw[quo_n];exact hk)).2 (l-k-1) (by rw[quo_n];omega);have b:(quoP P U).orders.length=(k+1)+((quoP P U).orders.length-(k+1)):=by rw[quo_n];omega
  have a:=npr_skip (m:=qm G (nU_sg G hU) (nU_nrm G hn)) (h:=qg G hU) (e:=(Quotient.mk _ 1)) (x:=gt (gt (quoP P U).conj k) (l-k-1)) (i:=k+1) (f:=(quoP P U).orders.length-(k+1)) (λj C=>A.2 j (by omega));rw[<-b] at a;rw[<-a]
  have e:gt (gt (quoP P U).conj k) (l-k-1)=prjV P U (rConj P (unitV P.orders.length (gt (frI P U) l)) (unitV P.orders.length (gt (frI P U) k))):=by
   show gt (gt ((List.range _).map _) k) _=_
   rw[gt_map _ _ _ (by rw[List.length_range];exact hk),gt_range hk,gt_map _ _ _ (by rw[List.length_drop];omega)];have B:gt ((frI P U).drop (k+1)) (l-k-1)=gt (frI P U) l:=by simp[gt,List.getElem?_drop,show k+1+(l-k-1)=l by omega]
   rw[B]
  have p:Vec P.orders (rConj P (unitV P.orders.length (gt (frI P U) l)) (unitV P.orders.length (gt (frI P U) k))):=((gE G (gt (frI P U) k))⁻¹ * (gE G (gt (frI P U) l)*gE G (gt (frI P U) k))).2;rw[e,quo_n,q_prj G hr hU hn p];show Quotient.mk (quS G (nU_sg G hU)) (gE G (gt (frI P U) l)*gE G (gt (frI P U) k))=Quotient.mk (quS G (nU_sg G hU)) (gE G (gt (frI P U) k)*((gE G (gt (frI P U) k))⁻¹ * (gE G (gt (frI P U) l)*gE G (gt (frI P U) k))))
  rw[El.irc]
theorem q_inj {x y:List Int}(hx:Vec (quoP P U).orders x) (hy:Vec (quoP P U).orders y) (h:npr (qm G (nU_sg G hU) (nU_nrm G hn)) (qg G hU) x 0 (Quotient.mk _ 1) (frI P U).length=npr (qm G (nU_sg G hU) (nU_nrm G hn)) (qg G hU) y 0 (Quotient.mk _ 1) (frI P U).length):x=y:=by
 have b:=lift_zr G.v hx;have e:=lift_zr G.v hy;have S:=G.subB hU;rw[<-prj_lift G hr hU hx,<-prj_lift G hr hU hy,q_prj G hr hU hn b.1,q_prj G hr hU hn e.1] at h;have j:eqv (nU G U) (⟨_,b.1⟩:El G) (⟨_,e.1⟩:El G):=Quotient.exact (s:=quS G (nU_sg G hU)) h;have a:cseq P (gP P U)=U:=hU.2.symm;have i:=G.zr_one S (by rw[a];exact b) (by rw[a];exact e) j;have i:liftV P U x=liftV P U y:=i;rw[<-prj_lift G hr hU hx,<-prj_lift G hr hU hy,i]
include G hn in
theorem quo_cons:rconsB (quoP P U)=true:=by
 refine real_cons (quo_valid G hr hU) (qm_mon G (nU_sg G hU) (nU_nrm G hn)) (quo_holds G hr hU hn) (λj k a b => ?_) (λx y hx hy h => ?_)
 ·refine Quotient.inductionOn a (λa=>Quotient.inductionOn b (λb h => ?_))
  have i:eqv (nU G U) (gE G (gt (frI P U) j)*a) (gE G (gt (frI P U) j)*b):=Quotient.exact (s:=quS G (nU_sg G hU)) h;refine Quotient.sound (s:=quS G (nU_sg G hU)) ?_;show nU G U (a⁻¹ * b)
  have e:(gE G (gt (frI P U) j)*a)⁻¹ * (gE G (gt (frI P U) j)*b)=a⁻¹ * b:=by rw[El.mi,El.ass,El.ilc]
  rw[<-e];exact i
 ·rw[quo_n] at h;exact q_inj G hr hU hn hx hy h
include G hn in
theorem prj_mul {X Y:List Int}(a:Vec P.orders X) (b:Vec P.orders Y):prjV P U (rMul P X Y)=rMul (quoP P U) (prjV P U X) (prjV P U Y):=by
 have k:=quo_valid G hr hU;have px:=prj_vec hr hU a;have j:=prj_vec hr hU b;have i:=prj_vec hr hU (G.mulV a b);have GQ:=grp_of_r (quo_cons G hr hU hn);refine q_inj G hr hU hn i (GQ.mulV px j) ?_;have h1:=vd_at k (qm_mon G (nU_sg G hU) (nU_nrm G hn)) (h:=qg G hU) (quoP P U).orders.length 0 (Nat.zero_add _) (quo_holds G hr hU hn) _ _ px j
 have key:∀m,m=(quoP P U).orders.length->npr (qm G (nU_sg G hU) (nU_nrm G hn)) (qg G hU) (rMul (quoP P U) (prjV P U X) (prjV P U Y)) 0 (Quotient.mk _ 1) m=qm G (nU_sg G hU) (nU_nrm G hn) (npr (qm G (nU_sg G hU) (nU_nrm G hn)) (qg G hU) (prjV P U X) 0 (Quotient.mk _ 1) m) (npr (qm G (nU_sg G hU) (nU_nrm G hn)) (qg G hU) (prjV P U Y) 0 (Quotient.mk _ 1) m):=λm e=>by
  subst e;exact h1
 rw[key _ (quo_n P U).symm,q_prj G hr hU hn a,q_prj G hr hU hn b,q_prj G hr hU hn (G.mulV a b)];rfl
include G in
theorem prj_eq {X Y:List Int}(a:Vec P.orders X) (b:Vec P.orders Y):prjV P U X=prjV P U Y↔gU P U (rMul P (rInv P X) Y):=by
 have e:prjV P U X=prjV P U Y↔cnV P U X=cnV P U Y:=by
  have j:=G.cn_spec hr hU a;have k:=G.cn_spec hr hU b;constructor
  ·intro h
   have i:crV P U X=crV P U Y:=by rw[<-lift_prj G hr hU a,<-lift_prj G hr hU b,h]
   unfold cnV;rw[i]
  ·intro h
   have i:crV P U X=crV P U Y:=by rw[<-j.2.1,<-k.2.1,h]
   unfold prjV;rw[i]
 rw[e];exact G.cn_eq hr hU a b
end
end
def tlG (P:Pr) (i:Nat):List (List Int):=(gensOf P.orders.length).drop i
theorem tl_len (P:Pr) (i:Nat):(tlG P i).length=P.orders.length-i:=by unfold tlG;rw[List.length_drop,gensOf_len]
theorem gt_dp {α:Type} [Inhabited α] (l:List α) (i k:Nat):gt (l.drop i) k=gt l (i+k):=by simp[gt,List.getElem?_drop]
theorem gt_tl {P:Pr}{i k:Nat}(h:i+k<P.orders.length):gt (tlG P i) k=unitV P.orders.length (i+k):=by
 unfold tlG;rw[gt_dp,gensOf_at _ _ h]
theorem fm_congr {α e:Type}{f g:α->Option e} : ∀ {l:List α},(∀a∈l,f a=g a)->l.filterMap f=l.filterMap g
 | [],_=>rfl
 | a :: l,h=>by rw[List.filterMap_cons,List.filterMap_cons,h a (List.mem_cons_self ..),fm_congr (λb i=>h b (List.mem_cons_of_mem _ i))]
section
variable {P:Pr}(G:Grp P) {i:Nat}(hi:i<=P.orders.length)
include G hi
theorem T_subg:Sub P (T P i):=⟨λ_ h=>h.1,T.zeros G.v i,λ_ _ h k=>G.T_mul hi h k,λ_ h=>G.T_inv hi h⟩
theorem tl_gen:gU P (tlG P i)=T P i:=by
 have S:=T_subg G hi;funext x
 refine propext ⟨λh=>genP_le S (λy hy => ?_) h,λh => ?_⟩
 ·obtain ⟨k,hk,rfl⟩:=mem_gt hy
  rw[tl_len] at hk;rw[gt_tl (by omega)];exact T.unit G.v (by omega) (by omega)
 ·intro K p u
  have h1:=el_nf G h.1;have e:P.orders.length=i+(P.orders.length-i):=by omega
  have q:=npr_skip (m:=λa b:El G=>a*b) (h:=gE G) (e:=(1:El G)) (x:=x) (i:=i) (f:=P.orders.length-i) (λl w=>h.2 l w);rw[<-e] at q;have r:(npr (λa b:El G=>a*b) (gE G) x 0 1 P.orders.length).1=x:=h1;rw[q] at r;rw[<-r];refine acc_inv (λy:El G=>K y.1) _ _ _ _ _ p.one (λy j hy a b _ => ?_);refine p.mul _ _ hy ?_;have:=u (gt (tlG P i) (j-i)) (gtMem (by rw[tl_len];omega));rw[gt_tl (by omega),show i+(j-i)=j by omega] at this;exact this
theorem tl_sub:SubB P (tlG P i):=by
 have S:=T_subg G hi;refine⟨λx hx => ?_,?_⟩
 ·obtain ⟨k,hk,rfl⟩:=mem_gt hx
  rw[tl_len] at hk;rw[gt_tl (by omega)];exact unitV_vec G.v _
 ·show _=cseq P (gU P (tlG P i))
  rw[tl_gen G hi]
  have A:Red P (T P i) (λd=>if i<=d/\d<P.orders.length then unitV P.orders.length d else []):=by
   have j:∀d,(if i<=d/\d<P.orders.length then unitV P.orders.length d else [])≠[]->i<=d/\d<P.orders.length:=λd h=>by
    apply Classical.byContradiction;intro l;rw[if_neg l] at h;exact h rfl
   refine⟨⟨S,λd b r => ?_,λx hx d b B p => ?_⟩,λd e u w q y => ?_⟩
   ·have h:=j d r
    simp only[if_pos h];exact⟨T.unit G.v h.1 b,T.unit G.v (Nat.le_refl _) b,by rw[gt_unit _ _ _ b,if_pos rfl]⟩
   ·have hid:i<=d:=by
     rcases Nat.lt_or_ge d i with h|h
     ·exact absurd (hx.2 d h) p
     ·exact h
    simp only[if_pos (And.intro hid b)];intro l
    have p:P.orders.length=0:=by
     have h:=congrArg List.length l;rw[show(unitV P.orders.length d).length=P.orders.length by unfold unitV;simp] at h;exact h
    omega
   ·have h:=j d q
    simp only[if_pos h];rw[gt_unit _ _ _ w,if_neg (by omega)]
  rw[G.cseq_red A];unfold seqOf tlG gensOf
  have e:List.range P.orders.length=List.range i++(List.range (P.orders.length-i)).map (λk=>i+k):=by
   rw[<-List.range_add];congr 1;omega
  have m:∀d,d<P.orders.length->unitV P.orders.length d≠[]:=λd b l=>by
   have p:P.orders.length=0:=by
    have h:=congrArg List.length l;rw[show(unitV P.orders.length d).length=P.orders.length by unfold unitV;simp] at h;exact h
   omega
  rw[e,List.filterMap_append,List.map_append,List.drop_left' (by rw[List.length_map,List.length_range])]
  have z:(List.range i).filterMap (λd=>if (if i<=d/\d<P.orders.length then unitV P.orders.length d else [])=[] then none else some (if i<=d/\d<P.orders.length then unitV P.orders.length d else []))=[]:=by
   rw[List.filterMap_eq_nil_iff];intro a ha;have:=List.mem_range.1 ha;rw[if_neg (show ¬(i<=a/\a<P.orders.length) by omega),if_pos rfl]
  rw[z,List.nil_append];rw[List.map_map,List.filterMap_map,<-List.filterMap_eq_map];refine(fm_congr (λk hk => ?_)).symm;have:=List.mem_range.1 hk;show(if (if i<=i+k/\i+k<P.orders.length then unitV P.orders.length (i+k) else [])=[] then none else some (if i<=i+k/\i+k<P.orders.length then unitV P.orders.length (i+k) else []))=some (unitV P.orders.length (i+k))
  rw[if_pos (show i<=i+k/\i+k<P.orders.length by omega),if_neg (m _ (by omega))]
end
theorem ints_of_ownV {E base:Nat}{S:Nat->Prop}{w:World}{v:Value}{l:List Int}(h:OwnV base E w v (l.map (Value.int .i64))) (e:l.length<=9223372036854775807) (a:∀k,v.ownBlock=some k->S k):Ints S w v l:=by
 rcases h.form with⟨rfl,hn⟩|⟨g,cap,rfl,b,_,hg⟩
 ·have:l=[]:=by simpa using hn
  subst this;exact⟨none,0,rfl,⟨by simp,by simp,λ_=>rfl⟩,λi hi=>by simp at hi⟩
 ·rw [List.length_map] at h b a ⊢
  refine⟨_,cap,rfl,⟨b,e,λh=>by cases h⟩,λi hi=>⟨g,0,.int .i64 (gt l i),rfl,a g rfl,hg,?_,rfl⟩⟩;rw[Nat.zero_add,h.cell i (by simpa using hi),gt_map _ _ _ hi]
def natI (q:List Nat):List Int:=q.map (λt:Nat=>(t:Int))
theorem natI_len (q:List Nat):(natI q).length=q.length:=by unfold natI;rw[List.length_map]
theorem ShQ.rowsB {bad:Nat->Prop}{B:Nat}{w:World}{v:Value}{xs:List (List Int)}(h:ShQ bad B w v xs) (l:∀k,bad k->k<B):Rows2 (λk=>¬bad k) w v xs:=by
 obtain⟨m,b,p,hr⟩:=h;rcases p with⟨rfl,rfl⟩|⟨g,off,cap,cur,rfl,hB,e,hnc,hcm,hsz,hc⟩
 ·have:xs=[]:=List.eq_nil_of_length_eq_zero (by simpa using b.symm)
  subst this;exact⟨none,0,rfl,⟨by simp,by simp,λ_=>rfl⟩,λi hi=>by simp at hi⟩
 ·have a:g<w.heap.size:=(Array.getElem?_eq_some_iff.1 e).1
  have j:cap<=9223372036854775807:=by unfold maxLen at hcm;omega
  refine⟨_,cap,by rw[b],⟨by omega,by omega,λh=>by cases h⟩,λi hi=>⟨g,off,gt m i,rfl,λh=>by have:=l g h;omega,a,?_,Ints.sub (hr i hi) (λk hk _=>hk.1)⟩⟩;simp only[World.cell?,e,Option.isSome_none,Bool.false_eq_true,if_false];exact hc i (by omega)
end Go.Proofs.YtldheeicjnncoaaGreat
namespace Go.Proofs.YtldheeicjnncoaaGreat
def stP (P:Pr) (H:List Int->Prop) (B:List (List Int)) (x:List Int):Prop:=∀K,Sub P K->(∀y,H y->K y)->(∀b∈B,∀y,K y->K (rConj P y b))->K x
def allC (P:Pr) (L B:List (List Int)):Nat->List (List Int)
 | 0=>L
 | j+1=>allC P L B j++conjL P L (gt B j)
theorem conjL_len (P:Pr) (L:List (List Int)) (X:List Int):(conjL P L X).length=L.length:=by unfold conjL;rw[List.length_map]
theorem allC_len (P:Pr) (L B:List (List Int)) (j:Nat):(allC P L B j).length=L.length*(j+1):=by
 induction j with
 | zero=>simp[allC]
 | succ j a=>rw[allC,List.length_append,a,conjL_len,Nat.mul_succ L.length (j+1)]
theorem allC_mem {P:Pr}{L B:List (List Int)}{j:Nat}{x:List Int} : x∈allC P L B j↔x∈L\/∃k,k<j/\x∈conjL P L (gt B k):=by
 induction j with
 | zero=>simp[allC]
 | succ j a=>
  rw[allC,List.mem_append,a];constructor
  ·rintro ((h|⟨k,hk,h⟩)|h)
   ·exact Or.inl h
   ·exact Or.inr ⟨k,by omega,h⟩
   ·exact Or.inr ⟨j,by omega,h⟩
  ·rintro (h|⟨k,hk,h⟩)
   ·exact Or.inl (Or.inl h)
   ·rcases Nat.lt_succ_iff_lt_or_eq.1 hk with h1|h1
    ·exact Or.inl (Or.inr ⟨k,h1,h⟩)
    ·exact Or.inr (h1▸h)
def StSt (P:Pr) (H:List Int->Prop) (B:List (List Int)) (K:List Int->Prop):Prop:=Sub P K/\(∀x,H x->K x)/\∀x,K x->stP P H B x
section
variable {P:Pr}(G:Grp P)
include G
theorem Grp.vecSub:Sub P (Vec P.orders):=⟨λ_ h=>h,G.oneV,λ_ _ a b=>G.mulV a b,λ_ a=>G.invV a⟩
theorem Grp.stP_sub {H:List Int->Prop}(S:Sub P H) {B:List (List Int)}(hB:∀b∈B,Vec P.orders b):Sub P (stP P H B):=
 ⟨λ_ h=>h _ G.vecSub S.vec (λb i _ hy=>G.conjV hy (hB b i)),λ_ a _ _=>a.one,
  λ_ _ hx hy K a hH e=>a.mul _ _ (hx K a hH e) (hy K a hH e),λ_ hx K a hH e=>a.inv _ (hx K a hH e)⟩
theorem Grp.allC_vec {K:List Int->Prop}(S:Sub P K) {B:List (List Int)}(hB:∀b∈B,Vec P.orders b) (j:Nat) (e:j<=B.length):∀x∈allC P (cseq P K) B j,Vec P.orders x:=by
 have a:=(G.seq_facts S).2.1;intro x hx;rcases allC_mem.1 hx with h|⟨k,hk,h⟩
 ·exact S.vec x (a x h)
 ·unfold conjL at h
  obtain⟨y,hy,rfl⟩:=List.mem_map.1 h;exact G.conjV (S.vec y (a y hy)) (hB _ (gtMem (by omega)))
omit G in
theorem stP_conj {H:List Int->Prop}{B:List (List Int)}{b x:List Int}(e:b∈B) (h:stP P H B x):stP P H B (rConj P x b):=λK i hH a=>a b e _ (h K i hH a)
theorem Grp.st_round {H K:List Int->Prop}(S:Sub P H) {B:List (List Int)}(hB:∀b∈B,Vec P.orders b) (h:StSt P H B K) :
  StSt P H B (genP P (λz=>z∈allC P (cseq P K) B B.length))/\(∀x,K x->genP P (λz=>z∈allC P (cseq P K) B B.length) x) /\
   ∀b∈B,∀y,K y->genP P (λz=>z∈allC P (cseq P K) B B.length) (rConj P y b):=by
 obtain⟨e,q,l⟩:=h;have i:=(G.seq_facts e).2.1;have j:=G.genP_sub (Q:=λz=>z∈allC P (cseq P K) B B.length) (G.allC_vec e hB _ (Nat.le_refl _))
 have m:∀x,K x->genP P (λz=>z∈allC P (cseq P K) B B.length) x:=λx hx=>by
  have h1:genP P (λz=>z∈cseq P K) x:=by rw[G.genP_cseq e];exact hx
  exact h1 _ j (λz a=>genP_mem (allC_mem.2 (Or.inl a)))
 refine⟨⟨j,λx hx=>m x (q x hx),λx hx=>hx _ (G.stP_sub S hB) (λz a => ?_)⟩,m,λb p y hy => ?_⟩
 ·rcases allC_mem.1 a with h|⟨k,hk,h⟩
  ·exact l z (i z h)
  ·unfold conjL at h
   obtain⟨y,hy,rfl⟩:=List.mem_map.1 h;exact stP_conj (gtMem hk) (l y (i y hy))
 ·have h1:genP P (λz=>z∈cseq P K) y:=by rw[G.genP_cseq e];exact hy
  obtain⟨k,hk,rfl⟩:=mem_gt p;exact(h1 _ (G.pull_sub j (hB _ p)) (λz a=>⟨e.vec z (i z a),genP_mem (allC_mem.2 (Or.inr ⟨k,hk,List.mem_map.2 ⟨z,a,rfl⟩⟩))⟩)).2
theorem Grp.st_end {H K:List Int->Prop}(S:Sub P H) {B:List (List Int)}(hB:∀b∈B,Vec P.orders b) (h:StSt P H B K) :
  (cseq P K).length<=(cseq P (genP P (λz=>z∈allC P (cseq P K) B B.length))).length /\
  ((cseq P (genP P (λz=>z∈allC P (cseq P K) B B.length))).length=(cseq P K).length->genP P (λz=>z∈allC P (cseq P K) B B.length)=stP P H B):=by
 obtain⟨a,r2,r3⟩:=G.st_round S hB h;have i:=G.len_le h.1 a.1 r2;refine⟨i.1,λj => ?_⟩;have k:=i.2 j.symm;exact funext λx=>propext ⟨a.2.2 x,λhx=>hx _ a.1 a.2.1 (λb e y hy=>r3 b e y (k y hy))⟩
theorem Grp.st_norm {H:List Int->Prop}(S:Sub P H):((cseq P (stP P H (gensOf P.orders.length))).length=(cseq P H).length)↔NormG P H (cseq P H):=by
 have hB:=gensOf_vec G.v;have l:=G.stP_sub S hB;have a:∀x,H x->stP P H (gensOf P.orders.length) x:=λx hx K _ hH _=>hH x hx;constructor
 ·intro m
  have e:=(G.len_le S l a).2 m.symm;refine(G.norm_iff S).2 (G.norm_of_gens S (λj k x hx=>e _ (stP_conj ?_ (a x hx))));rw[<-gensOf_at _ _ k];exact gtMem (by rw[gensOf_len];exact k)
 ·intro i
  have i:=(G.norm_iff S).1 i;have:stP P H (gensOf P.orders.length)=H:=funext λx=>propext ⟨λh=>h H S (λ_ h=>h) (λb e y hy=>i y hy b (hB b e)),a x⟩;rw[this]
end
end Go.Proofs.YtldheeicjnncoaaGreat
namespace Go.Proofs.YtldheeicjnncoaaGreat
open Go.RowKit
theorem ShQ.rowsN {bad:Nat->Prop}{B:Nat}{w:World}{v:Value}{xs:List (List Int)}(h:ShQ bad B w v xs) (l:∀k,bad k->k<B):Rows2 (λk=>¬bad k) w v xs:=by
 obtain⟨m,b,p,hr⟩:=h;rcases p with⟨rfl,rfl⟩|⟨g,off,cap,cur,rfl,hB,e,hnc,hcm,hsz,hc⟩
 ·have:xs=[]:=List.eq_nil_of_length_eq_zero (by simpa using b.symm)
  subst this;exact⟨none,0,rfl,⟨by simp,by simp,λ_=>rfl⟩,λi hi=>by simp at hi⟩
 ·have a:g<w.heap.size:=(Array.getElem?_eq_some_iff.1 e).1
  have j:cap<=9223372036854775807:=by unfold maxLen at hcm;omega
  refine⟨_,cap,by rw[b],⟨by omega,by omega,λh=>by cases h⟩,λi hi=>⟨g,off,gt m i,rfl,λh=>by have:=l g h;omega,a,?_,Ints.sub (hr i hi) (λk hk _=>hk.1)⟩⟩;simp only[World.cell?,e,Option.isSome_none,Bool.false_eq_true,if_false];exact hc i (by omega)
theorem l13StableF_ok (P:Pr) (G:Grp P) (w:World) (pv uv bv:Value) (H:List Int->Prop) (B:List (List Int)) (Sp Su Sb:Nat->Prop) (S:Sub P H) (aS:PresV Sp w pv P) (Q:Rows2 Su w uv (cseq P H)) (hb:Rows2 Sb w bv B) (hB:∀b∈B,Vec P.orders b) (bg:B.length<=100) :
  Calls Tryz.prog 112 #[pv,uv,bv] w (Ret w λw' v=>Rows2 (From w.heap.size) w' v (cseq P (stP P H B))):=by
 have hP:=G.v;have bh:=hP.n6;obtain⟨vo,vp,vc,rfl,h3⟩:=aS;have ar:=PresP.box h3 28;have E:Ext w (w.alloc (.cells #[vo,vp,vc] 28)):=World.grownBy_alloc _ _ _;have av:Rows2 Any (w.alloc (.cells #[vo,vp,vc] 28)) uv (cseq P H):=Rows2.sub (Rows2.ext Q E) (λ_ _ _=>trivial);have aT:=Rows2.ext hb E;obtain⟨au,capu,rfl,_,_⟩:=Sl.shape Q;obtain⟨ab,capb,rfl,_,_⟩:=Sl.shape hb;obtain⟨aw,eo,dQ,_,_,hc0,R,U,ew⟩:=ar.at;simp only[Nat.zero_add] at R U;have ax:∀w',Ext (w.alloc (.cells #[vo,vp,vc] 28)) w'->w'.cell? ⟨w.heap.size,0,none⟩=some aw/\w'.cell? ⟨w.heap.size,1,none⟩=some eo/\w'.cell? ⟨w.heap.size,2,none⟩=some dQ:=λw' h=>⟨h.cell hc0 (by simp),h.cell R (by simp),h.cell U (by simp)⟩;have HB:=Lib.hid ax;clear ax ar Q hb;have V:=Lib.hid (And.intro S hB);clear hB;go_enter Tryz.func112,Tryz.ntmps112;go_wp2;clear hc0 R U;generalize aU:w.alloc (.cells #[vo,vp,vc] 28)=w0 at *;clear aU;go_loopg [7] (P.orders.length-(cseq P H).length) (λgk uv wr=>∃(K:List Int->Prop),gk=P.orders.length-(cseq P K).length/\Ext w0 wr/\Rows2 Any wr uv (cseq P K)/\Hid (StSt P H B K))
 case atStart=>exact⟨H,rfl,Ext.refl _,av,Lib.hid ⟨V.out.1,λ_ h=>h,λx h K _ hH _=>hH x h⟩⟩
 case round=>
  clear av;obtain⟨K,ay,hg,Q,hK⟩:=hrel;have hl:=G.cseq_len hK.out.1;obtain⟨ak,capk,oZ,_,_⟩:=Sl.shape Q;subst oZ;have W:∀y∈cseq P K,Vec P.orders y:=λy hy=>hK.out.1.vec y ((G.seq_facts hK.out.1).2.1 y hy);have az:∀x∈cseq P K,x.length<=1000000:=λx hx=>by rw[(W x hx).1];omega
  have X:=Lib.hid (And.intro ay (And.intro W az));clear ay W az;obtain⟨l,rfl⟩:∃l:World,l=wr:=⟨_,rfl⟩;go_wp2_with fail
  refine Calls.mono (l01Own2_ok l _ (cseq P K) Any Q X.out.2.2 (by omega)) ?_;rintro e2 w2 ⟨v2,rfl,hg2,Y⟩;have aA:ShQ (λ_=>False) l.heap.size w2 v2 (allC P (cseq P K) B 0):=Y.shq (λk h=>h.elim);obtain⟨a2,cap2,hv2,_,_⟩:=SlD.shape (Y.toD (by omega));subst hv2;clear Y;go_wp2;go_loopw [8,9] (λnv jv wr=>∃(j:Nat) (u:Value),u=nv/\jv=.int .i64 j/\j<=B.length/\Ext l wr/\ShQ (λ_=>False) l.heap.size wr u (allC P (cseq P K) B j)) (λ_ jv _=>B.length-(intOf jv).toNat)
  case atStart=>exact⟨0,_,rfl,rfl,by omega,hg2,aA⟩
  case round=>
   clear aA;obtain⟨j,u,rfl,rfl,hj,mP,A⟩:=hrel;by_cases Z:j<B.length
   ·have bb:(j:Int)<B.length:=by omega
    go_wp2;go_loopw [8,10] (λnv iv wr=>∃(i:Nat) (u:Value),u=nv/\iv=.int .i64 i/\i<=(cseq P K).length/\Ext l wr/\ShQ (λ_=>False) l.heap.size wr u (allC P (cseq P K) B j++(conjL P (cseq P K) (gt B j)).take i)) (λ_ iv _=>(cseq P K).length-(intOf iv).toNat)
    case atStart=>exact⟨0,_,rfl,rfl,by omega,mP,by simpa using A⟩
    case round=>
     clear A;obtain⟨i,u,rfl,rfl,hi,aB,A⟩:=hrel;by_cases q:i<(cseq P K).length
     ·have aY:(i:Int)<(cseq P K).length:=by omega
      obtain⟨b1,o1,a1,c1,rfl,_,_,jR,aZ⟩:=Rows2.at Q i q;obtain⟨b3,o3,a3,c3,rfl,_,_,F,aa⟩:=Rows2.at aT j Z;have J:Ext w0 l:=hg;have F:=J.cell F (by simp);have aa:=Ints.ext aa J;have ac:=X.out.2.1 _ (gtMem q);have ad:=V.out.2 _ (gtMem Z);have ae:=conjL_len P (cseq P K) (gt B j)
      have C:(conjL P (cseq P K) (gt B j)).take (i+1)=(conjL P (cseq P K) (gt B j)).take i++[rConj P (gt (cseq P K) i) (gt B j)]:=by
       rw[take_succ_gt _ i (by rw[ae];exact q)];unfold conjL;rw[gt_map _ _ _ q]
      have af:(allC P (cseq P K) B j++(conjL P (cseq P K) (gt B j)).take i).length<=1000000:=by
       rw[List.length_append,allC_len,List.length_take,ae];have h1:(cseq P K).length*(j+1)<=6*101:=Nat.mul_le_mul (by omega) (by omega);omega
      have aD:=G.conjV ac ad;have aE:∀k,u.ownBlock=some k->l.heap.size<=k:=λk hk=>(A.lt k hk).1;obtain⟨xs,ag⟩:∃xs,xs=allC P (cseq P K) B j++(conjL P (cseq P K) (gt B j)).take i:=⟨_,rfl⟩;have r:allC P (cseq P K) B j++(conjL P (cseq P K) (gt B j)).take (i+1)=xs++[rConj P (gt (cseq P K) i) (gt B j)]:=by rw[C,ag,List.append_assoc]
      rw[<-ag] at A af;have D:=Lib.hid (And.intro r (And.intro ac (And.intro af (And.intro aD ad))));clear C r ac af aD ad ae ag;have f1:∀w',Ext l w'->w'.cell? ⟨w.heap.size,0,none⟩=some aw:=λw' h=>(HB.out w' (grown_trans hg h)).1;have f2:∀w',Ext l w'->w'.cell? ⟨w.heap.size,1,none⟩=some eo:=λw' h=>(HB.out w' (grown_trans hg h)).2.1;have f3:∀w',Ext l w'->w'.cell? ⟨w.heap.size,2,none⟩=some dQ:=λw' h=>(HB.out w' (grown_trans hg h)).2.2;have f4:∀w',Ext l w'->w'.cell? ⟨b1,o1+i,none⟩=some (.slice a1 (gt (cseq P K) i).length c1):=λw' h=>h.cell jR (by simp);have f5:∀w',Ext l w'->w'.cell? ⟨b3,o3+j,none⟩=some (.slice a3 (gt B j).length c3):=λw' h=>h.cell F (by simp);clear jR F;go_wp2
      go_region_held3 (λw'=>Ext l w') (first|exact grown_trans aB (grown_drew _ _)|assumption|exact grown_trans ah (World.grownBy_alloc _ _ _))
       (first
        | (go_at_call 218;refine Calls.mono (Calls.rel2 (w0:=l) (by assumption) (l10Conj_ok P hP _ _ _ _ (gt (cseq P K) i) (gt B j) Any Any Any ⟨_,_,_,rfl,Pres3.ext ew (grown_trans hg (by assumption))⟩ (Ints.sub (Ints.ext aZ (by assumption)) (λ_ _ _=>trivial)) (Ints.sub (Ints.ext aa (by assumption)) (λ_ _ _=>trivial)) D.out.2.1 D.out.2.2.2.2)) ?_;rintro eC wC ⟨vC,rfl,ah,aF,hsC,aG⟩;have aH:Ext wr wC:=grown_trans (grown_drew _ _) aF;have aI:Ints (λk=>¬False/\u.ownBlock≠some k) wC vC (rConj P (gt (cseq P K) i) (gt B j)):=ints_of_own aG (by rw[D.out.2.2.2.1.1];omega) (λk hk=>⟨id,λe=>by have h1:=(aG.lt k hk).1;have h2:=(A.lt k e).2;have h3:wr.heap.size<=wr.drew.heap.size:=(grown_drew wr none).size;omega⟩);obtain⟨aC,capC,iu,_,_⟩:=aI.shape;subst iu)
        | (refine step_shq_app rfl _ _ rfl (λ_=>False) l.heap.size u _ xs _ rfl wC (A.ext aH) rfl aI rfl D.out.2.2.1 ah.size ?_;intro v5 w5 aJ a4 bm;have aK:Ext l w5:=grown_own ah a4 (λk hk Z=>by have:=aE k hk;omega)))
      clear f1 f2 f3 f4 f5;rw[<-D.out.1] at aJ;go_wp2;go_roundw
      case rel=>exact⟨i+1,v5,rfl,by go_num,by omega,aK,aJ⟩
      case measure=>simp[intOf];omega
     ·have a5:i=(cseq P K).length:=by omega
      subst a5;rw[List.take_of_length_le (by rw[conjL_len];exact Nat.le_refl _)] at A;go_wp2;go_roundw
      case rel=>exact⟨j+1,u,rfl,by go_num,by omega,aB,A⟩
      case measure=>simp[intOf];omega
   ·have a6:j=B.length:=by omega
    subst a6;have p:=grown_trans hg mP;obtain⟨aL,hb1,hb2⟩:=HB.out wr p;have ai:=A.rows;obtain⟨aq,capq,o7,_,_⟩:=Sl.shape ai;subst o7;have a7:=allC_len P (cseq P K) B B.length
    have L:(allC P (cseq P K) B B.length).length<=10000:=by
     have h1:(cseq P K).length*(B.length+1)<=6*101:=Nat.mul_le_mul (by omega) (by omega);omega
    have a:=G.st_end V.out.1 V.out.2 hK.out;have m:=G.st_round V.out.1 V.out.2 hK.out;have I:=G.cseq_len m.1.1;have HE:=Lib.hid (And.intro a (And.intro m (And.intro L I)));clear a m a7 L I;go_wp2_with fail
    clear aL hb1 hb2;refine Calls.mono (l12CloseF_ok P G wr _ _ (allC P (cseq P K) B B.length) Any Any ⟨_,_,_,rfl,Pres3.ext ew p⟩ ai (G.allC_vec hK.out.1 V.out.2 _ (Nat.le_refl _)) HE.out.2.2.1) ?_;rintro e3 w3 ⟨v3,rfl,aM,aj⟩;have al:=aj.rows;have bo:w.heap.size<=wr.heap.size:=(grown_trans E p).size;have M:Rows2 (From w.heap.size) w3 v3 _:=Rows2.sub (aj.rowsN (λ_ h=>h)) (λk hk _=>by have hk:¬k<wr.heap.size:=hk;show w.heap.size<=k;omega);clear aj;obtain⟨N,aN⟩:∃N,N=genP P (λz=>z∈allC P (cseq P K) B B.length):=⟨_,rfl⟩;obtain⟨a,m,_,I⟩:=HE.out;rw[<-aN] at al M a m I;have bp:=a.1;clear HE aN;have A:True:=trivial;clear ai;obtain⟨a3,cap3,hv3,_,_⟩:=Sl.shape al;subst hv3;by_cases heq:(cseq P N).length=(cseq P K).length
    ·have aO:=a.2 heq
     have hb:(((cseq P N).length:Int) == ((cseq P K).length:Int))=true:=by simp[heq]
     have a9:=Lib.hid (And.intro aO m);clear aO m a heq;go_wp2;go_ret;exact⟨_,rfl,grown_trans E (grown_trans p aM),by rw[<-a9.out.1];exact M⟩
    ·have hb:(((cseq P N).length:Int) == ((cseq P K).length:Int))=false:=by simp;omega
     have O:P.orders.length-(cseq P N).length<gk:=by have:=X.out.1;omega
     have aQ:=Lib.hid (And.intro O m);clear O heq m a;go_wp2;go_roundg (P.orders.length-(cseq P N).length)
     case measure=>exact aQ.out.1
     case rel=>exact⟨N,rfl,grown_trans p aM,al,Lib.hid aQ.out.2.1⟩
theorem l13Stable_ok (P:Pr) (G:Grp P) (w:World) (pv a e:Value) (H:List Int->Prop) (B:List (List Int)) (k l m:Nat->Prop) (S:Sub P H) (i:PresV k w pv P) (p:Rows2 l w a (cseq P H)) (q:Rows2 m w e B) (hB:∀b∈B,Vec P.orders b) (j:B.length<=100) :
  Calls Tryz.prog 112 #[pv,a,e] w (Ret w λw' v=>Rows2 Any w' v (cseq P (stP P H B))):=
 (l13StableF_ok P G w pv a e H B k l m S i p q hB j).mono (λ_ _ ⟨v,he,hg,h⟩=>⟨v,he,hg,Rows2.sub h (λ_ _ _=>trivial)⟩)
theorem l13Normal_ok (P:Pr) (G:Grp P) (w:World) (pv u:Value) (H:List Int->Prop) (D E:Nat->Prop) (S:Sub P H) (y:PresV D w pv P) (z:Rows2 E w u (cseq P H)) :
  Calls Tryz.prog 220 #[pv,u] w (Ret w λ_ v=>∃r:Bool,v=.bool r/\(r=true↔NormG P H (cseq P H))):=by
 have hP:=G.v;have F:=hP.n6;obtain⟨vo,vp,vc,rfl,h3⟩:=y;have e:=PresP.box h3 28;have i:Ext w (w.alloc (.cells #[vo,vp,vc] 28)):=World.grownBy_alloc _ _ _;have A:Rows2 Any (w.alloc (.cells #[vo,vp,vc] 28)) u (cseq P H):=Rows2.sub (Rows2.ext z i) (λ_ _ _=>trivial);obtain⟨I,capu,rfl,_,_⟩:=Sl.shape z;obtain⟨B,eo,dQ,_,_,hc0,a,b,ew⟩:=e.at;simp only[Nat.zero_add] at a b;have j:=gensOf_len P.orders.length;have k:=gensOf_vec G.v;have l:=G.st_norm S;have m:=Lib.hid (And.intro S (And.intro j (And.intro k l)));clear j k l e z;go_enter Tryz.func220,Tryz.ntmps220;go_wp2;have f1:∀w',Ext (w.alloc (.cells #[vo,vp,vc] 28)) w'->w'.cell? ⟨w.heap.size,0,none⟩=some B:=λw' h=>h.cell hc0 (by simp);have f2:∀w',Ext (w.alloc (.cells #[vo,vp,vc] 28)) w'->w'.cell? ⟨w.heap.size,1,none⟩=some eo:=λw' h=>h.cell a (by simp);have f3:∀w',Ext (w.alloc (.cells #[vo,vp,vc] 28)) w'->w'.cell? ⟨w.heap.size,2,none⟩=some dQ:=λw' h=>h.cell b (by simp);clear hc0 a b;generalize C:w.alloc (.cells #[vo,vp,vc] 28)=w0 at *;clear C
 go_region_held3 (λw'=>Ext w0 w') (first|exact grown_drew _ _|assumption)
  (first
   | (go_at_call 113;refine Calls.mono (Calls.rel (w0:=w0) (by assumption) (l12Whole_ok P hP _ _ Any ⟨_,_,_,rfl,Pres3.ext ew (by assumption)⟩)) ?_;rintro J K ⟨L,rfl,gm,hsC,p⟩;obtain⟨M,capC,q,_,_⟩:=Sl.shape p;rw[m.out.2.1] at q;subst q)
   | (go_at_call 112;refine Calls.mono (Calls.rel (w0:=w0) (by assumption) (l13Stable_ok P G _ _ _ _ H (gensOf P.orders.length) Any Any Any m.out.1 ⟨_,_,_,rfl,Pres3.ext ew (by assumption)⟩ (Rows2.ext A (by assumption)) p m.out.2.2.1 (by rw[m.out.2.1];omega))) ?_;rintro N O ⟨Q,rfl,gD,jV,pg⟩;obtain⟨R,qX,pq,_,_⟩:=Sl.shape pg;subst pq))
 clear f1 f2 f3;go_wp2;go_ret;exact⟨_,rfl,grown_trans i gD,_,rfl,by rw[<-m.out.2.2.2];simp;exact Int.ofNat_inj⟩
open Classical in
noncomputable def cpnC (P:Pr) (U:List (List Int)):Int:=if rconsB P=true/\SubB P U then (if NormG P (gU P U) (cseq P (gU P U)) then 0 else 5) else 1
theorem cpn_bad {P:Pr}{U:List (List Int)}(h:¬(rconsB P=true/\SubB P U)):cpnC P U=1:=by unfold cpnC;rw[if_neg h]
theorem cpn_not {P:Pr}{U:List (List Int)}(h:rconsB P=true/\SubB P U) (a:¬NormG P (gU P U) (cseq P (gU P U))):cpnC P U=5:=by unfold cpnC;rw[if_pos h,if_neg a]
theorem cpn_ok {P:Pr}{U:List (List Int)}(h:rconsB P=true/\SubB P U) (a:NormG P (gU P U) (cseq P (gU P U))):cpnC P U=0:=by unfold cpnC;rw[if_pos h,if_pos a]
theorem cpn_zero {P:Pr}{U:List (List Int)}(h:cpnC P U=0):rconsB P=true/\SubB P U:=by
 refine Classical.byContradiction λhn => ?_;rw[cpn_bad hn] at h;cases h
theorem normalCode_ok (P:Pr) (w:World) (p D:Value) (U:List (List Int)) (E A:Nat->Prop) (B:PresP E w p P) (C:Rows2 A w D U) :
  Calls Tryz.prog 95 #[p,D] w (Ret w λ_ v=>v=.int .i64 (cpnC P U)):=by
 obtain⟨pb,po,rfl⟩:=B.shape;obtain⟨F,k,rfl,_,_⟩:=Sl.shape C;have q:Ext w (w.alloc (.cells #[.slice F U.length k] 25)):=World.grownBy_alloc _ _ _;have l:=areSubgroups_ok P _ _ _ [U] E Any (B.ext q) (rows3One C);go_enter Tryz.func95,Tryz.ntmps95;go_wp2_with fail
 refine Calls.mono l ?_;rintro I H ⟨v1,rfl,eu,r1,rfl,b⟩;clear l;have b:r1=true↔rconsB P=true/\SubB P U:=by rw[b];simp
 have a:=grown_trans q eu;cases r1 with
 | false=>
  have m:=cpn_bad (P:=P) (U:=U) (λh=>by have:=b.2 h;cases this);have r:=Lib.hid m;clear m b;go_wp2;go_ret;exact⟨_,rfl,a,by rw[r.out];rfl⟩
 | true=>
  have i:=b.1 rfl;have G:=grp_of_r i.1;have hU:=i.2.2
  have u:Rows2 A H (.slice F U.length k) (cseq P (gU P U)):=by
   have e:cseq P (gU P U)=U:=hU.symm;rw[e];exact Rows2.ext C a
  have y:=isNormal_ok P G H _ _ (gU P U) _ A (G.subB i.2) (B.ext a) u;have z:=Lib.hid i;clear b i hU u;go_wp2_with fail
  refine Calls.mono y ?_;rintro J K ⟨v2,rfl,hg2,r2,rfl,j⟩;clear y;cases r2 with
  | false=>
   have m:=cpn_not z.out (λh=>by have:=j.2 h;cases this);have r:=Lib.hid m;clear m j;go_wp2;go_ret;exact⟨_,rfl,grown_trans a hg2,by rw[r.out];rfl⟩
  | true=>
   have m:=cpn_ok z.out (j.1 rfl);have r:=Lib.hid m;clear m j;go_wp2;go_ret;exact⟨_,rfl,grown_trans a hg2,by rw[r.out];rfl⟩
def takeP (P:Pr) (has:List Int->Prop) (k:Nat) (y:List Int):Prop:=y∈(allEl P).take k/\has y
theorem takeP_zero (P:Pr) (has:List Int->Prop):takeP P has 0=λ_=>False:=by
 funext y;unfold takeP;simp
theorem takeP_yes {P:Pr}{has:List Int->Prop}{k:Nat}(hk:k<(allEl P).length) (h:has (gt (allEl P) k)):takeP P has (k+1)=λy=>takeP P has k y\/y∈[gt (allEl P) k]:=
 funext λy=>propext (by
  unfold takeP;rw[List.take_add_one,List.getElem?_eq_getElem hk,List.mem_append,gt_eq _ _ hk];simp only[Option.toList_some,List.mem_singleton];constructor
  ·rintro ⟨h1|h1,h2⟩
   ·exact .inl ⟨h1,h2⟩
   ·exact .inr h1
  ·rintro (⟨h1,h2⟩|h1)
   ·exact⟨.inl h1,h2⟩
   ·exact⟨.inr h1,by rw[h1,<-gt_eq _ _ hk];exact h⟩)
theorem takeP_no {P:Pr}{has:List Int->Prop}{k:Nat}(hk:k<(allEl P).length) (h:¬has (gt (allEl P) k)):takeP P has (k+1)=takeP P has k:=
 funext λy=>propext (by
  unfold takeP;rw[List.take_add_one,List.getElem?_eq_getElem hk,List.mem_append];simp only[Option.toList_some,List.mem_singleton];constructor
  ·rintro ⟨h1|h1,h2⟩
   ·exact⟨h1,h2⟩
   ·rw[h1,<-gt_eq _ _ hk] at h2;exact absurd h2 h
  ·rintro ⟨h1,h2⟩
   exact⟨.inl h1,h2⟩)
theorem takeP_all {P:Pr}(hP:Valid P) (has:List Int->Prop):takeP P has (allEl P).length=λy=>Vec P.orders y/\has y:=
 funext λy=>propext (by
  unfold takeP;rw[List.take_length]
  have a:y∈allEl P↔Vec P.orders y:=by
   unfold allEl;rw[List.mem_map];constructor
   ·rintro ⟨k,hk,rfl⟩
    exact elAt_vec hP _ (by omega)
   ·intro h
    have b:=num_bd hP h;exact⟨(num P y).toNat,by rw[List.mem_range];omega,by rw[show(((num P y).toNat:Nat):Int)=num P y by omega];exact elAt_num hP h⟩
  rw[a])
theorem genP_takeP_vec {P:Pr}(hP:Valid P) {has:List Int->Prop}{k:Nat} : ∀y,takeP P has k y->Vec P.orders y:=λy h=>by
 have:=List.mem_of_mem_take h.1;unfold allEl at this;rw[List.mem_map] at this;obtain⟨j,hj,rfl⟩:=this;exact elAt_vec hP _ (by omega)
theorem sOrder_ok (P:Pr) (hr:rconsB P=true) (w:World) (pv:Value) (C:Nat->Prop) (r:PresV C w pv P) :
  Calls Tryz.prog 97 #[pv] w (Ret w λ_ v=>v=.tuple #[.int .i64 (ordP P),.int .i64 0]):=by
 have G:=grp_of_r hr;have hP:=G.v;obtain⟨vo,vp,vc,rfl,h3⟩:=r;have u:=PresP.box h3 28;have y:Ext w (w.alloc (.cells #[vo,vp,vc] 28)):=World.grownBy_alloc _ _ _;obtain⟨b,eo,dQ,_,_,hc0,l,m,p⟩:=u.at;simp only[Nat.zero_add] at l m;have hE:=sIsPresentation_ok (w.alloc (.cells #[vo,vp,vc] 28)) (.agg #[b,eo,dQ]) P Any ⟨_,_,_,rfl,p⟩;have A:=validB_true hP;rw[A] at hE;have q:∀w',Ext (w.alloc (.cells #[vo,vp,vc] 28)) w'->w'.cell? ⟨w.heap.size,0,none⟩=some b:=λw' h=>h.cell hc0 (by simp);have D:=Lib.hid q;clear q A;go_enter Tryz.func97,Tryz.ntmps97;go_wp2_with fail
 clear hc0 l m;generalize w.alloc (.cells #[vo,vp,vc] 28)=w0 at *;refine Calls.mono hE ?_;rintro H B ⟨v1,rfl,e,rfl⟩;clear hE;have E:=D.out B e;have j:∀i,i<P.orders.length->1<=gt P.orders i/\gt P.orders i<=7:=λi hi=>by have:=hP.ord7 i hi;omega
 have k:=l07Product_ok B b P.orders Any (p.o.ext e) j
 have a:capTo P.orders P.orders.length=ordP P:=by
  have h:=capTo_le P.orders.length (λi hi=>(j i hi).1);have F:=hP.le729;exact h.2 (h.1.2 F)
 rw[a] at k;have z:=Lib.hid k;clear k a j;go_wp2_with fail
 refine Calls.mono z.out ?_;rintro _ _ ⟨rfl,rfl⟩;go_wp2;go_ret2
 exact⟨_,rfl,grown_trans y e,rfl⟩
theorem size9_ok (P:Pr) (hr:rconsB P=true) (w:World) (pv:Value) (l:Nat->Prop) (i:PresV l w pv P) :
  Calls Tryz.prog 23 #[pv] w (Ret w λ_ v=>v=.int .i64 (ordP P)):=by
 have j:=Lib.hid hr;clear hr;obtain⟨vo,vp,vc,rfl,h3⟩:=i;have a:=PresP.box h3 28;have k:Ext w (w.alloc (.cells #[vo,vp,vc] 28)):=World.grownBy_alloc _ _ _;obtain⟨m,eo,dQ,_,_,hc0,b,e,ew⟩:=a.at;simp only[Nat.zero_add] at b e;clear a;go_enter Tryz.func23,Tryz.ntmps23;go_wp2_with fail
 clear hc0 b e;refine Calls.mono (sOrder_ok P j.out _ _ _ ⟨_,_,_,rfl,ew⟩) ?_;rintro p q ⟨v1,rfl,hg1,rfl⟩;go_wp2;go_ret;exact⟨_,rfl,grown_trans k hg1,rfl⟩
theorem own_lit0 {B H:Nat}{w:World}(hB:B<=w.heap.size) (hH:w.heap.size=H):Own B (w.alloc (.cells #[] 2)) (.slice (some ⟨H,0,none⟩) 0 0) []:=by
 subst hH;exact World.ownsRow_lit w #[] 0 hB (by decide) rfl
theorem areElements_ok (Q:Pr) (w:World) (p H:Value) (L:List (List Int)) (z k:Nat->Prop) (A:PresP z w p Q) (b:Rows2 k w H L) :
  Calls Tryz.prog 130 #[p,H] w (Ret w λ_ v=>∃r:Bool,v=.bool r/\(r=true↔rconsB Q=true/\∀x∈L,Vec Q.orders x)):=by
 obtain⟨pb,po,rfl⟩:=A.shape;obtain⟨R,capl,rfl,_,_⟩:=Sl.shape b;obtain⟨vo,vp,vc,_,_,hc0,hc1,hc2,h3⟩:=A.at;obtain⟨J,m,rfl,_,_⟩:=h3.o.shape;obtain⟨ap,capp,rfl,_,_⟩:=Sl.shape h3.p;obtain⟨K,capc,rfl,_,_⟩:=Sl.shape h3.c;have a:=isConsistent_ok Q w (.agg #[.slice J Q.orders.length m,.slice ap Q.powers.length capp,.slice K Q.conj.length capc]) z ⟨_,_,_,rfl,h3⟩;rw[icons_eq] at a;go_enter Tryz.func130,Tryz.ntmps130;go_wp2_with fail
 refine Calls.mono a ?_;rintro S U ⟨v,rfl,hg1,rfl⟩;clear a;cases hq:rconsB Q with
 | false=>
  have B:=Lib.hid hq;clear hq;go_wp2;go_ret;exact⟨_,rfl,hg1,false,rfl,by simp only[Bool.false_eq_true,false_iff];rintro⟨h,_⟩;rw[B.out] at h;cases h⟩
 | true =>
  have G:=grp_of_r hq;have M:=G.v.n6;have B:=Lib.hid hq;clear hq hc0 hc1 hc2;go_wp2;go_loopw [14] (λC wr=>∃j:Nat,C=.int .i64 j/\j<=L.length/\Ext w wr/\Hid (∀l,l<j->Vec Q.orders (gt L l))) (λC _=>L.length-(intOf C).toNat)
  case atStart=>exact⟨0,rfl,by omega,hg1,Lib.hid (λj h=>by omega)⟩
  case round=>
   obtain⟨j,rfl,hj,q,hV⟩:=hrel;by_cases u:j<L.length
   ·have I:(j:Int)<L.length:=by omega
    obtain⟨V,kO,a3,cap3,rfl,_,_,hc3,D⟩:=Rows2.at (Rows2.ext b q) j u;have hex:=isExponents_ok wr _ _ Q (gt L j) z k (A.ext q) D (λi hi=>by have:=G.v.ord7 i hi;omega);cases e:expB Q.orders (gt L j) with
    | true=>
     rw[e] at hex;have E:=Lib.hid (expB_vec.1 e);clear e;go_wp2_with fail
     refine Calls.mono hex ?_;rintro N O ⟨rfl,rfl⟩;clear hex;go_wp2;go_roundw
     case rel=>exact⟨j+1,by go_num,by omega,q,Lib.hid (λl b=>by
      rcases Nat.lt_succ_iff_lt_or_eq.1 b with h|h
      ·exact hV.out l h
      ·rw[h];exact E.out)⟩
     case measure=>simp[intOf];omega
    | false=>
     rw[e] at hex
     have y:¬ ∀x∈L,Vec Q.orders x:=λh=>by
      have:=expB_vec.2 (h _ (gtMem u));rw[e] at this;cases this
     have E:=Lib.hid y;clear e y;go_wp2_with fail
     refine Calls.mono hex ?_;rintro N O ⟨rfl,rfl⟩;clear hex;go_wp2;go_ret;exact⟨_,rfl,q,false,rfl,by simp only[Bool.false_eq_true,false_iff];rintro⟨_,h⟩;exact E.out h⟩
   ·have F:j=L.length:=by omega
    subst F;go_wp2;go_ret
    exact ⟨_,rfl,q,true,rfl,by
     simp only[true_iff];refine⟨B.out,λx hx => ?_⟩;obtain⟨l,b,rfl⟩:=List.getElem_of_mem hx;rw[<-gt_eq L l b];exact hV.out l b⟩
theorem rowsE2 {w:World}{v1 v2:Value}{a b:List Int}{j k:Nat->Prop}(h1:Ints j w v1 a) (l:Ints k w v2 b):Rows2 Any (w.alloc (.cells #[v1,v2] 24)) (.slice (some ⟨w.heap.size,0,none⟩) 2 2) [a,b]:=by
 have e:Ext w (w.alloc (.cells #[v1,v2] 24)):=World.grownBy_alloc _ _ _;refine⟨_,2,rfl,⟨by simp,by simp,λh=>by cases h⟩,λi hi => ?_⟩;have:i=0\/i=1:=by simp at hi;omega
 rcases this with rfl|rfl
 ·exact⟨w.heap.size,0,v1,rfl,trivial,by simp,by rw[World.cell?_alloc_at _ _ _ _ rfl];rfl,Ints.sub (Ints.ext h1 e) (λ_ _ _=>trivial)⟩
 ·exact⟨w.heap.size,0,v2,rfl,trivial,by simp,by rw[World.cell?_alloc_at _ _ _ _ rfl];rfl,Ints.sub (Ints.ext l e) (λ_ _ _=>trivial)⟩
theorem ord_quo {P:Pr}(G:Grp P) {U:List (List Int)} : ordP (quoP P U)=((ixN P U:Nat):Int):=by
 have a:∀i,gt P.orders i=((ordN' P i:Nat):Int):=λi=>by
  unfold ordN';by_cases hi:i<P.orders.length
  ·have:=G.v.ord7 i hi;omega
  ·rw[gt_big (by omega)];rfl
 have h1:=fr_sz (P:=P) (f:=λi=>gt P.orders i) a (frI P U).reverse;rw[List.reverse_reverse,List.length_reverse] at h1;unfold ordP;rw[quo_n];exact h1
section
variable {P:Pr}(G:Grp P)
include G
section
variable {U V:List (List Int)}(hr:rconsB P=true) (hU:SubB P U) (hn:NormP P (gU P U)) (hV:SubB P V)
include hU hV
include hr hn in
include hr hn in
omit hV
end
end
theorem ints_lit (w:World) (y:Int):Ints Any (w.alloc (.cells #[.int .i64 y] 2)) (.slice (some ⟨w.heap.size,0,none⟩) 1 1) [y]:=by
 refine⟨some ⟨w.heap.size,0,none⟩,1,rfl,⟨by simp,by simp,λh=>by cases h⟩,λi hi=>⟨w.heap.size,0,.int .i64 y,rfl,trivial,by simp,?_,?_⟩⟩
 ·have:i=0:=by simpa using hi
  subst this;rw[World.cell?_alloc_at _ _ _ _ rfl];rfl
 ·have:i=0:=by simpa using hi
  subst this;rfl
theorem abs_ok (a:Int) (w:World) (ha : -1000000<=a/\a<=1000000):Calls Tryz.prog 125 #[.int .i64 a] w λe w'=>e=.returned (.int .i64 (if a<0 then -a else a))/\w=w':=by
 have m:IntKind.i64.wrap (-a) = -a:=IntWalk.i64_in _ (by omega);go_enter Tryz.func125,Tryz.ntmps125;obtain⟨b,i⟩:∃b,b=(if a<0 then -a else a):=⟨_,rfl⟩;rw[<-i];by_cases l:a<0
 ·rw [if_pos l] at i
  have h1:¬ -a<=a:=by omega
  have j:max a (-a) = -a:=Int.max_eq_right (by omega);have k:=Lib.hid i;clear i;go_wp2;go_ret;exact⟨by rw[k.out];first|rfl|(show Ending.returned (.int .i64 (max a (-a)))=_;rw[j]),rfl⟩
 ·rw [if_neg l] at i
  have h1 : -a<=a:=by omega
  have j:max a (-a)=a:=Int.max_eq_left (by omega);have k:=Lib.hid i;clear i;go_wp2;go_ret;exact⟨by rw[k.out];first|rfl|(show Ending.returned (.int .i64 (max a (-a)))=_;rw[j]),rfl⟩
theorem normalWord_ok (w:World) (v:Value) (e:List Int) (S:Nat->Prop) (M:Ints S w v e) (hn:e.length<=6) (D:∀i,i<e.length->0<=gt e i/\gt e i<=7) :
  Calls Tryz.prog 227 #[v] w (Ret w λw' r=>Own w.heap.size w' r (nWord e e.length)):=by
 obtain⟨a,cap,rfl,_,_⟩:=M.shape
 have C:∀i,gt e i<=7:=λi=>by
  by_cases h:i<e.length
  ·exact(D i h).2
  ·rw[gt_big (by omega)];decide
 have N:=Lib.hid (And.intro C D);clear C D;go_enter Tryz.func227,Tryz.ntmps227;go_wp2;go_loopw [3,8] (λE F wr=>∃(i:Nat) (v3:Value),v3=E/\F=.int .i64 i/\i<=e.length/\Ext w wr/\Own w.heap.size wr v3 (nWord e i)) (λ_ F _=>e.length-(intOf F).toNat)
 case atStart=>exact⟨0,_,rfl,rfl,by omega,Ext.refl _,World.ownsRow_nil _ _ _ _⟩
 case round=>
  obtain⟨i,v3,rfl,rfl,hi,j,hO⟩:=hrel;by_cases p:i<e.length
  ·have O:(i:Int)<e.length:=by omega
   obtain⟨b,off,rfl,_,_,Q⟩:=Ints.at (M.ext j) i p;obtain⟨x,hx⟩:∃x,x=(gt e i).toNat:=⟨_,rfl⟩;have G:=N.out.2 i p;have q:gt e i=(x:Int):=by omega
   have X:x<=7:=by omega
   have u:nWord e (i+1)=nWord e i++List.replicate x ((i:Int)+1):=by rw[nWord,hx]
   have y:=nWord_len N.out.1 i;rw[q] at Q;have R:=Lib.hid (And.intro u y);clear u y G q hx;go_wp2;clear Q;have z:Own w.heap.size wr v3 (nWord e i++List.replicate 0 ((i:Int)+1)):=by simpa using hO
   clear hO;obtain⟨U,kg⟩:∃U:World,U=wr:=⟨_,rfl⟩;clear kg;go_loopw [3,14] (λE H wr=>∃(k:Nat) (v4:Value),v4=E/\H=.int .i64 k/\k<=x/\Ext w wr/\Own w.heap.size wr v4 (nWord e i++List.replicate k ((i:Int)+1))) (λ_ H _=>x-(intOf H).toNat)
   case atStart=>exact⟨0,_,rfl,rfl,by omega,j,z⟩
   case round=>
    clear z j;obtain⟨k,v4,rfl,rfl,hk,j,hO⟩:=hrel;by_cases V:k<x
    ·have I:(k:Int)<x:=by omega
     have l:(nWord e i++List.replicate k ((i:Int)+1)).length<=1000:=by rw[List.length_append,List.length_replicate];have:=R.out.2;omega
     have Y:=Lib.hid l;clear l;go_wp2_with (first|(at_builtin;refine wp_app_ints rfl _ _ rfl w.heap.size v4 _ rfl (hO.ext0 (World.grownBy_alloc _ _ _)) _ _ rfl Any (ints_lit wr _) (by have:=Y.out;simp only[List.length_cons,List.length_nil];omega) (by have:=j.size;simp;omega) ?_;intro v5 W A B _)|fail)
     have m:wr.grownBy W v4.ownBlock:=grown_trans (grown_of_ext _ (World.grownBy_alloc _ _ _)) B;have J:Ext w W:=grown_own j m (λb C p=>by have:=(hO.lt b C).1;omega);rw[List.append_assoc,<-List.replicate_succ'] at A;clear hO B m;go_roundw
     case rel=>exact⟨k+1,v5,rfl,by go_num,by omega,J,A⟩
     case measure=>simp[intOf];omega
    ·have K:k=x:=by omega
     subst K;rw[<-R.out.1] at hO;go_wp2;go_roundw
     case rel=>exact⟨i+1,v4,rfl,by go_num,by omega,j,hO⟩
     case measure=>simp[intOf];omega
  ·have L:i=e.length:=by omega
   subst L;go_wp2;go_ret;exact⟨_,rfl,j,hO⟩
end Go.Proofs.YtldheeicjnncoaaGreat
