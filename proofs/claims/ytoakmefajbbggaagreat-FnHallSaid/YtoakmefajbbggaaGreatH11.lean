/- Merged from templates. -/
import Derived.Test.YtoakmefajbbggaaGreatH10
import Derived.Lib.AppendZeros
set_option maxRecDepth 100000
set_option maxHeartbeats 8000000
namespace Go.Proofs.YtoakmefajbbggaaGreat
open Go.Proofs Go.Shelf Go.RowKit Go.Lib Go.Sort
theorem ext_grow {W w':World}(h:Ext W w') (r:W.drawn<=w'.drawn):∃q j,w'=grow (W.drewN q) j:=by
 refine⟨w'.drawn-W.drawn,w'.heap.extract W.heap.size w'.heap.size,?_⟩;obtain⟨h1,h2,h3,h4,h5⟩:=h
 have p:W.heap++w'.heap.extract W.heap.size w'.heap.size=w'.heap:=by
  apply Array.ext
  ·simp;omega
  ·intro i u k
   by_cases a:i<W.heap.size
   ·rw [Array.getElem_append_left a]
    have:=h5 i a (by simp);rw[Array.getElem?_eq_getElem k,Array.getElem?_eq_getElem a] at this;exact(Option.some.inj this).symm
   ·rw [Array.getElem_append_right (by omega)]
    simp only[Array.getElem_extract];congr 1;omega
 cases w' with
 | mk heap tape drawn os output=>
  cases W with
  | mk l m e w b=>
   simp only at h1 h2 h3 p r;subst h1;subst h2;subst h3;unfold grow World.drewN;simp only[World.mk.injEq];exact⟨p.symm,trivial,by omega,trivial,trivial⟩
section
variable {α:Type} [Inhabited α]
theorem swo_at {a:α->α->Int}(h:SWO (ltOf a)) (L:List α):SWO (ltOf (λi j:Nat=>a (gt L i) (gt L j))) where
 irrefl x:=h.irrefl (gt L x)
 trans x y z:=h.trans (gt L x) (gt L y) (gt L z)
 ntrans x y z:=h.ntrans (gt L x) (gt L y) (gt L z)
theorem sortG {P:Program}{ρ : Ren}(aa:SlLaysF.n6 P ρ) {El:(Nat->Prop)->World->Value->α->Prop}(J:RdOk El) (E B:Nat) (R:α->α->Int) (hS:SWO (ltOf R)) (g:Nat) (Z:Array Value)
  (eg:∀args w,(callFunc g args).run P w=.ok (.enter g args) w) (w:World) (v:Value) (L:List α) (A:Nat->Prop) (hL:SlOA El E B A w v L) (av:0<L.length) (ap:L.length<=1000000)
  (T:∀W,El (λ_=>True) W (.slice none 0 0) default)
  (U:∀(W:World) (u1 u2:Value) (x y:α),w.grownBy W v.ownBlock->(x∈L\/x=default)->(y∈L\/y=default)->El (λ_=>True) W u1 x->El (λ_=>True) W u2 y ->
   Calls P g (#[u1,u2]++Z) W λe w'=>e=.returned (.int .i64 (R x y))/\Ext W w'/\W.drawn<=w'.drawn) :
  Calls P (ρ.f 6) #[v,.func (.func g) #[] Z] w λe w'=>e=.returned (.tuple #[])/\∃L',SlOA El E B A w' v L'/\L'.Perm L/\L'.Pairwise (λx y=>0<=R y x)/\w.grownBy w' v.ownBlock:=by
 obtain⟨p,G,q,hO,hG,hd,hE,hav,hav2⟩:=hL;obtain⟨_,⟨rfl,h0⟩|⟨gb,cap,cur,rfl,hBg,hb,hnc,hcm,hsz,hx⟩⟩:=hO
 ·omega
 have af:gb<w.heap.size:=(Array.getElem?_eq_some_iff.1 hb).1;have V:OneCell (encAt p):=encAt_one λi C=>J.one (hE i (by omega))
 have X:(List.range L.length).map (encAt p)=p:=by
  apply List.ext_getElem (by simp[q]);intro j h1 S;simp[encAt,gt,S]
 have hH:Go.Sort.Holds (encAt p) w gb 0 (List.range L.length).toArray:=holds_of_blockV hb (by rw[X,List.length_range,<-q];simpa using hx)
 have K:CmpLays1 P g Z (encAt p) (λi j:Nat=>R (gt L i) (gt L j)) gb 0 (List.range L.length).toArray.size w:=by
  intro m os dk _ x y;have u:w.grownBy (sortWorld (encAt p) w gb 0 m dk os) (some gb):=grownBy_sortedV dk
  have r:∀k,El (λ_=>True) (sortWorld (encAt p) w gb 0 m dk os) (encAt p k) (gt L k)/\(gt L k∈L\/gt L k=default):=by
   intro k;by_cases hk:k<p.length
   ·have M:=hE k (by omega)
    unfold encAt;rw[if_pos hk];exact⟨J.mono M (λb F D=>⟨trivial,Nat.lt_of_lt_of_le D u.size,u.block b D (λe=>(hG k b (by omega) F).2.1 (by cases e;rfl))⟩),.inl (gt_mem (by omega))⟩
   ·have h1:gt L k=default:=by simp[gt,show ¬k<L.length by omega]
    unfold encAt;rw[if_neg hk,h1];exact⟨T _,.inr rfl⟩
  refine(U _ _ _ _ _ u (r x).2 (r y).2 (r x).1 (r y).1).mono ?_;rintro e w' ⟨rfl,M,hdr⟩;exact⟨rfl,ext_grow M hdr⟩
 have H:=Any.slices_SortFunc aa (encAt p) V (λi j:Nat=>R (gt L i) (gt L j)) (swo_at hS L) g Z gb 0 cap (List.range L.length).toArray w eg K hH af (by simp;omega);have I:(List.range L.length).toArray.size=p.length:=by simp[q]
 rw[I] at H;refine H.mono ?_;rintro e w' ⟨M,a,n,os,⟨Y,_,hperm⟩,hsorted,rfl⟩;have N:a.toList.length=L.length:=by simpa [q] using Y
 have hP:a.toList.Perm (List.range L.length):=by
  have h1:a.extract 0 p.length=a:=by
   apply Array.ext';rw[q,<-N];simp
  have S:(List.range L.length).toArray.extract 0 p.length=(List.range L.length).toArray:=by
   apply Array.ext';rw[q];simp
  rw[h1,S] at hperm;simpa using hperm
 have z:∀i,i<L.length->gt a.toList i<L.length:=λi C=>by
  have:=hP.subset (gt_mem (l:=a.toList) (i:=i) (by omega));simpa using this
 have ah:a.toList.Nodup:=hP.symm.nodup List.nodup_range
 have O:(List.range L.length).map (gt L)=L:=by
  apply List.ext_getElem (by simp);intro j h1 S;simp[gt,S]
 have u:w.grownBy (sortWorld (encAt p) w gb 0 n a os) (some gb):=grownBy_sortedV a
 have ai:∀i,i<L.length->gt (a.toList.map (encAt p)) i=gt p (gt a.toList i):=λi C=>by
  have h1:gt (a.toList.map (encAt p)) i=encAt p (gt a.toList i):=gt_map _ _ _ (by omega);rw[h1];unfold encAt;rw[if_pos (by rw[q];exact z i C)]
 have aj:∀i,i<L.length->gt (a.toList.map (gt L)) i=gt L (gt a.toList i):=λi C=>gt_map _ _ _ (by omega);refine⟨M,a.toList.map (gt L),⟨a.toList.map (encAt p),λi k=>G (gt a.toList i) k,by simp,?_,?_,?_,?_,λi k C hk=>hav (gt a.toList i) k (z i (by simp only[List.length_map] at C;omega)) hk,hav2⟩,?_,?_,u⟩
 ·have:=ownsRow_sortedV (enc:=encAt p) (n:=n) (os:=os) (ss:=List.range L.length) (ts:=a.toList) (by rw[N,List.length_range]) hBg hb (by rw[List.length_range,<-q];exact hnc) hcm hsz
  rw[List.length_range,<-q] at this;unfold OwnV;rw[show(a.toList.map (encAt p)).length=p.length by rw[List.length_map,N,q]];simpa using this
 ·intro i k C hk
  obtain⟨a1,a2,a3⟩:=hG _ k (z i (by simp only[List.length_map] at C;omega)) hk;exact⟨a1,a2,Nat.lt_of_lt_of_le a3 u.size⟩
 ·intro i j k C hj hk al
  simp only[List.length_map] at C hj;exact gt_inj ah (by omega) (by omega) (hd _ _ k (z i (by omega)) (z j (by omega)) hk al)
 ·intro i C
  simp only[List.length_map] at C;rw[ai i (by omega),aj i (by omega)];have M:=hE _ (z i (by omega));exact J.mono M (λb F D=>⟨F,Nat.lt_of_lt_of_le D u.size,u.block b D (λe=>(hG _ b (z i (by omega)) F).2.1 (by cases e;rfl))⟩)
 ·have:=hP.map (gt L)
  rwa [O] at this
 ·refine List.pairwise_iff_getElem.2 ?_
  intro i j C hj am;have an:i<a.size:=by simpa using C
  have Q:j<a.size:=by simpa using hj
  have h1:=hsorted i j (Nat.zero_le _) am (by rw[Y,I] at Q;exact Q);rw[getElem!_pos a i an,getElem!_pos a j Q] at h1;unfold ltOf at h1;rw[decide_eq_false_iff_not] at h1;simp only[List.getElem_map,Array.getElem_toList];have S:¬R (gt L a[j]) (gt L a[i])<0:=h1;omega
end
def Tryz.sortRows3_ren : Go.Shelf.Ren := ⟨fun | 6 => 139 | 15 => 199 | 14 => 198 | 28 => 247 | 29 => 248 | 20 => 239 | 21 => 240 | 22 => 241 | 23 => 242 | 24 => 243 | 25 => 244 | 26 => 245 | 27 => 246 | 46 => 279 | 47 => 280 | 48 => 281 | 49 => 282 | 50 => 283 | 57 => 296 | n => n, fun | 22 => 26 | 24 => 25 | 25 => 156 | 3 => 3 | 39 => 90 | 0 => 0 | 53 => 239 | 55 => 40 | 4 => 4 | 46 => 232 | 45 => 231 | 50 => 236 | 5 => 5 | 9 => 9 | 66 => 261 | 70 => 265 | 76 => 274 | 77 => 275 | n => n, fun | n => n⟩
theorem Tryz.sortRows3 : Go.Proofs.SlLaysF.n6 Tryz.prog Tryz.sortRows3_ren := {
  mixed := by kernel_rfl
  f6 := ⟨Tryz.f139.name, by decide, Tryz.func139.trans (congrArg some (by kernel_rfl))⟩
  f14 := ⟨Tryz.f198.name, by decide, Tryz.func198.trans (congrArg some (by kernel_rfl))⟩
  f15 := Tryz.func199.trans (congrArg some (by kernel_rfl))
  f20 := ⟨Tryz.f239.name, by decide, Tryz.func239.trans (congrArg some (by kernel_rfl))⟩
  f21 := ⟨Tryz.f240.name, by decide, Tryz.func240.trans (congrArg some (by kernel_rfl))⟩
  f22 := ⟨Tryz.f241.name, by decide, Tryz.func241.trans (congrArg some (by kernel_rfl))⟩
  f23 := ⟨Tryz.f242.name, by decide, Tryz.func242.trans (congrArg some (by kernel_rfl))⟩
  f24 := ⟨Tryz.f243.name, by decide, Tryz.func243.trans (congrArg some (by kernel_rfl))⟩
  f25 := ⟨Tryz.f244.name, by decide, Tryz.func244.trans (congrArg some (by kernel_rfl))⟩
  f26 := ⟨Tryz.f245.name, by decide, Tryz.func245.trans (congrArg some (by kernel_rfl))⟩
  f27 := ⟨Tryz.f246.name, by decide, Tryz.func246.trans (congrArg some (by kernel_rfl))⟩
  f28 := Tryz.func247.trans (congrArg some (by kernel_rfl))
  f29 := Tryz.func248.trans (congrArg some (by kernel_rfl))
  f46 := ⟨Tryz.f279.name, by decide, Tryz.func279.trans (congrArg some (by kernel_rfl))⟩
  f47 := Tryz.func280.trans (congrArg some (by kernel_rfl))
  f48 := Tryz.func281.trans (congrArg some (by kernel_rfl))
  f49 := ⟨Tryz.f282.name, by decide, Tryz.func282.trans (congrArg some (by kernel_rfl))⟩
  f50 := ⟨Tryz.f283.name, by decide, Tryz.func283.trans (congrArg some (by kernel_rfl))⟩
  f57 := ⟨Tryz.f296.name, by decide, Tryz.func296.trans (congrArg some (by kernel_rfl))⟩
  t0 := Tryz.underlying0
  a0 := Tryz.isAgg0
  z0 := Tryz.sizeOf0
  v0 := Tryz.zeroValue0
  t3 := Tryz.underlying3
  a3 := Tryz.isAgg3
  z3 := Tryz.sizeOf3
  v3 := Tryz.zeroValue3
  t4 := Tryz.underlying4
  a4 := Tryz.isAgg4
  z4 := Tryz.sizeOf4
  v4 := Tryz.zeroValue4
  t5 := Tryz.underlying5
  a5 := Tryz.isAgg5
  z5 := Tryz.sizeOf5
  v5 := Tryz.zeroValue5
  t9 := Tryz.underlying9
  a9 := Tryz.isAgg9
  z9 := Tryz.sizeOf9
  v9 := Tryz.zeroValue9
  t22 := Tryz.underlying26
  a22 := Tryz.isAgg26
  z22 := Tryz.sizeOf26
  v22 := Tryz.zeroValue26
  a24 := Tryz.isAgg25
  z24 := Tryz.sizeOf25
  t25 := Tryz.underlying156
  a25 := Tryz.isAgg156
  z25 := Tryz.sizeOf156
  v25 := Tryz.zeroValue156
  t39 := Tryz.underlying90
  a39 := Tryz.isAgg90
  z39 := Tryz.sizeOf90
  v39 := Tryz.zeroValue90
  t45 := Tryz.underlying231
  a45 := Tryz.isAgg231
  z45 := Tryz.sizeOf231
  v45 := Tryz.zeroValue231
  t46 := Tryz.underlying232
  a46 := Tryz.isAgg232
  z46 := Tryz.sizeOf232
  v46 := Tryz.zeroValue232
  t50 := Tryz.underlying236
  a50 := Tryz.isAgg236
  z50 := Tryz.sizeOf236
  v50 := Tryz.zeroValue236
  t53 := Tryz.underlying239
  a53 := Tryz.isAgg239
  z53 := Tryz.sizeOf239
  v53 := Tryz.zeroValue239
  t55 := Tryz.underlying40
  a55 := Tryz.isAgg40
  z55 := Tryz.sizeOf40
  v55 := Tryz.zeroValue40
  t66 := Tryz.underlying261
  a66 := Tryz.isAgg261
  z66 := Tryz.sizeOf261
  v66 := Tryz.zeroValue261
  t70 := Tryz.underlying265
  a70 := Tryz.isAgg265
  z70 := Tryz.sizeOf265
  v70 := Tryz.zeroValue265
  t76 := Tryz.underlying274
  a76 := Tryz.isAgg274
  z76 := Tryz.sizeOf274
  v76 := Tryz.zeroValue274
  t77 := Tryz.underlying275
  a77 := Tryz.isAgg275
  z77 := Tryz.sizeOf275
  v77 := Tryz.zeroValue275 }
theorem seqOk_nil (P:Pr):SeqOk P []:=⟨by simp,by simp⟩
end Go.Proofs.YtoakmefajbbggaaGreat
namespace Go.Proofs.YtoakmefajbbggaaGreat
open Go.RowKit
theorem areElements_ok (Q:Pr) (w:World) (p H:Value) (L:List (List Int)) (z k:Nat->Prop) (A:PresP z w p Q) (b:Rows2 k w H L) :
  Calls Tryz.prog 62 #[p,H] w (Ret w λ_ v=>∃r:Bool,v=.bool r/\(r=true↔rconsB Q=true/\∀x∈L,Vec Q.orders x)):=by
 obtain⟨pb,po,rfl⟩:=A.shape;obtain⟨S,capl,rfl,_,_⟩:=Sl.shape b;obtain⟨vo,vp,vc,_,_,hc0,hc1,hc2,h3⟩:=A.at;obtain⟨J,m,rfl,_,_⟩:=h3.o.shape;obtain⟨ap,capp,rfl,_,_⟩:=Sl.shape h3.p;obtain⟨K,capc,rfl,_,_⟩:=Sl.shape h3.c;have a:=isConsistent_ok Q w (.agg #[.slice J Q.orders.length m,.slice ap Q.powers.length capp,.slice K Q.conj.length capc]) z ⟨_,_,_,rfl,h3⟩;rw[icons_eq] at a;go_enter Tryz.func62,Tryz.ntmps62;go_wp2_with fail
 refine Calls.mono a ?_;rintro T U ⟨v,rfl,hg1,rfl⟩;clear a;cases hq:rconsB Q with
 | false=>
  have B:=Lib.hid hq;clear hq;go_wp2;go_ret;exact⟨_,rfl,hg1,false,rfl,by simp only[Bool.false_eq_true,false_iff];rintro⟨h,_⟩;rw[B.out] at h;cases h⟩
 | true =>
  have G:=grp_of_r hq;have M:=G.v.n6;have B:=Lib.hid hq;clear hq hc0 hc1 hc2;go_wp2;go_loopw [14] (λC wr=>∃j:Nat,C=.int .i64 j/\j<=L.length/\Ext w wr/\Hid (∀l,l<j->Vec Q.orders (gt L l))) (λC _=>L.length-(intOf C).toNat)
  case atStart=>exact⟨0,rfl,by omega,hg1,Lib.hid (λj h=>by omega)⟩
  case round=>
   obtain⟨j,rfl,hj,q,hV⟩:=hrel;by_cases u:j<L.length
   ·have I:(j:Int)<L.length:=by omega
    obtain⟨V,off3,a3,cap3,rfl,_,_,hc3,D⟩:=Rows2.at (Rows2.ext b q) j u;have hex:=isExponents_ok wr _ _ Q (gt L j) z k (A.ext q) D (λi N=>by have:=G.v.ord7 i N;omega);cases e:expB Q.orders (gt L j) with
    | true=>
     rw[e] at hex;have E:=Lib.hid (expB_vec.1 e);clear e;go_wp2_with fail
     refine Calls.mono hex ?_;rintro O R ⟨rfl,rfl⟩;clear hex;go_wp2;go_roundw
     case rel=>exact⟨j+1,by go_num,by omega,q,Lib.hid (λl b=>by
      rcases Nat.lt_succ_iff_lt_or_eq.1 b with h|h
      ·exact hV.out l h
      ·rw[h];exact E.out)⟩
     case measure=>simp[intOf];omega
    | false=>
     rw[e] at hex
     have y:¬ ∀x∈L,Vec Q.orders x:=λh=>by
      have:=expB_vec.2 (h _ (gtMem u));rw[e] at this;cases this
     have E:=Lib.hid y;clear e y;go_wp2_with fail
     refine Calls.mono hex ?_;rintro O R ⟨rfl,rfl⟩;clear hex;go_wp2;go_ret;exact⟨_,rfl,q,false,rfl,by simp only[Bool.false_eq_true,false_iff];rintro⟨_,h⟩;exact E.out h⟩
   ·have F:j=L.length:=by omega
    subst F;go_wp2;go_ret
    exact ⟨_,rfl,q,true,rfl,by
     simp only[true_iff];refine⟨B.out,λx hx => ?_⟩;obtain⟨l,b,rfl⟩:=List.getElem_of_mem hx;rw[<-gt_eq L l b];exact hV.out l b⟩
theorem rowsE1 {w:World}{v:Value}{l:List Int}{S:Nat->Prop}(h:Ints S w v l):Rows2 Any (w.alloc (.cells #[v] 24)) (.slice (some ⟨w.heap.size,0,none⟩) 1 1) [l]:=by
 have a:Ext w (w.alloc (.cells #[v] 24)):=World.grownBy_alloc _ _ _;refine⟨_,1,rfl,⟨by simp,by simp,λh=>by cases h⟩,λi b => ?_⟩;obtain rfl:i=0:=by simp at b;omega
 exact⟨w.heap.size,0,v,rfl,trivial,by simp,by rw[World.cell?_alloc_at _ _ _ _ rfl];rfl,Ints.sub (Ints.ext h a) (λ_ _ _=>trivial)⟩
section
variable {P:Pr}(G:Grp P)
include G
theorem Grp.lat_ins {L:List (List (List Int))}(b:L.Pairwise (subLt P)) (j:∀v∈L,SubB P v) {a:List (List Int)}(ha:SubB P a):∃i:List (List (List Int)),i.Pairwise (subLt P)/\∀u,u∈i↔(u=a\/u∈L):=by
 classical
 refine⟨L.filter (λv=>decide (subLt P v a))++a :: L.filter (λv=>decide (subLt P a v)),?_,?_⟩
 ·rw [List.pairwise_append]
  refine⟨b.filter _,?_,?_⟩
  ·rw [List.pairwise_cons]
   exact⟨λv l=>by simpa using (List.mem_filter.1 l).2,b.filter _⟩
  ·intro x hx y hy
   have h1:subLt P x a:=by simpa using (List.mem_filter.1 hx).2
   rcases List.mem_cons.1 hy with rfl|hy
   ·exact h1
   ·exact subLt_trans h1 (by simpa using (List.mem_filter.1 hy).2)
 ·intro u
  simp only[List.mem_append,List.mem_cons,List.mem_filter,decide_eq_true_eq];constructor
  ·rintro (⟨h,_⟩|h|⟨h,_⟩)
   ·exact .inr h
   ·exact .inl h
   ·exact .inr h
  ·rintro (h|h)
   ·exact .inr (.inl h)
   ·by_cases e:u=a
    ·exact .inr (.inl e)
    ·by_cases k:subLt P u a
     ·exact .inl ⟨h,k⟩
     ·exact .inr (.inr ⟨h,subLt_total G (j u h) ha e k⟩)
end
end Go.Proofs.YtoakmefajbbggaaGreat
namespace Go.Proofs.YtoakmefajbbggaaGreat
section
variable {P:Pr}(G:Grp P)
noncomputable def rstN (U:List (List Int)) (pr:List Int) (k:Nat):Nat:=prd P (λd=>pvU G U d/\¬gt P.orders d∈pr.take k) P.orders.length 0
theorem rst_bd (U:List (List Int)) (pr:List Int) (k:Nat):1<=rstN G U pr k/\rstN G U pr k<=729:=prd_729 G _
theorem rst_zero {U:List (List Int)}(a:SubB P U) (pr:List Int):prodU P U U.length=((rstN G U pr 0:Nat):Int):=by
 rw[ordU G a,Int.natCast_inj];exact prd_congr _ _ (λk _ _=>by simp)
theorem rst_step {U:List (List Int)}{pr:List Int}{k p:Nat}(hk:k<pr.length) (j:gt pr k=(p:Int)) (a:p=2\/p=3\/p=5\/p=7):rstN G U pr k=prt p (rstN G U pr k)*rstN G U pr (k+1):=by
 have h1:prt p (rstN G U pr k)=prd P (λd=>(pvU G U d/\¬gt P.orders d∈pr.take k)/\gt P.orders d=(p:Int)) P.orders.length 0:=prt_prd G _ a _ _ (Nat.zero_add _);rw[h1]
 have b:∀d,gt P.orders d∈pr.take (k+1)↔gt P.orders d∈pr.take k\/gt P.orders d=(p:Int):=λd=>by
  rw[take_succ_gt _ k hk,List.mem_append,List.mem_singleton,j]
 show rstN G U pr k=_*prd P (λd=>pvU G U d/\¬gt P.orders d∈pr.take (k+1)) P.orders.length 0
 rw[prd_mul _ _ (λd _ _ h1 l=>l.2 ((b d).2 (.inr h1.2)))];refine prd_congr _ _ (λd _ _=>⟨λh => ?_,λh => ?_⟩)
 ·by_cases e:gt P.orders d=(p:Int)
  ·exact .inl ⟨h,e⟩
  ·exact .inr ⟨h.1,λi=>((b d).1 i).elim h.2 e⟩
 ·rcases h with h|h
  ·exact h.1
  ·exact⟨h.1,λi=>h.2 ((b d).2 (.inl i))⟩
theorem prd_no {Q:Nat->Prop} : ∀f d,(∀k,d<=k->k<d+f->¬Q k)->prd P Q f d=1
 | 0,d,_=>rfl
 | f+1,d,h=>by
  rw[prd,if_neg (h d (Nat.le_refl _) (by omega)),prd_no f (d+1) (λk a b=>h k (by omega) (by omega))]
theorem rst_end {U:List (List Int)}(pr:List Int):rstN G U pr pr.length=1↔∀d,pvU G U d->gt P.orders d∈pr:=by
 unfold rstN;rw[List.take_length];constructor
 ·intro h d a
  refine Classical.byContradiction λb => ?_;exact prd_one G _ _ (Nat.zero_add _) h d (Nat.zero_le _) a.1 ⟨a,b⟩
 ·intro h
  exact prd_no _ _ (λk _ _ hk=>hk.2 (h k hk.1))
theorem hall_in {U:List (List Int)}(j:SubB P U) {pr:List Int}{L:List (List (List Int))}(q:HallL P pr L):(∃i,i<L.length/\∀x∈U,gP P (gt L i) x)↔rstN G U pr pr.length=1:=by
 rw[rst_end G pr];constructor
 ·rintro ⟨i,l,h⟩ d m
  have hH:=(q.2 _).1 (gtMem l);have h1:=(hall_iff G hH.1 pr).1 hH.2;have r:pvU G (gt L i) d:=pv_mono (λx hx=>genP_le (G.subB hH.1) h hx) m;exact((h1 d).1 r).2
 ·intro h
  have m:=(pi_iff G j pr).2 h;obtain⟨A,SA,u,hle⟩:=hall_over G pr j m;have a:=ofE_sub SA;have hB:=G.subB_cseq a
  have b:prodU P (cseq P (ofE A)) (cseq P (ofE A)).length=hallO P pr:=by
   rw[order_cd (G:=G) a,toE_ofE,cd_eq SA,hallO_eq G,Int.natCast_inj];exact prd_congr _ _ (λk _ hk=>(u k).trans ⟨λp=>p.2,λp=>⟨by omega,p⟩⟩)
  obtain⟨i,l,e⟩:=mem_gt ((q.2 _).2 ⟨hB,b⟩);refine⟨i,l,λx hx => ?_⟩;rw[e,show gP P (cseq P (ofE A))=ofE A from G.genP_cseq a];exact⟨j.1 x hx,hle ⟨x,j.1 x hx⟩ (genP_mem hx)⟩
include G in
theorem hall_sj (j:rconsB P=true) {pr:List Int}{u v:List (List Int)}(a:HallP P pr u) (b:HallP P pr v):sjC P u v=0:=by
 have l:twoOk P u v:=⟨j,a.1,b.1⟩;obtain⟨r,i⟩:=FstI_ex (mvQ P u v) (ordP P).toNat;rcases i with⟨k,rfl,hk⟩|⟨rfl,hm⟩
 ·exact(sj_yes l (.inl ⟨k,rfl,hk⟩)).1
 ·exfalso
  obtain⟨x,hx,e⟩:=hall_conj G a b;obtain⟨h1,m⟩:=G.num_lt hx;refine hm _ h1 ⟨by rw[a.2,b.2],λy hy => ?_⟩;rw[m,e,show gU P (cjU P u x)=cjS P (gP P u) x from G.gP_cjU a.1 hx];exact⟨y,genP_mem hy,rfl⟩
end
structure HlF (P:Pr) (pr:List Int) (L:List (List (List Int))):Prop where
 r:rconsB P=true
 s:PrSet pr
 l:hlL P pr=L
 h:HallL P pr L
 pos:0<L.length
 le:L.length<=729
 o:ordP P<=128
 c:hcC P pr=0
 len:pr.length<=6
 p:∀k,k<pr.length->∃p:Nat,gt pr k=(p:Int)/\(p=2\/p=3\/p=5\/p=7)
theorem sub_sorted {P:Pr}(G:Grp P):∀M:List (List (List Int)),(∀u∈M,SubB P u)->∃L:List (List (List Int)),L.Pairwise (subLt P)/\∀u,u∈L↔u∈M
 | [],_=>⟨[],List.Pairwise.nil,λ_=>Iff.rfl⟩
 | a :: M,h=>by
  obtain⟨L,h1,b⟩:=sub_sorted G M (λu e=>h u (List.mem_cons_of_mem _ e));obtain⟨i,k1,j⟩:=G.lat_ins h1 (λv k=>h v (List.mem_cons_of_mem _ ((b v).1 k))) (h a (List.mem_cons_self ..));exact⟨i,k1,λu=>by rw[j,b,List.mem_cons]⟩
theorem hall_list {P:Pr}(G:Grp P) (pr:List Int):∃L,HallL P pr L:=by
 obtain⟨u,b⟩:=hall_some G pr
 obtain ⟨L,h1,i⟩:=sub_sorted G ((List.range (ordP P).toNat).map (λj:Nat=>cjU P u (elAt P (j:Int)))) (λv k=>by
  obtain⟨j,a,rfl⟩:=List.mem_map.1 k;exact(hall_cjU G b (G.elAtV (List.mem_range.1 a))).1)
 refine⟨L,h1,λv => ?_⟩;rw[i,hall_all G b,List.mem_map];exact⟨λ⟨j,a,e⟩=>⟨j,List.mem_range.1 a,e.symm⟩,λ⟨j,a,e⟩=>⟨j,List.mem_range.2 a,e.symm⟩⟩
theorem prset_len {pr:List Int}(h:PrSet pr):pr.length<=6:=by
 have key:∀i,i<pr.length->(i:Int)+2<=gt pr i:=by
  intro i;induction i with
  | zero=>
   intro a;have h1:=(h 0 a).1;unfold primeB at h1;have b:=of_decide_eq_true h1;omega
  | succ i j=>
   intro a;have h1:=j (by omega);have b:=(h (i+1) a).2 (by omega);rw[Nat.add_sub_cancel] at b;omega
 refine Classical.byContradiction λk => ?_;have h1:=key 6 (by omega);have e:=(h 6 (by omega)).1;unfold primeB at e;have l:=of_decide_eq_true e;omega
theorem hl_facts {P:Pr}{pr:List Int}(h:hcC P pr=0):∃L,HlF P pr L:=by
 obtain⟨b,a,ho⟩:=hc_zero h;have G:=grp_of_r b;obtain⟨L,hL⟩:=hall_list G pr;refine⟨L,b,a,hl_ok h hL,hL,hL.pos G,hL.len G,ho,h,prset_len a,λk hk => ?_⟩;have h1:=(a k hk).1;unfold primeB at h1;have e:=of_decide_eq_true h1;refine⟨(gt pr k).toNat,by omega,by omega⟩
theorem hl_one {P:Pr}{pr:List Int}{L:List (List (List Int))}(h:HlF P pr L) (h1:pr.length=1):∃q:Nat,gt pr 0=(q:Int)/\2<=q/\syN P (q:Int)=((L.length:Nat):Int)/\syC P (q:Int)=0/\((L.length:Nat):Int)%(q:Int)=1/\((L.length:Nat):Int).tmod (q:Int)=1/\(ordP P)%((L.length:Nat):Int)=0/\(ordP P).tmod ((L.length:Nat):Int)=0:=by
 obtain⟨q,j,hqq⟩:=h.p 0 (by omega)
 have y:pr=[(q:Int)]:=by
  cases pr with
  | nil=>simp at h1
  | cons a l=>
   have e:l=[]:=List.eq_nil_of_length_eq_zero (by simpa using h1);subst e;have:a=(q:Int):=by simpa [gt] using j
   rw[this]
 have m:=h.h;have e:=h.l;have u:=h.c;rw[y] at m e u;have G:=grp_of_r h.r;obtain⟨⟨k,hk⟩,hd⟩:=hall_count G (q:=(q:Int)) (by omega) m;rw[Int.toNat_natCast] at hk
 have w:((L.length:Nat):Int)%(q:Int)=1:=by
  rw[<-Int.natCast_emod,hk,Nat.add_mul_mod_self_left,Nat.mod_eq_of_lt (by omega)];rfl
 have i:((L.length:Nat):Int).tmod (q:Int)=1:=by rw[Int.tmod_eq_emod_of_nonneg (by omega)];exact w
 have b:(ordP P)%((L.length:Nat):Int)=0:=Int.emod_eq_zero_of_dvd hd;have z:=G.v.ordP_pos;refine⟨q,j,by omega,?_,u,w,i,b,by rw[Int.tmod_eq_emod_of_nonneg (by omega)];exact b⟩;unfold syN;rw[e]
end Go.Proofs.YtoakmefajbbggaaGreat
namespace Go.Proofs.YtoakmefajbbggaaGreat
open Go.Proofs Go.Shelf Go.RowKit Go.Lib
end Go.Proofs.YtoakmefajbbggaaGreat
namespace Go.Proofs.YtoakmefajbbggaaGreat
open Go.RowKit
theorem iOrder_ok (P:Pr) (r:rconsB P=true) (w:World) (pv F:Value) (U:List (List Int)) (K H:Nat->Prop) (y:PresV K w pv P) (k:Rows2 H w F U) (z:SubB P U) :
  Calls Tryz.prog 28 #[pv,F] w (Ret w λ_ v=>v=.tuple #[.int .i64 (prodU P U U.length),.int .i64 0]):=by
 have G:=grp_of_r r;have L:=G.v.n6;obtain⟨vo,vp,vc,rfl,h3⟩:=y;have l:=PresP.box h3 28;have m:Ext w (w.alloc (.cells #[vo,vp,vc] 28)):=World.grownBy_alloc _ _ _;have i:(w.alloc (.cells #[vo,vp,vc] 28)).heap.size=w.heap.size+1:=by simp
 have p:=Rows2.ext k m;obtain⟨M,q,rfl,_,_⟩:=Sl.shape k;have j:Ext (w.alloc (.cells #[vo,vp,vc] 28)) ((w.alloc (.cells #[vo,vp,vc] 28)).alloc (.cells #[.slice M U.length q] 25)):=World.grownBy_alloc _ _ _;have I:=rows3One p;have a:=areSubgroups_ok P _ _ _ [U] Any Any (l.ext j) I;rw[i] at a;clear I k;have J:U.length<=P.orders.length:=G.sub_len z;have A:=Lib.hid (And.intro r (And.intro z ((trivial:True))));clear r z;go_enter Tryz.func28,Tryz.ntmps28;go_wp2_with fail
 refine Calls.mono a ?_;rintro Q N ⟨v1,rfl,hgA,r1,rfl,hr1⟩;clear a;obtain rfl:r1=true:=hr1.2 (by have:=A.out;simp only[List.mem_cons,List.mem_nil_iff,or_false];exact⟨this.1,λu k=>by subst k;exact this.2.1⟩);clear hr1;have b:=grown_trans j hgA;have R:=Lib.hid i;clear i;generalize B:(w.alloc (.cells #[vo,vp,vc] 28))=w0 at *;clear B j hgA;have C:=l.ext b;have D:=Rows2.ext p b;have e:=G.seq_facts (G.subB A.out.2.1);rw[<-A.out.2.1.2] at e;have O:=Lib.hid e;clear e;go_wp2_with fail
 refine Calls.mono (sizeOf_ok P G.v N _ _ U Any H C D O.out.1 (by omega)) ?_;rintro S T ⟨V,rfl,E,rfl⟩;go_wp2;go_ret2
 exact⟨_,rfl,grown_trans m (grown_trans b E),rfl⟩
theorem iIsHall_ok (P:Pr) (E:rconsB P=true) (w:World) (pv O v:Value) (U:List (List Int)) (pr:List Int) (V Q S:Nat->Prop) (F:PresV V w pv P) (p:Rows2 Q w O U) (H:Ints S w v pr) (I:HallP P pr U) (q:PrSet pr) :
  Calls Tryz.prog 42 #[pv,O,v] w (Ret w λ_ v=>v=.tuple #[.bool true,.int .i64 0]):=by
 have G:=grp_of_r E;have W:=G.v.n6;obtain⟨vo,vp,vc,rfl,h3⟩:=F;have r:=PresP.box h3 28;have j:Ext w (w.alloc (.cells #[vo,vp,vc] 28)):=World.grownBy_alloc _ _ _;have k:(w.alloc (.cells #[vo,vp,vc] 28)).heap.size=w.heap.size+1:=by simp
 have y:=Rows2.ext p j;have J:=Ints.ext H j;obtain⟨X,z,rfl,_,_⟩:=Sl.shape p;obtain⟨av,capv,rfl,_,_⟩:=H.shape;have l:Ext (w.alloc (.cells #[vo,vp,vc] 28)) ((w.alloc (.cells #[vo,vp,vc] 28)).alloc (.cells #[.slice X U.length z] 25)):=World.grownBy_alloc _ _ _;have R:=rows3One y;have b:=areSubgroups_ok P _ _ _ [U] Any Any (r.ext l) R;rw[k] at b;clear R p H;have T:U.length<=P.orders.length:=G.sub_len I.1;have A:=Lib.hid (And.intro E (And.intro I q));clear E I q;go_enter Tryz.func42,Tryz.ntmps42;go_wp2_with fail
 refine Calls.mono b ?_;rintro e1 Y ⟨v1,rfl,hgA,r1,rfl,hr1⟩;clear b;obtain rfl:r1=true:=hr1.2 (by have:=A.out;simp only[List.mem_cons,List.mem_nil_iff,or_false];exact⟨this.1,λu p=>by subst p;exact this.2.1.1⟩);clear hr1;have a:=grown_trans l hgA;have HS:=Lib.hid k;clear k;generalize K:(w.alloc (.cells #[vo,vp,vc] 28))=w0 at *;clear K l hgA;have B:=r.ext a;have L:=Rows2.ext y a;have C:=Ints.ext J a;have e:=G.seq_facts (G.subB A.out.2.1.1);rw[<-A.out.2.1.1.2] at e;have Z:=Lib.hid e;clear e;have D:=isPrimeSet_ok pr Y _ _ C;have M:=Lib.hid D;clear D;go_wp2_with fail
 refine Calls.mono M.out ?_;rintro e2 w2 ⟨v2,rfl,i,b2,rfl,hb2⟩;obtain rfl:b2=true:=hb2.2 A.out.2.2;clear hb2;go_wp2_with fail
 refine Calls.mono (sizeOf_ok P G.v w2 _ _ U Any Q (B.ext i) (Rows2.ext L i) Z.out.1 (by omega)) ?_;rintro e3 w3 ⟨v3,rfl,m,rfl⟩;rw[A.out.2.1.2];go_wp2_with fail
 refine Calls.mono (hallOrder_ok P G.v pr w3 _ _ Any S (B.ext (grown_trans i m)) (Ints.ext C (grown_trans i m))) ?_;rintro e4 w4 ⟨v4,rfl,N,rfl⟩;go_wp2;go_ret2
 exact⟨_,rfl,grown_trans j (grown_trans a (grown_trans i (grown_trans m N))),rfl⟩
theorem iPart_ok (n p:Nat) (R:1<=n) (u:p=2\/p=3\/p=5\/p=7) (D:n<=100000) (w:World) :
  Calls Tryz.prog 46 #[.int .i64 (n:Int),.int .i64 (p:Int)] w (Ret w λ_ r=>r=.tuple #[.int .i64 ((prt p n:Nat):Int),.int .i64 0]):=by
 have L:2<=p:=by omega
 have y:primeB (p:Int)=true:=by unfold primeB;simp;omega
 have E:=Lib.hid y;clear y;have h1:¬(n:Int)<1:=by omega
 have S:¬(1000000:Int)<(n:Int):=by omega
 have T:(p:Int)≠0:=by omega
 have U:=Lib.hid u;clear u;go_enter Tryz.func46,Tryz.ntmps46;go_wp2_with fail
 refine Calls.mono (isGroupPrime_ok (p:Int) w) ?_;rintro _ _ ⟨rfl,rfl⟩;rw[E.out];clear h1 S;go_wp2;go_loopw [0,6] (λF V wr=>∃m o:Nat,F=.int .i64 (m:Int)/\V=.int .i64 (o:Int)/\1<=m/\m<=n/\o*m<=n/\1<=o/\w=wr/\Hid (o*prt p m=prt p n)) (λF _ _=>(intOf F).toNat)
 case atStart=>exact⟨n,1,rfl,rfl,R,Nat.le_refl _,by omega,by omega,rfl,Lib.hid (Nat.one_mul _)⟩
 case round=>
  obtain⟨m,o,rfl,rfl,hm1,hm2,hom,ho1,rfl,C⟩:=hrel;have W:o<=n:=Nat.le_trans (Nat.le_mul_of_pos_right o (by omega)) hom;have a:((m:Int)%(p:Int))=((m%p:Nat):Int):=(Int.natCast_emod m p).symm;have M:(0:Int)<(p:Int):=by omega
  by_cases z:m%p=0
  ·have X:(m:Int)%(p:Int)=0:=by rw[a,z];rfl
   have i:=Nat.div_add_mod m p;rw[z,Nat.add_zero] at i;obtain⟨q,G⟩:∃q,q=m/p:=⟨_,rfl⟩;rw[<-G] at i
   have j:1<=q:=by
    rcases Nat.eq_zero_or_pos q with h|h
    ·rw[h] at i;simp at i;omega
    ·exact h
   have A:q<m:=by
    have:2*q<=p*q:=Nat.mul_le_mul_right q L;omega
   have N:(m:Int)/(p:Int)=(q:Int):=by
    rw[G];exact(Int.natCast_ediv m p).symm
   have l:o*p*q<=n:=by rw[Nat.mul_assoc,i];exact hom
   have B:o*p<=n:=Nat.le_trans (Nat.le_mul_of_pos_right (o*p) j) l;have O:(o:Int)*(p:Int)=((o*p:Nat):Int):=(Int.natCast_mul o p).symm;have b:1<=o*p:=Nat.mul_pos ho1 (by omega);have H:Hid (o*p*prt p q=prt p n):=Lib.hid (by rw[<-C.out,<-i,prt_mul L j,Nat.mul_assoc]);have I:q<=n:=by omega
   have J:=Lib.hid (And.intro l (And.intro b A));clear l b i G a z hom C A;generalize o*p=op at *;have K:=w64n op (Nat.le_trans B D);go_wp2;go_roundw
   case rel=>exact⟨q,op,rfl,by first|rfl|exact congrArg (Value.int .i64) K,j,I,J.out.1,J.out.2.1,by first|trivial|rfl,H⟩
   case measure=>have:=J.out.2.2;simp[intOf];omega
  ·have Y:¬(m:Int)%(p:Int)=0:=by rw[a];omega
   have Q:prt p m=1:=by
    rw[prt_def];obtain⟨k,rfl⟩:∃k,m=k+1:=⟨m-1,by omega⟩;unfold prtN;rw[if_neg z]
   have e:(o:Int)=((prt p n:Nat):Int):=by rw[<-C.out,Q,Nat.mul_one]
   have Z:=Lib.hid e;clear e Q C a z;go_wp2;go_ret2
   exact⟨_,rfl,Ext.refl _,by rw[<-Z.out];rfl⟩
def ByteEl (_:World) (u:Value) (x:Int):Prop:=u=.int .u8 x/\0<=x/\x<=255
abbrev Bytes (S:Nat->Prop) (w:World) (v:Value) (l:List Int):Prop:=Sl ByteEl S w v l
theorem Bytes.at {S:Nat->Prop}{w:World}{a:Option Addr}{n cap:Nat}{xs:List Int}(h:Sl ByteEl S w (.slice a n cap) xs) (i:Nat) (j:i<xs.length) :
  ∃b off,a=some ⟨b,off,none⟩/\S b/\b<w.heap.size/\w.cell? ⟨b,off+i,none⟩=some (.int .u8 (gt xs i))/\0<=gt xs i/\gt xs i<=255:=by
 obtain⟨b,off,u,h1,h2,h3,k,e⟩:=h.at i j;obtain⟨e,h6⟩:u=.int .u8 (gt xs i)/\0<=gt xs i/\gt xs i<=255:=e;exact⟨b,off,h1,h2,h3,by rw[k,e],h6⟩
theorem Bytes.mono {S S':Nat->Prop}{w w':World}{v:Value}{xs:List Int}(h:Bytes S w v xs) (a:∀k,S k->k<w.heap.size->S' k/\k<w'.heap.size/\w'.heap[k]? = w.heap[k]?):Bytes S' w' v xs:=Sl.mono h a (λ_ _ h=>h)
theorem Bytes.ext {S:Nat->Prop}{w w':World}{v:Value}{xs:List Int}(h:Bytes S w v xs) (a:Ext w w'):Bytes S w' v xs:=h.mono (frame_ext a)
theorem grown_set (w:World) (b j:Nat) (v:Value):w.grownBy (w.setCell ⟨b,j,none⟩ v) (some b):=⟨rfl,rfl,rfl,by simp[World.setCell],λk _ hk=>Below.heap_setCell _ _ _ _ (by intro e;exact hk (by rw[e]))⟩
def Src (b:Nat) (w:World) (sb:Nat):Prop:=∃(cv:Value) (pos a:Nat) (e:List Int),Box3 w sb cv (.int .i64 pos) (.int .i64 a)/\Bytes (λk=>k≠sb/\k<b) w cv e/\pos<=e.length/\a<2147483647/\sb<b
theorem Src.keep {b:Nat}{w w':World}{sb:Nat}(h:Src b w sb) (e:w.heap.size<=w'.heap.size) (i:∀k,k<b->k<w.heap.size->w'.heap[k]? = w.heap[k]?):Src b w' sb:=by
 obtain⟨cv,pos,seed,bs,h1,h2,h3,h4,j⟩:=h;exact⟨cv,pos,seed,bs,h1.keep e (i sb j h1.1),Sl.mono h2 (λk hk a=>⟨hk,Nat.lt_of_lt_of_le a e,i k hk.2 a⟩) (λ_ _ h=>h),h3,h4,j⟩
theorem Src.ext {b:Nat}{w w':World}{sb:Nat}(h:Src b w sb) (e:Ext w w'):Src b w' sb:=h.keep e.size (λk _ a=>e.block k a (by simp))
theorem Src.own {a:Nat}{w w':World}{sb:Nat}{r:Option Nat}(h:Src a w sb) (i:w.grownBy w' r) (j:∀k,r=some k->a<=k):Src a w' sb:=
 h.keep i.size (λk hk b=>i.block k b (λe=>by have:=j k e.symm;omega))
theorem Src.lt {a:Nat}{w:World}{sb:Nat}(h:Src a w sb):sb<a/\sb<w.heap.size:=by
 obtain⟨cv,pos,seed,bs,h1,h2,h3,h4,h5⟩:=h;exact⟨h5,h1.1⟩
def NextR (a sb:Nat) (n:Int) (w':World) (v:Value):Prop:=∃x:Int,v=.int .i64 x/\(n<=1->x=0)/\(1<n->0<=x/\x<n)/\Src a w' sb
theorem l01Next_ok (R:Nat) (w:World) (sb:Nat) (n:Int) (h:Src R w sb) :
  Calls Tryz.prog 84 #[.pointer (some ⟨sb,0,none⟩),.int .i64 n] w (Mut w (some sb) (NextR R sb n)):=by
 have Y:=h;obtain⟨cv,pos,F,C,hB,hby,hpos,hseed,hlt⟩:=h;by_cases hn:n<=1
 ·go_enter Tryz.func84,Tryz.ntmps84
  go_wp2;go_ret;exact⟨_,rfl,grown_refl _ _,0,rfl,λ_=>rfl,λh=>by omega,Y⟩
 ·have ab:1<n:=by omega
  obtain⟨a,cap,rfl,_,hlen⟩:=hby.shape;obtain⟨l,hs2⟩:∃l:Nat,l=(F*48271+71)%2147483647:=⟨_,rfl⟩;have r:l<2147483647:=by omega
  have K:((F:Int)*48271+71)%2147483647=(l:Int):=by omega
  have u:=(hB.put (.int .i64 (l:Nat))).2.2;obtain⟨H,h1,h2,h3,h4⟩:=id hB;go_enter Tryz.func84,Tryz.ntmps84;have y:w.grownBy (w.setCell ⟨sb,2,none⟩ (.int .i64 (l:Nat))) (some sb):=grown_set _ _ _ _;have m:Bytes (λk=>k≠sb/\k<R) (w.setCell ⟨sb,2,none⟩ (.int .i64 (l:Nat))) (.slice a C.length cap) C:=Bytes.mono hby (frame_of y (λk hk _=>⟨hk,λe=>hk.1 (by cases e;rfl)⟩));have L:=Lib.hid (And.intro u (And.intro y m));clear u hB hs2 hby Y y m;go_wp2;clear H h1 h2 h3 h4 K;obtain⟨u,y,m⟩:=L.out;clear L;generalize w.setCell ⟨sb,2,none⟩ (.int .i64 (l:Nat))=I at *;obtain⟨H,h1,h2,h3,h4⟩:=id u;have i:=Lib.hid (And.intro u (And.intro y m));clear u y m;by_cases hp:pos<C.length
  ·obtain ⟨b,off,rfl,⟨hbs,hbB⟩,hbl,z,U,V⟩:=Bytes.at i.out.2.2 pos hp
   obtain⟨x,hx⟩:∃x,x=gt C pos:=⟨_,rfl⟩;rw[<-hx] at z U V;have HX:=Lib.hid hx;clear hx;have ad:(pos:Int)<C.length:=by omega
   have ae:(0:Int)<=pos:=by omega
   have af:0<=(l:Int)/47/\(l:Int)/47<=45691142:=by omega
   have W:IntKind.i64.wrap ((l:Int)/47+x)=(l:Int)/47+x:=IntWalk.i64_in _ (by omega);go_quiet (fail)
   go_wp2;have j:Ext I (I.drewN nq):=grown_drewN _ _ _;have G:=j.cell z (by simp);have M:sb<(I.drewN nq).heap.size:=Nat.lt_of_lt_of_le H j.size;have D:=And.intro (i.out.1.ext j) (And.intro (grown_trans i.out.2.1 (grown_of_ext (some sb) j)) (Bytes.ext i.out.2.2 j));have i:=Lib.hid D;clear D j z H h1 h2 h3 h4;obtain⟨h1,h2,h3,h4⟩:=i.out.1.2;generalize I.drewN nq=S at *;go_quiet (fail)
   have j:Ext S (S.drewN nq):=grown_drewN _ _ _;have z:=j.cell G (by simp);have H:sb<(S.drewN nq).heap.size:=Nat.lt_of_lt_of_le M j.size;have D:=And.intro (i.out.1.ext j) (And.intro (grown_trans i.out.2.1 (grown_of_ext (some sb) j)) (Bytes.ext i.out.2.2 j));have i:=Lib.hid D;clear D j G M h1 h2 h3 h4;obtain⟨h1,h2,h3,h4⟩:=i.out.1.2;generalize S.drewN nq=N at *;have A:=(i.out.1.put (.int .i64 ((pos:Int)+1))).2.1;have B:N.grownBy (N.setCell ⟨sb,1,none⟩ (.int .i64 ((pos:Int)+1))) (some sb):=grown_set _ _ _ _;have p:Bytes (λk=>k≠sb/\k<R) (N.setCell ⟨sb,1,none⟩ (.int .i64 ((pos:Int)+1))) (.slice (some ⟨b,off,none⟩) C.length cap) C:=Bytes.mono i.out.2.2 (frame_of B (λk hk _=>⟨hk,λe=>hk.1 (by cases e;rfl)⟩));have E:(N.setCell ⟨sb,1,none⟩ (.int .i64 ((pos:Int)+1))).cell? ⟨b,off+pos,none⟩=some (.int .u8 x):=(World.cell?_setCell_other _ _ _ _ (by first|exact λe=>hbs (congrArg Addr.block e)|exact λe=>hbs (congrArg Addr.block e).symm)).trans z;have q:=Lib.hid (And.intro A (And.intro (grown_trans i.out.2.1 B) (And.intro p E)));clear A B p E i W;have X:IntKind.i64.wrap ((pos:Int)+1)=(pos:Int)+1:=IntWalk.i64_in _ (by omega);by_cases T:n<=256/\((pos:Int)+1)%2=0
   ·obtain ⟨O,Q⟩:=T
    go_wp2;clear H h1 h2 h3 h4 X z;obtain⟨A,B,p,E⟩:=q.out;have Z:IntKind.i64.wrap ((pos:Int)+1-1)=(pos:Int):=by rw[show(pos:Int)+1-1=(pos:Int) by omega];exact IntWalk.i64_in _ (by omega)
    clear q;generalize N.setCell ⟨sb,1,none⟩ (.int .i64 ((pos:Int)+1))=w4 at *;obtain⟨H,h1,h2,h3,h4⟩:=id A;have i:=Lib.hid (And.intro A (And.intro B p));clear A B p;go_quiet (fail)
    have j:Ext w4 (w4.drewN nq):=grown_drewN _ _ _;have J:0<=x%n/\x%n<n:=⟨Int.emod_nonneg _ (by omega),Int.emod_lt_of_pos _ (by omega)⟩;go_wp2;go_ret;exact⟨_,rfl,grown_trans i.out.2.1 (grown_of_ext _ j),_,rfl,λh=>by omega,λ_=>J,_,pos+1,l,C,i.out.1.ext j,i.out.2.2.ext j,by omega,r,hlt⟩
   ·have J:0<=((l:Int)/47+x)%n/\((l:Int)/47+x)%n<n:=⟨Int.emod_nonneg _ (by omega),Int.emod_lt_of_pos _ (by omega)⟩
    by_cases O:n<=256
    ·have Q:(((pos:Int)+1)%2 == 0)=false:=by simp;exact λh=>T ⟨O,h⟩
     clear T;go_wp2;go_ret;exact⟨_,rfl,q.out.2.1,_,rfl,λh=>by omega,λ_=>J,_,pos+1,l,C,q.out.1,q.out.2.2.1,by omega,r,hlt⟩
    ·clear T
     go_wp2;go_ret;exact⟨_,rfl,q.out.2.1,_,rfl,λh=>by omega,λ_=>J,_,pos+1,l,C,q.out.1,q.out.2.2.1,by omega,r,hlt⟩
  ·go_quiet (fail)
   go_wp2;have j:Ext I (I.drewN nq):=grown_drewN _ _ _;have J:0<=(l:Int)/47%n/\(l:Int)/47%n<n:=⟨Int.emod_nonneg _ (by omega),Int.emod_lt_of_pos _ (by omega)⟩;go_ret;exact⟨_,rfl,grown_trans i.out.2.1 (grown_of_ext _ j),_,rfl,λh=>by omega,λ_=>J,_,pos,l,C,i.out.1.ext j,i.out.2.2.ext j,hpos,r,hlt⟩
theorem und_int:Tryz.prog.underlying 3=some (.int .i64):=by kernel_rfl
theorem zeroCells_toList (m:Nat):(Builtin.zeroCells #[Value.int .i64 0] m).toList=(List.replicate m (0:Int)).map (Value.int .i64):=by
 apply List.ext_getElem
 ·simp[Builtin.zeroCells]
 ·intro i h1 a
  simp[Builtin.zeroCells,Nat.mod_one]
theorem run_app_zeros (w:World) (base:Nat) (v:Value) (l:List Int) (i:Own base w v l) (U:TypeId) (m:Nat) (V:l.length+m<=2147483648) (j:base<=w.heap.size) :
  ∃W w',(Builtin.append_ #[24,3] U #[v,.int .i64 m]).run Tryz.prog w=.ok W w'/\Own base w' W (l++List.replicate m 0)/\w.grownBy w' v.ownBlock:=by
 obtain⟨Q,I,D,hz1,E⟩:=info_parts Tryz.infoInt;have J:=und_ints;have p:=und_int;have X:IntKind.i64.wrap (m:Int)=m:=IntWalk.i64_in _ (by omega);have K:IntKind.i64.wrap 0=0:=IntWalk.i64_in _ (by omega);have B:¬((m:Int)<0):=by omega
 have C:¬(281474976710656<(m:Int)*(Q.bytes:Int)):=by rw[E];omega
 have z:(Value.int IntKind.i64 0).cells = #[Value.int IntKind.i64 0]:=rfl;have q:=zeroCells_toList m;have A:(Builtin.zeroCells #[Value.int .i64 0] m).toList.length=m:=by rw[q];simp
 have r:=i;obtain⟨R,i⟩:=i;rcases i with⟨rfl,hn⟩|⟨g,cap,a,rfl,hbg,Y,hnc,F,hcs,y⟩
 ·have S:l=[]:=List.eq_nil_of_length_eq_zero hn
  subst S;by_cases H:m=0
  ·subst H
   refine⟨.slice none 0 0,w,?_,World.ownsRow_nil _ _ _ _,grown_refl _ _⟩;simp[Builtin.append_,run_underlying J,run_underlying p,sizeOf,typeInfo,I,asInt,asIntOf,K]
  ·have hr:=Lib.run_append_nil_zeros (P:=Tryz.prog) w 24 3 U 2 Q (.int .i64 0) .i64 .i64 J p I D m (by omega) (by omega) (by omega) (by rw[E];omega)
   refine⟨_,_,hr,?_,⟨rfl,rfl,rfl,by simp,λk hk _=>heap_alloc_old w.drew _ hk⟩⟩;have G:=grownCap_ge w m 0 2;have F:grownCap w m 0 2<=maxLen:=grownCap_le_maxLen w m 0 2 (by unfold maxLen;omega);have hL:(([]:List Int)++List.replicate m 0).length=m:=by simp
   refine⟨by simp,.inr ⟨w.heap.size,_,_,by rw[hL],j,heap_alloc_new w.drew _,by rw[hL];exact G,F,?_,?_⟩⟩
   ·rw [Array.size_append,z,<-Array.length_toList,A,<-Array.length_toList,zeroCells_toList]
    simp;omega
   ·rw [Array.toList_append,z,q,List.nil_append]
    simp
 ·by_cases b:l.length+m<=cap
  ·by_cases H:m=0
   ·subst H
    refine⟨_,w,?_,by simpa using r,grown_refl _ _⟩;simp[Builtin.append_,run_underlying J,run_underlying p,sizeOf,typeInfo,I,asInt,asIntOf,K,hnc,storeCells]
   ·have L:=run_storeCells_at (P:=Tryz.prog) g (l.length*1) 2 (Builtin.zeroCells #[Value.int .i64 0] m).toList 0 a w Y (by rw[A];omega) (by rw[q];intro u hu;obtain⟨x,_,rfl⟩:=List.mem_map.1 hu;rfl)
    simp only[Nat.add_zero,Nat.mul_one] at L;rw[Nat.mul_one] at y;refine⟨.slice (some ⟨g,0,none⟩) (l.length+m) cap,w.setRow g (a.toList.take l.length++(Builtin.zeroCells #[Value.int .i64 0] m).toList++a.toList.drop (l.length+(Builtin.zeroCells #[Value.int .i64 0] m).toList.length)).toArray,?_,⟨by simp,.inr ⟨g,cap,_,by simp,hbg,setRow_heap w g a _ _ _ Y,by simp;exact b,F,?_,?_⟩⟩,⟨rfl,rfl,rfl,by simp,λk _ hk=>setRow_other w g k _ (λe=>hk (by simp[Value.ownBlock,e]))⟩⟩
    ·generalize a.toList.take l.length++(Builtin.zeroCells #[Value.int .i64 0] m).toList++a.toList.drop (l.length+(Builtin.zeroCells #[Value.int .i64 0] m).toList.length)=Z at *
     simp[Builtin.append_,run_underlying J,run_underlying p,sizeOf,typeInfo,zeroValue,I,D,hz1,asInt,asIntOf,X,B,C,b,H,z,Addr.add_lit,L]
    ·have T:a.toList.length=cap:=by rw[Array.length_toList];omega
     simp only[List.size_toArray,List.length_append,List.length_take,List.length_drop,A,T];omega
    ·rw [y,q]
     simp only[List.length_append,List.length_replicate,Nat.mul_one,List.map_append];exact List.take_left' (by simp)
  ·have H:m≠0:=by omega
   have holds:=r.cells (g:=g) rfl;have hf:=run_firstCells_some (P:=Tryz.prog) w.drew 1 l.length ⟨g,0,none⟩ l.length cap (l.map (Value.int .i64)) R (by simpa using holds);have M:¬(9223372036854775807<((l.length:Int)+(m:Int))):=by omega
   have N:¬(281474976710656<Builtin.nextslicecap (l.length+m) cap*Q.bytes):=by
    rw[E];have:=nextslicecap_le (show cap<l.length+m by omega);omega
   refine⟨.slice (some ⟨w.heap.size,0,none⟩) (l.length+m) (grownCap w (l.length+m) cap 2),w.drew.alloc (.cells ((l.map (Value.int .i64)).toArray++Builtin.zeroCells #[Value.int .i64 0] m++Builtin.zeroCells #[Value.int .i64 0] (grownCap w (l.length+m) cap 2-(l.length+m))) 2),?_,?_,⟨rfl,rfl,rfl,by simp,λk hk _=>heap_alloc_old w.drew _ hk⟩⟩
   ·simp [Builtin.append_,run_underlying J,run_underlying p,sizeOf,typeInfo,zeroValue,I,D,hz1,asInt,asIntOf,X,B,C,b,H,z,M,N,Question.forced,hf,newRow,grownCap]
    done
   ·have G:=grownCap_ge w (l.length+m) cap 2
    have O:grownCap w (l.length+m) cap 2<=maxLen:=grownCap_le_maxLen w (l.length+m) cap 2 (by unfold maxLen;omega);refine⟨by simp,.inr ⟨w.heap.size,_,_,by simp,j,heap_alloc_new w.drew _,by simp;exact G,O,?_,?_⟩⟩
    ·simp only[Array.size_append]
     rw[<-Array.length_toList (xs:=Builtin.zeroCells #[Value.int .i64 0] m),A,<-Array.length_toList (xs:=Builtin.zeroCells #[Value.int .i64 0] _),zeroCells_toList];simp;omega
    ·rw [Array.toList_append,Array.toList_append,q]
     simp only[List.length_append,List.length_replicate,Nat.mul_one,List.map_append];exact List.take_left' (by simp)
theorem wp_app_zeros {e:Array Oper}{rest:List Oper}{o:Oper}{a:Act}{Q:Exit->Act->World->Prop}{w:World}(p:o.guard=none) (s x:Operand)
  (q:o.op=Op.call { callee:=Callee.builtin Builtin.append,args := #[s,x],argTypes := #[24,3] }) (base:Nat) (v:Value) (l:List Int) (r:a.eval s=v) (i:Own base w v l) (m:Nat) (hx:a.eval x=.int .i64 m)
  (j:l.length+m<=2147483648) (b:base<=w.heap.size)
  (h:∀k w',Own base w' k (l++List.replicate m 0)->w.grownBy w' v.ownBlock->wpList Tryz.prog e Q rest (a.put o.dst k) w') :
  wpList Tryz.prog e Q (o :: rest) a w:=by
 obtain⟨k,w',hr,h1,u⟩:=run_app_zeros w base v l i o.type m j b;exact Lib.wpList_append_run w p s x _ _ q _ _ r hx k w' hr (h k w' h1 u)
theorem l01Pick_ok (r:Nat) (w:World) (sb:Nat) (y:Value) (L:List Int) (S:Nat->Prop) (h:Src r w sb) (u:Ints S w y L) (z:∀k,S k->k≠sb) (C:0<L.length) (E:L.length<=1000) :
  Calls Tryz.prog 113 #[.pointer (some ⟨sb,0,none⟩),y] w (Mut w (some sb) λw' v=>∃i,i<L.length/\v=.int .i64 (gt L i)/\Src r w' sb):=by
 obtain⟨a,cap,rfl,_,_⟩:=u.shape;have j:=l01Next_ok r w sb L.length h;have A:=Lib.hid (And.intro u z);clear u z h;go_enter Tryz.func113,Tryz.ntmps113;go_wp2_with fail
 refine Calls.mono j ?_;rintro F G ⟨v1,rfl,l,x,rfl,m,p,q⟩;clear j;obtain⟨i,hi,hil⟩:∃i:Nat,x=i/\i<L.length:=⟨x.toNat,by omega,by omega⟩;subst hi;have B:(i:Int)<L.length:=by omega
 obtain⟨b,off,rfl,hbS,_,hc⟩:=Ints.at (Ints.mono A.out.1 (frame_of l (λk hk _=>⟨hk,λe=>A.out.2 k hk (by cases e;rfl)⟩))) i hil;have D:=Lib.hid (And.intro m (And.intro p q));clear m p q;go_wp2;go_ret;exact⟨_,rfl,l,i,hil,rfl,D.out.2.2⟩
def shiftL (b:Nat) (v:List Int) (a:Nat):List Int:=(List.replicate b 0++v)++List.replicate a 0
theorem shiftL_len (b:Nat) (v:List Int) (a:Nat):(shiftL b v a).length=b+v.length+a:=by unfold shiftL;simp;omega
theorem l07Shift_ok (w:World) (b:Nat) (z:Value) (v:List Int) (a:Nat) (S:Nat->Prop) (A:Ints S w z v) (F:b+v.length+a<=1000) :
  Calls Tryz.prog 265 #[.int .i64 b,z,.int .i64 a] w (Ret w λw' r=>Own w.heap.size w' r (shiftL b v a)):=by
 obtain⟨G,capv,rfl,_,_⟩:=A.shape;go_enter Tryz.func265,Tryz.ntmps265
 go_wp2_with (first
  | (at_make;refine wp_make_ints rfl _ _ rfl w.heap.size b w.heap.size rfl _ rfl rfl rfl (by omega) (Nat.le_refl _) ?_;intro H m e B)
  | (at_builtin;refine wp_app_ints rfl _ _ rfl w.heap.size _ (List.replicate b 0) rfl m _ v rfl S (A.ext e) (by simp;omega) e.size ?_;intro C D i k _;have E:(List.replicate b (0:Int)++v).length<=1000:=by simp;omega)
  | (at_builtin;refine wp_app_zeros rfl _ _ rfl w.heap.size C (List.replicate b 0++v) rfl i a rfl (by simp;omega) (by have:=e.size;have:=k.size;omega) ?_;intro I J l p))
 have q:(shiftL b v a).length<=9223372036854775807:=by rw[shiftL_len];omega
 obtain⟨K,c3,hv3,_⟩:=(l.ints q).shape;subst hv3;go_wp2;go_ret;refine⟨_,rfl,?_,l⟩;have h1:Ext w D:=grown_own e k (λj u y=>by have:=own_blk u;omega);exact grown_own h1 p (λj u y=>by have:=(i.lt j u).1;omega)
theorem l07Digits_ok (w:World) (F:Value) (o:List Int) (k:Nat) (x:Int) (S:Nat->Prop) (G:Ints S w F o) (U:o.length<=1000) (H:∀i,i<o.length->1<=gt o i/\gt o i<=7) (hx:0<=x/\x<=1000000000) :
  Calls Tryz.prog 229 #[F,.int .i64 k,.int .i64 x] w (Ret w λw' r=>∃l,l.length=o.length/\Own w.heap.size w' r l):=by
 obtain⟨V,capo,rfl,_,_⟩:=G.shape;have I:=Lib.hid (And.intro H G);clear H;go_enter Tryz.func229,Tryz.ntmps229;go_wp2_with (at_make;refine wp_make_ints rfl _ _ rfl w.heap.size o.length w.heap.size rfl _ rfl rfl rfl (by omega) (Nat.le_refl _) ?_;intro W u z A)
 go_loopw [2,8] (λK C wr=>∃(i:Nat) (y:Int) (l:List Int),C=.int .i64 i/\K=.int .i64 y/\0<=y/\y<=1000000000/\l.length=o.length/\Ext w wr/\Own w.heap.size wr (.slice (some ⟨w.heap.size,0,none⟩) o.length o.length) l) (λ_ C _=>o.length-(intOf C).toNat)
 case atStart=>exact⟨k,x,_,rfl,rfl,hx.1,hx.2,by simp,z,u⟩
 case round=>
  obtain⟨i,y,l,rfl,rfl,hy0,hy1,a,hg,hO⟩:=hrel;clear u z A;by_cases e:i<o.length
  ·have J:(i:Int)<o.length:=by omega
   obtain⟨b,off,rfl,_,hbl,hc0⟩:=Ints.at I.out.2 i e;have L:=hg.cell hc0 (by simp);have M:=I.out.1 i e;obtain⟨q,m⟩:∃q,q=gt o i:=⟨_,rfl⟩;rw[<-m] at L M;have N:=hO.cell i (by omega);have O:=hO.frozen i;obtain⟨B,hs2⟩:=hO.store i (y%q);have p:Ext w (wr.setCell ⟨w.heap.size,i,none⟩ (.int .i64 (y%q))):=grown_own hg hs2 (λj Q e=>by cases Q;omega);have D:0<=y/q:=Int.ediv_nonneg hy0 (by omega);have R:y/q<=y:=Int.ediv_le_self _ hy0;have T:(wr.setCell ⟨w.heap.size,i,none⟩ (.int .i64 (y%q))).cell? ⟨b,off+i,none⟩=some (.int .i64 q):=p.cell (by rw[m];exact hc0) (by simp);have E:=Lib.hid (And.intro B (And.intro p a));clear B hs2 p a m hc0;go_wp2;go_roundw
   case rel=>exact⟨i+1,y/q,l.set i (y%q),by go_num,rfl,D,by omega,by rw[List.length_set];exact E.out.2.2,E.out.2.1,E.out.1⟩
   case measure=>simp[intOf];omega
  ·go_wp2
   go_ret;exact⟨_,rfl,hg,l,a,hO⟩
def FacsR (B:Nat) (w':World) (v:Value):Prop:=∃(a:Option Addr) (c:Nat) (l:List Int) (r:Bool),v=.tuple #[.slice a l.length c,.bool r]/\Own B w' (.slice a l.length c) l/\l.length<=9/\∀x∈l,2<=x/\x<=7
theorem l07Factors_ok (w:World) (n:Nat) (T:1<=n/\n<=729) :
  Calls Tryz.prog 228 #[.int .i64 n] w (Ret w (FacsR w.heap.size)):=by
 go_enter Tryz.func228,Tryz.ntmps228;go_wp2;go_loopw [0,4,5] (λu D dv wr=>∃(m:Nat) (l:List Int) (d:Nat),u=.int .i64 m/\dv=.int .i64 d/\1<=m/\2<=d/\d<=8/\m*2 ^ l.length<=729/\(∀x∈l,2<=x/\x<=7)/\Ext w wr/\Own w.heap.size wr D l) (λ_ _ dv _=>8-(intOf dv).toNat)
 case atStart=>exact⟨n,[],2,rfl,rfl,T.1,by omega,by omega,by simp;omega,by simp,World.grownBy_alloc _ _ _,World.ownsRow_lit w #[] 0 (Nat.le_refl _) (by decide) rfl⟩
 case round=>
  obtain⟨m,l,d,rfl,rfl,b,E,hd8,y,z,hg,hO⟩:=hrel;have e:=Lib.hid (And.intro y z);clear y z;by_cases k:d<=7
  ·have i:(d:Int)<=7:=by omega
   go_wp2;go_loopw [0,4] (λu D wr=>∃(m:Nat) (l:List Int),u=.int .i64 m/\1<=m/\Hid (m*2 ^ l.length<=729/\∀x∈l,(2:Int)<=x/\x<=7)/\Ext w wr/\Own w.heap.size wr D l) (λu _ _=>(intOf u).toNat)
   case atStart=>exact⟨m,l,rfl,b,e,hg,hO⟩
   case round=>
    clear b e hg hO;obtain⟨m,l,rfl,b,e,hg,hO⟩:=hrel;have U:2<=(d:Int):=by omega
    by_cases C:primeB d=true
    ·have a:=l01Prime_ok d wr
     rw[C] at a;clear C;by_cases A:m%d=0
     ·have F:(m:Int)%(d:Int)=0:=by rw[<-Int.natCast_emod,A];rfl
      have G:(m:Int)/(d:Int)=((m/d:Nat):Int):=by rw[Int.natCast_ediv]
      have B:1<=m/d:=Nat.div_pos (Nat.le_of_dvd b (Nat.dvd_of_mod_eq_zero A)) (by omega);have H:m/d<m:=Nat.div_lt_self b (by omega);have I:m/d*d=m:=Nat.div_mul_cancel (Nat.dvd_of_mod_eq_zero A)
      have p:l.length<=1000000:=by
       have J:=e.out.1;have K:1*2 ^ l.length<=m*2 ^ l.length:=Nat.mul_le_mul_right _ b;have V:l.length<2 ^ l.length:=Nat.lt_two_pow_self;omega
      have L:m/d*2 ^ (l++[(d:Int)]).length<=729/\∀x∈l++[(d:Int)],(2:Int)<=x/\x<=7:=by
       refine⟨?_,λx hx => ?_⟩
       ·have J:=e.out.1
        have K:m/d*2<=m:=by
         have:=Nat.mul_le_mul_left (m/d) E;omega
        have V:=Nat.mul_le_mul_right (2 ^ l.length) K;rw[List.length_append,List.length_singleton,Nat.pow_succ,Nat.mul_comm (2 ^ l.length) 2,<-Nat.mul_assoc];omega
       ·rcases List.mem_append.1 hx with h|h
        ·exact e.out.2 x h
        ·rw[List.mem_singleton.1 h];omega
      have M:m/d<=729:=by
       have h1:=e.out.1;have J:=Nat.le_mul_of_pos_right m (Nat.two_pow_pos l.length);omega
      obtain⟨q,Q⟩:∃q,q=m/d:=⟨_,rfl⟩;rw[<-Q] at G B H L M;have W:=Lib.hid L;clear L e I A Q;go_wp2_with fail
      refine Calls.mono a ?_;rintro R S ⟨rfl,rfl⟩;clear a;go_wp2_with (first|(at_builtin;refine wp_app_int rfl _ _ rfl w.heap.size u4 l (d:Int) rfl wr hO rfl rfl p hg.size ?_;intro Z w5 N O)|fail)
      go_roundw
      case rel=>exact⟨q,_,rfl,B,W,grown_own hg O (λj X k=>by have:=(hO.lt j X).1;omega),N⟩
      case measure=>simp[intOf];omega
     ·have F:((m:Int)%(d:Int) == 0)=false:=by
       have:(m:Int)%(d:Int)=((m%d:Nat):Int):=by rw[Int.natCast_emod]
       rw[this];simp;omega
      have r:d+1<=8:=by omega
      clear A k i;go_wp2_with (first|(refine Calls.mono a ?_;rintro R S ⟨rfl,rfl⟩;clear a)|fail)
      go_roundw
      case rel=>exact⟨m,l,d+1,rfl,by go_num,b,by omega,r,e.out.1,e.out.2,hg,hO⟩
      case measure=>simp[intOf];omega
    ·have a:=l01Prime_ok d wr
     rw[show primeB (d:Int)=false by simpa using C] at a;have r:d+1<=8:=by omega
     clear C k i;go_wp2_with (first|(refine Calls.mono a ?_;rintro R S ⟨rfl,rfl⟩;clear a)|fail)
     go_roundw
     case rel=>exact⟨m,l,d+1,rfl,by go_num,b,by omega,r,e.out.1,e.out.2,hg,hO⟩
     case measure=>simp[intOf];omega
  ·have i:¬(d:Int)<=7:=by omega
   have p:l.length<=9:=by
    rcases Nat.lt_or_ge l.length 10 with h|h
    ·omega
    ·have h1:2 ^ 10<=2 ^ l.length:=Nat.pow_le_pow_right (by omega) h
     have J:=e.out.1;have K:1*2 ^ l.length<=m*2 ^ l.length:=Nat.mul_le_mul_right _ b;omega
   obtain⟨Y,cf,hfv,_⟩:=(hO.ints (by omega)).shape;subst hfv;go_wp2;go_ret2
   exact⟨_,rfl,hg,Y,cf,l,((m:Int) == 1),rfl,hO,p,e.out.2⟩
theorem l01Power_ok (w:World) (b e m:Int) (j:0<=b/\b<30000) (k:0<=e/\e<=1000000000) (B:1<=m/\m<=30000) :
  Calls Tryz.prog 230 #[.int .i64 b,.int .i64 e,.int .i64 m] w (Ret w λ_ v=>∃x:Int,v=.int .i64 x/\0<=x/\x<30000):=by
 have r:(1:Int)%m<m:=Int.emod_lt_of_pos _ (by omega);have l:0<=(1:Int)%m:=Int.emod_nonneg _ (by omega);go_enter Tryz.func230,Tryz.ntmps230;go_wp2;go_loopw [0,1,7] (λu ev y wr=>∃(b e o:Int),u=.int .i64 b/\ev=.int .i64 e/\y=.int .i64 o/\0<=b/\b<30000/\0<=e/\e<=1000000000/\0<=o/\o<30000/\Ext w wr) (λ_ ev _ _=>(intOf ev).toNat)
 case atStart=>exact⟨b,e,_,rfl,rfl,rfl,j.1,j.2,k.1,k.2,l,by omega,Ext.refl _⟩
 case round=>
  clear j k;obtain⟨b,e,o,rfl,rfl,rfl,a,hb1,he0,he1,ho0,ho1,hg⟩:=hrel;by_cases z:0<e
  ·have h1:0<=o*b/\o*b<=30000*30000:=⟨Int.mul_nonneg ho0 a,Int.mul_le_mul (by omega) (by omega) a (by omega)⟩
   have C:0<=b*b/\b*b<=30000*30000:=⟨Int.mul_nonneg a a,Int.mul_le_mul (by omega) (by omega) a (by omega)⟩;have A:0<=o*b%m/\o*b%m<m:=⟨Int.emod_nonneg _ (by omega),Int.emod_lt_of_pos _ (by omega)⟩;have q:0<=b*b%m/\b*b%m<m:=⟨Int.emod_nonneg _ (by omega),Int.emod_lt_of_pos _ (by omega)⟩;have D:e/2<e:=by omega
   by_cases i:e%2=1
   ·have p:(e%2 == 1)=true:=by simp[i]
    clear i;go_wp2;go_roundw
    case rel=>exact⟨_,_,_,rfl,rfl,rfl,q.1,by omega,by omega,by omega,A.1,by omega,hg⟩
    case measure=>simp[intOf];omega
   ·have p:(e%2 == 1)=false:=by simp[i]
    clear i;go_wp2;go_roundw
    case rel=>exact⟨_,_,_,rfl,rfl,rfl,q.1,by omega,by omega,by omega,ho0,ho1,hg⟩
    case measure=>simp[intOf];omega
  ·go_wp2
   go_ret;exact⟨_,rfl,hg,o,rfl,ho0,ho1⟩
theorem Box3.all {W:World}{b:Nat}{a e i:Value}(h:Box3 W b a e i) (x y z:Value):Box3 (((W.setCell ⟨b,0,none⟩ x).setCell ⟨b,1,none⟩ y).setCell ⟨b,2,none⟩ z) b x y z:=
 ((((h.put x).1.put y).2.1).put z).2.2
theorem grown_set1 (w:World) (b j:Nat) (v:Value):w.grownBy (w.setCell ⟨b,j,none⟩ v) (some b):=⟨rfl,rfl,rfl,by simp[World.setCell],λk _ hk=>Below.heap_setCell _ _ _ _ (by intro e;exact hk (by rw[e]))⟩
theorem grown_set3 (w:World) (b:Nat) (x y z:Value):w.grownBy (((w.setCell ⟨b,0,none⟩ x).setCell ⟨b,1,none⟩ y).setCell ⟨b,2,none⟩ z) (some b):=
 grown_trans (grown_set1 _ _ _ _) (grown_trans (grown_set1 _ _ _ _) (grown_set1 _ _ _ _))
def SlI {α:Type} [Inhabited α] (El:(Nat->Prop)->World->Value->α->Prop) (E:Nat) (F:Nat->Prop) (w:World) (v:Value) (xs:List α):Prop:=
 ∃ (a:List Value) (G:Nat->Nat->Prop),a.length=xs.length/\xs.length<=9223372036854775807/\OwnV 0 E w v a/\(∀k,v.ownBlock=some k->F k) /\
  (∀i k,i<xs.length->G i k->F k/\v.ownBlock≠some k/\k<w.heap.size) /\
  (∀i j k,i<xs.length->j<xs.length->G i k->G j k->i=j)/\∀i,i<xs.length->El (G i) w (gt a i) (gt xs i)
section
variable {α:Type} [Inhabited α] {El:(Nat->Prop)->World->Value->α->Prop}{E:Nat}
theorem SlI.of {B:Nat}{F:Nat->Prop}{w:World}{v:Value}{xs:List α}(h:SlO El E B w v xs) (e:xs.length<=9223372036854775807) (hF:∀k,B<=k->k<w.heap.size->F k):SlI El E F w v xs:=by
 obtain⟨j,G,hvl,hO,a,hd,hE⟩:=h;exact⟨j,G,hvl,e,ownsRow_move hO (λ_ _=>⟨rfl,Nat.zero_le _⟩),λk hk=>hF k (hO.lt k hk).1 (hO.lt k hk).2,λi k b hk=>⟨hF k (a i k b hk).1 (a i k b hk).2.2,(a i k b hk).2⟩,hd,hE⟩
theorem SlI.d {F:Nat->Prop}{w:World}{v:Value}{xs:List α}(h:SlI El E F w v xs):SlD El F w v xs:=by
 obtain⟨j,G,a,hl,hO,hF,e,hd,hE⟩:=h;refine⟨G,λk=>v.ownBlock=some k,λk hk=>hF k hk,λi k b hk=>⟨(e i k b hk).1,λh=>(e i k b hk).2.1 h⟩,hd,?_⟩;rcases hO.form with⟨rfl,rfl⟩|⟨g,cap,rfl,hnc,hBg,hgs⟩
 ·have:xs.length=0:=by simpa using a.symm
  exact⟨none,0,by rw[this],⟨by omega,by omega,λ_=>rfl⟩,λi b=>by omega⟩
 ·refine ⟨_,cap,by rw[a],⟨by omega,hl,λh=>by cases h⟩,λi b=>⟨g,0,gt j i,rfl,rfl,hgs,?_,hE i b⟩⟩
  rw[Nat.zero_add];exact hO.cell i (by omega)
theorem rdI (l:RdOk El):RdOk (SlI El E):=by
 refine⟨λ{F F' w w' u x} h j => ?_,λ{F w u x} h => ?_⟩
 ·obtain ⟨m,G,hvl,hl,hO,hF,e,hd,p⟩:=h
  have a:=hO.lt
  exact ⟨m,G,hvl,hl,ownsRow_move hO (λk hk=>⟨(j k (hF k hk) (a k hk).2).2.2,Nat.zero_le _⟩),λk hk=>(j k (hF k hk) (a k hk).2).1,
   λi k b hk=>⟨(j k (e i k b hk).1 (e i k b hk).2.2).1,(e i k b hk).2.1,(j k (e i k b hk).1 (e i k b hk).2.2).2.1⟩,hd,
   λi b=>l.mono (p i b) (λk hk a=>⟨hk,(j k (e i k b hk).1 a).2⟩)⟩
 ·obtain ⟨m,G,_,_,⟨_,h|⟨g,cap,cur,q,_⟩⟩,_⟩:=h
  ·rw[h.1];rfl
  ·rw[q];rfl
theorem SlI.map {a:(Nat->Prop)->World->Value->α->Prop}(b:∀F w u x,El F w u x->a F w u x) {F:Nat->Prop}{w:World}{v:Value}{xs:List α}(h:SlI El E F w v xs):SlI a E F w v xs:=by
 obtain⟨e,G,hvl,hl,hO,h1,hG,hd,j⟩:=h;exact⟨e,G,hvl,hl,hO,h1,hG,hd,λi k=>b _ _ _ _ (j i k)⟩
theorem SlI.form {F:Nat->Prop}{w:World}{v:Value}{xs:List α}(h:SlI El E F w v xs):(v=.slice none 0 0/\xs=[])\/∃g cap,v=.slice (some ⟨g,0,none⟩) xs.length cap/\F g/\g<w.heap.size:=by
 obtain⟨b,G,a,hl,hO,h1,hG,hd,hE⟩:=h;rcases hO.form with⟨rfl,rfl⟩|⟨g,cap,rfl,hnc,hBg,hgs⟩
 ·exact .inl ⟨rfl,List.eq_nil_of_length_eq_zero (by simpa using a.symm)⟩
 ·exact .inr ⟨g,cap,by rw[a],h1 g rfl,hgs⟩
theorem SlI.place {F:Nat->Prop}{g n cap:Nat}{w:World}{xs:List α}(h:SlI El E F w (.slice (some ⟨g,0,none⟩) n cap) xs) (k:Nat) (hk:k<xs.length):(∃z,w.cell? ⟨g,k,none⟩=some z)/\w.frozen? ⟨g,k,none⟩=false:=by
 obtain⟨a,G,hvl,hl,hO,h1,hG,hd,hE⟩:=h;refine⟨⟨_,hO.cell k (by omega)⟩,?_⟩
 have b:n=a.length:=by
  obtain⟨_,⟨h,_⟩|⟨_,_,_,h,_⟩⟩:=hO<;>cases h;rfl
 subst b;exact World.ownsRow.frozenAt hO k
theorem SlI.store (p:RdOk El) {F:Nat->Prop}{g n cap:Nat}{m a:World}{xs:List α}{u:Value}{y:α}(h:SlI El E F m (.slice (some ⟨g,0,none⟩) n cap) xs)
  (z:Ext m a) (D:El (From m.heap.size) a u y) (j:Nat) :
  SlI El E (λk=>F k\/m.heap.size<=k) (a.setCell ⟨g,j,none⟩ u) (.slice (some ⟨g,0,none⟩) n cap) (xs.set j y)/\a.grownBy (a.setCell ⟨g,j,none⟩ u) (some g):=by
 obtain⟨A,G,B,hl,hO,hF,C,hd,H⟩:=h;have I:=hO.lt g rfl;have q:OwnV 0 E a (.slice (some ⟨g,0,none⟩) n cap) A:=hO.kept z (by simp[Value.ownBlock])
 have J:n=A.length:=by
  obtain⟨_,⟨h,_⟩|⟨_,_,_,h,_⟩⟩:=q<;>cases h;rfl
 subst J;obtain⟨h1,h2⟩:=World.ownsRow.stored q j u;have K:(a.setCell ⟨g,j,none⟩ u).heap.size=a.heap.size:=by simp[World.setCell]
 have hblk:∀k,k≠g->(a.setCell ⟨g,j,none⟩ u).heap[k]? = a.heap[k]? :=λk hk=>Below.heap_setCell _ _ _ _ (by simpa using hk);refine⟨⟨A.set j u,λi k=>if i=j then m.heap.size<=k/\k<a.heap.size else G i k/\k<m.heap.size,by simp[B],by rw[List.length_set];exact hl,?_,λk hk => .inl (hF k hk),?_,?_,?_⟩,h2⟩
 ·unfold OwnV;rw[List.length_set];exact h1
 ·intro i k b hk
  rw[List.length_set] at b;simp only[Value.ownBlock];split at hk
  ·exact⟨.inr hk.1,by intro e;cases e;omega,by omega⟩
  ·obtain ⟨a1,a2,a3⟩:=C i k b hk.1
   exact⟨.inl a1,a2,by have:=z.size;omega⟩
 ·intro i L k b r hk w
  rw[List.length_set] at b r;split at hk<;>split at w
  ·omega
  ·omega
  ·omega
  ·exact hd i L k b r hk.1 w.1
 ·intro i b
  rw[List.length_set] at b;by_cases e:j=i
  ·subst e
   rw[gt_set_eq _ _ _ (by omega),gt_set_eq _ _ _ b];simp only[if_true];exact p.mono D (λk hk l=>⟨⟨hk,l⟩,by omega,hblk k (by have hk:m.heap.size<=k:=hk;omega)⟩)
  ·rw [gt_set_ne _ _ _ _ e,gt_set_ne _ _ _ _ e]
   simp only[if_neg (λh:i=j=>e h.symm)];refine p.mono (H i b) (λk hk l=>⟨⟨hk,l⟩,by have:=z.size;omega,?_⟩);rw[hblk k (λe=>(C i k b hk).2.1 (by rw[e];rfl))];exact z.block k l (by simp)
theorem SlI.turn (r:RdOk El) {F:Nat->Prop}{g n cap:Nat}{w:World}{xs:List α}(h:SlI El E F w (.slice (some ⟨g,0,none⟩) n cap) xs) (j:Nat) (p:j<xs.length) :
  ∃ (u:Value) (z:Nat->Prop),w.cell? ⟨g,j,none⟩=some u/\El z w u (gt xs j)/\(∀k,z k->F k/\k≠g/\k<w.heap.size) /\
   ∀w' y,Touch z w w'->El (λk=>z k\/w.heap.size<=k) w' u y->SlI El E (λk=>F k\/w.heap.size<=k) w' (.slice (some ⟨g,0,none⟩) n cap) (xs.set j y):=by
 obtain⟨D,G,hvl,hl,hO,hF,b,A,H⟩:=h;have I:=hO.lt g rfl;refine⟨gt D j,G j,hO.cell j (by omega),H j p,λk hk=>⟨(b j k p hk).1,λe=>(b j k p hk).2.1 (by rw[e];rfl),(b j k p hk).2.2⟩,λw' y B hy => ?_⟩;refine⟨D,λi k=>if i=j then (G j k\/w.heap.size<=k)/\k<w'.heap.size else G i k,by rw[List.length_set];exact hvl,by rw[List.length_set];exact hl,ownsRow_move hO (λk hk=>⟨B.block k (hO.lt k hk).2 (λe=>(b j k p e).2.1 hk),Nat.zero_le _⟩),λk hk => .inl (hF k hk),?_,?_,?_⟩
 ·intro i k a hk
  rw[List.length_set] at a;split at hk
  ·rcases hk with⟨hk|hk,hk2⟩
   ·exact⟨.inl (b j k p hk).1,(b j k p hk).2.1,hk2⟩
   ·exact⟨.inr hk,λe=>by have:=(hO.lt k e).2;omega,hk2⟩
  ·exact⟨.inl (b i k a hk).1,(b i k a hk).2.1,by have:=B.size;have:=(b i k a hk).2.2;omega⟩
 ·intro i C k a q hk l
  rw[List.length_set] at a q;split at hk<;>split at l
  ·omega
  ·rcases hk.1 with h1|h1
   ·exact(by have:=A j C k p q h1 l;omega)
   ·have:=(b C k q l).2.2;omega
  ·rcases l.1 with h1|h1
   ·exact(by have:=A i j k a p hk h1;omega)
   ·have:=(b i k a hk).2.2;omega
  ·exact A i C k a q hk l
 ·intro i a
  rw[List.length_set] at a;by_cases e:j=i
  ·subst e
   rw[gt_set_eq _ _ _ a];simp only[if_true];exact r.mono hy (λk hk m=>⟨⟨hk,m⟩,m,rfl⟩)
  ·rw [gt_set_ne _ _ _ _ e]
   simp only[if_neg (λh:i=j=>e h.symm)];exact r.mono (H i a) (λk hk m=>⟨hk,Nat.lt_of_lt_of_le m B.size,B.block k m (λJ=>e (A j i k p a J hk))⟩)
end
/-! ### append to such slices -/
section
variable {α:Type} [Inhabited α] {El:(Nat->Prop)->World->Value->α->Prop}{E:Nat}
theorem SlI.grow (A:RdOk El) {F:Nat->Prop}{l q w':World}{v B u:Value}{xs:List α}{y:α}{C:List Value}{G:Nat->Nat->Prop}(V:xs.length<=1000000)
  (w:C.length=xs.length) (hO:OwnV 0 E l v C) (hF:∀k,v.ownBlock=some k->F k) (N:∀i k,i<xs.length->G i k->F k/\v.ownBlock≠some k/\k<l.heap.size)
  (R:∀i j k,i<xs.length->j<xs.length->G i k->G j k->i=j) (J:∀i,i<xs.length->El (G i) l (gt C i) (gt xs i))
  (O:Ext l q) (S:El (From l.heap.size) q u y) (h1:OwnV 0 E w' B (C++[u])) (T:(q.alloc (.cells #[u] E)).grownBy w' v.ownBlock) (K:B.ownBlock=v.ownBlock\/B.ownBlock=some (q.heap.size+1)) :
  SlI El E (λk=>F k\/l.heap.size<=k) w' B (xs++[y])/\l.grownBy w' v.ownBlock/\q.grownBy w' v.ownBlock:=by
 have L:Ext q (q.alloc (.cells #[u] E)):=World.grownBy_alloc _ _ _;have D:∀k,v.ownBlock=some k->k<l.heap.size:=λk hk=>(hO.lt k hk).2;have m:q.grownBy w' v.ownBlock:=grown_trans (grown_of_ext _ L) T;have r:l.grownBy w' v.ownBlock:=grown_trans (grown_of_ext _ O) m
 have p:∀k,B.ownBlock=some k->v.ownBlock=some k\/q.heap.size<k:=by
  intro k hk;rcases K with h|h
  ·exact .inl (by rw[<-h];exact hk)
  ·rw[h] at hk;cases hk;exact .inr (by omega)
 have Q:=O.size;refine⟨⟨C++[u],λi k=>if i<xs.length then G i k/\k<l.heap.size else l.heap.size<=k/\k<q.heap.size,by simp[w],by simp;omega,h1,?_,?_,?_,?_⟩,r,m⟩
 ·intro k hk
  rcases p k hk with h|h
  ·exact .inl (hF k h)
  ·exact .inr (by omega)
 ·intro i k I hk
  split at hk
  ·rename_i b
   obtain⟨a1,a2,a3⟩:=N i k b hk.1;refine⟨.inl a1,λz => ?_,Nat.lt_of_lt_of_le a3 r.size⟩;rcases p k z with h|h
   ·exact a2 h
   ·omega
  ·refine ⟨.inr hk.1,λz => ?_,Nat.lt_of_lt_of_le hk.2 m.size⟩
   rcases p k z with h|h
   ·have:=D k h;omega
   ·omega
 ·intro i j k I U hk H
  simp only[List.length_append,List.length_singleton] at I U;split at hk<;>split at H
  ·exact R i j k (by assumption) (by assumption) hk.1 H.1
  ·omega
  ·omega
  ·omega
 ·intro i I
  simp only[List.length_append,List.length_singleton] at I;by_cases b:i<xs.length
  ·rw [gt_append_left _ _ _ (by omega),gt_append_left _ _ _ b]
   simp only[if_pos b];exact A.mono (J i b) (λk hk a=>⟨⟨hk,a⟩,Nat.lt_of_lt_of_le a r.size,r.block k a (λe=>(N i k b hk).2.1 e.symm)⟩)
  ·have M:i=xs.length:=by omega
   subst M;rw[gt_concat,<-w,gt_concat];simp only[w,Nat.lt_irrefl,if_false]
   exact A.mono S (λk hk a=>⟨⟨hk,a⟩,Nat.lt_of_lt_of_le a m.size,m.block k a (λe=>by
    have hk:l.heap.size<=k:=hk;have:=D k e.symm;omega)⟩)
theorem wp_app_I (e:RdOk El) (T:Nat) (z:Value) (bytes:Nat) (M:Tryz.prog.underlying T=some (.slice E))
  (N:(Tryz.prog.info? E).map (λi=>(i.zero,i.size,i.bytes))=some (some z,1,bytes)) (B:z.cells.size=1) (C:bytes<=64)
  {l:Array Oper}{rest:List Oper}{o:Oper}{a:Act}{Q:Exit->Act->World->Prop}{w:World}(D:o.guard=none) (s x:Operand)
  (O:o.op=Op.call { callee:=Callee.builtin Builtin.append,args := #[s,x],argTypes := #[T,T] }) (F:Nat->Prop) (m b:World) (v u:Value) (xs:List α) (y:α) (R:a.eval s=v) (p:SlI El E F m v xs)
  (J:Ext m b) (K:El (From m.heap.size) b u y) (S:w=b.alloc (.cells #[u] E)) (hx:a.eval x=.slice (some ⟨b.heap.size,0,none⟩) 1 1) (q:xs.length<=1000000)
  (h:∀A w',SlI El E (λk=>F k\/m.heap.size<=k) w' A (xs++[y])->m.grownBy w' v.ownBlock->b.grownBy w' v.ownBlock->wpList Tryz.prog l Q rest (a.put o.dst A) w') :
  wpList Tryz.prog l Q (o :: rest) a w:=by
 subst S;obtain⟨L,G,hvl,_,hO,hF,hG,hd,hEx⟩:=p;have H:Ext b (b.alloc (.cells #[u] E)):=World.grownBy_alloc _ _ _;have I:OwnV 0 E (b.alloc (.cells #[u] E)) v L:=hO.kept (grown_trans J H) (by cases Y:v.ownBlock<;>simp);refine wp_app T E z bytes M N B C D s x O 0 v L R I (some ⟨b.heap.size,0,none⟩) 1 1 [u] hx rfl (by simp) ?_ ?_ (by omega) (by omega) ?_
 ·intro j Z
  have:j=0:=by omega
  subst this;exact⟨_,_,rfl,by rw[World.cell?_alloc_at _ _ _ _ rfl];rfl⟩
 ·intro u' r
  simp at r;subst r;exact e.one K
 ·intro A w' U V _ W
  obtain⟨X,r2,r3⟩:=SlI.grow e q hvl hO hF hG hd hEx J K U V (by rcases W with k|k;exact .inl k;exact .inr (by rw[k];simp));exact h A w' X r2 r3
theorem step_app_I (e:RdOk El) (T:Nat) (z:Value) (bytes:Nat) (L:Tryz.prog.underlying T=some (.slice E))
  (M:(Tryz.prog.info? E).map (λi=>(i.zero,i.size,i.bytes))=some (some z,1,bytes)) (q:z.cells.size=1) (r:bytes<=64)
  {A:Array Oper}{o:Oper}{a:Act}{K:Act->World->Prop}{Q:Exit->Act->World->Prop}{N:Prop}{w:World}(B:o.guard=none) (s x:Operand)
  (O:o.op=Op.call { callee:=Callee.builtin Builtin.append,args := #[s,x],argTypes := #[T,T] }) (F:Nat->Prop) (j b:World) (v u:Value) (xs:List α) (y:α) (R:a.eval s=v) (l:SlI El E F j v xs)
  (H:Ext j b) (I:El (From j.heap.size) b u y) (S:w=b.alloc (.cells #[u] E)) (hx:a.eval x=.slice (some ⟨b.heap.size,0,none⟩) 1 1) (m:xs.length<=1000000)
  (h:∀p w',SlI El E (λk=>F k\/j.heap.size<=k) w' p (xs++[y])->j.grownBy w' v.ownBlock->b.grownBy w' v.ownBlock->K (a.put o.dst p) w') :
  if Region.wanted o (yielded A a.tmps)=true then Oper.wp Tryz.prog o a w K Q else N:=by
 subst S;obtain⟨J,G,hvl,_,hO,hF,hG,hd,hEx⟩:=l;have C:Ext b (b.alloc (.cells #[u] E)):=World.grownBy_alloc _ _ _;have D:OwnV 0 E (b.alloc (.cells #[u] E)) v J:=hO.kept (grown_trans H C) (by cases Y:v.ownBlock<;>simp);refine step_app T E z bytes L M q r B s x O 0 v J R D b.heap.size u hx (by rw[World.cell?_alloc_at _ _ _ _ rfl];rfl) (e.one I) (by omega) (by omega) ?_;intro p w' U V W;obtain⟨X,r2,r3⟩:=SlI.grow e m hvl hO hF hG hd hEx H I U V (by rcases W with k|k;exact .inl k;exact .inr (by rw[k];simp));exact h p w' X r2 r3
end
theorem run_mk_ints (n:Nat) (k:n<=2147483648) (w:World):(Instr.makeSlice 24 (.int .i64 (n:Int)) (.int .i64 (n:Int))).run Tryz.prog w=.ok (.slice (some ⟨w.heap.size,0,none⟩) n n) (w.alloc (.cells (madeCells #[.int .i64 0] n) 2)):=by
 obtain⟨i,j,a,hz1,b⟩:=info_parts Tryz.infoInt;have e:=run_make (P:=Tryz.prog) w 24 2 i (.int .i64 0) und_ints j a .i64 .i64 n n (by omega) (Int.le_refl _) (by rw[b];omega) (by omega);simp only[Int.toNat_natCast,hz1,Nat.mul_one] at e;exact e
theorem own_mk_ints (n:Nat) (a:n<=2147483648) (w:World):Own w.heap.size (w.alloc (.cells (madeCells #[.int .i64 0] n) 2)) (.slice (some ⟨w.heap.size,0,none⟩) n n) (List.replicate n 0):=by
 have h:=World.ownsRow_lit (base:=w.heap.size) (e:=2) (size:=1) w (madeCells #[.int .i64 0] n) n (Nat.le_refl _) (by unfold maxLen;omega) (by have:=size_madeCells #[Value.int .i64 0] n;simpa using this);rw[toList_madeCells_one] at h;show World.ownsRow _ _ _ _ _ _ _
 rw[List.length_replicate,List.map_replicate];exact h
abbrev RowsI (F:Nat->Prop) (w:World) (v:Value) (xs:List (List Int)):Prop:=SlI OwnIn 24 F w v xs
abbrev Rows3I (F:Nat->Prop) (w:World) (v:Value) (xs:List (List (List Int))):Prop:=SlI (SlI OwnIn 24) 25 F w v xs
theorem rdRowsI:RdOk (λF w u (x:List (List Int))=>RowsI F w u x):=rdI rdOwn
theorem rdRows3I:RdOk (λF w u (x:List (List (List Int)))=>Rows3I F w u x):=rdI (rdI rdOwn)
theorem RowsI.rows {F:Nat->Prop}{w:World}{v:Value}{xs:List (List Int)}(h:RowsI F w v xs):Rows2 F w v xs:=RowsD.rows (SlI.d h)
theorem Rows3I.rows {F:Nat->Prop}{w:World}{v:Value}{xs:List (List (List Int))}(h:Rows3I F w v xs):Rows3 F w v xs:=Rows3D.rows (SlI.d (SlI.map (λ_ _ _ _ h=>SlI.d h) h))
def PresX (F:Nat->Prop) (w:World) (vo vp vc:Value) (P:Pr):Prop:=
 ∃Fo Fp Fc:Nat->Prop,OwnIn Fo w vo P.orders/\RowsI Fp w vp P.powers/\Rows3I Fc w vc P.conj/\(∀k,Fo k->F k/\¬Fp k/\¬Fc k)/\(∀k,Fp k->F k/\¬Fc k)/\(∀k,Fc k->F k)
theorem PresX.p3 {F:Nat->Prop}{w:World}{vo vp vc:Value}{P:Pr}(h:PresX F w vo vp vc P):Pres3 F w vo vp vc P:=by
 obtain⟨Fo,Fp,Fc,h1,a,b,e,i,h6⟩:=h;exact⟨Ints.sub h1.ints (λk hk _=>(e k hk).1),Rows2.sub (RowsI.rows a) (λk hk _=>(i k hk).1),Rows3.sub (Rows3I.rows b) (λk hk _=>h6 k hk)⟩
theorem PresX.mono {F F':Nat->Prop}{w w':World}{vo vp vc:Value}{P:Pr}(h:PresX F w vo vp vc P) (b:∀k,F k->k<w.heap.size->F' k/\k<w'.heap.size/\w'.heap[k]? = w.heap[k]?):PresX F' w' vo vp vc P:=by
 obtain⟨Fo,Fp,Fc,h1,h2,h3,e,i,j⟩:=h
 refine ⟨λk=>Fo k/\k<w.heap.size,λk=>Fp k/\k<w.heap.size,λk=>Fc k/\k<w.heap.size,rdOwn.mono h1 (λk hk a=>⟨⟨hk,a⟩,(b k (e k hk).1 a).2⟩),
  rdRowsI.mono h2 (λk hk a=>⟨⟨hk,a⟩,(b k (i k hk).1 a).2⟩),rdRows3I.mono h3 (λk hk a=>⟨⟨hk,a⟩,(b k (j k hk) a).2⟩),λk hk => ?_,λk hk => ?_,λk hk => ?_⟩
 ·exact⟨(b k (e k hk.1).1 hk.2).1,λh=>(e k hk.1).2.1 h.1,λh=>(e k hk.1).2.2 h.1⟩
 ·exact⟨(b k (i k hk.1).1 hk.2).1,λh=>(i k hk.1).2 h.1⟩
 ·exact(b k (j k hk.1) hk.2).1
theorem PresX.shape {F:Nat->Prop}{w:World}{vo vp vc:Value}{P:Pr}(h:PresX F w vo vp vc P):∃a c a2 c2 b c3,vo=.slice a P.orders.length c/\vp=.slice a2 P.powers.length c2/\vc=.slice b P.conj.length c3:=by
 obtain⟨Fo,Fp,Fc,h1,e,i,_⟩:=h;obtain⟨a,c,rfl,_⟩:=h1.ints.shape;obtain⟨a2,c2,rfl,_⟩:=SlD.shape (SlI.d e);obtain⟨b,c3,rfl,_⟩:=SlD.shape (SlI.d i);exact⟨_,_,_,_,_,_,rfl,rfl,rfl⟩
theorem PresX.wide {F F':Nat->Prop}{w:World}{vo vp vc:Value}{P:Pr}(h:PresX F w vo vp vc P) (hF:∀k,F k->F' k):PresX F' w vo vp vc P:=by
 obtain⟨Fo,Fp,Fc,h1,h2,h3,a,b,e⟩:=h;exact⟨Fo,Fp,Fc,h1,h2,h3,λk hk=>⟨hF k (a k hk).1,(a k hk).2⟩,λk hk=>⟨hF k (b k hk).1,(b k hk).2⟩,λk hk=>hF k (e k hk)⟩
theorem PresX.put {F:Nat->Prop}{w w':World}{vo vp vc:Value}{l:Pr}{Fo Fp Fc Fo' Fp' Fc':Nat->Prop}(r:Option Nat) (_hT:w.grownBy w' r)
  (h1:OwnIn Fo' w' vo l.orders) (y:RowsI Fp' w' vp l.powers) (z:Rows3I Fc' w' vc l.conj)
  (q:∀k,Fo k->F k/\¬Fp k/\¬Fc k) (u:∀k,Fp k->F k/\¬Fc k) (A:∀k,Fc k->F k)
  (i:(∀k,Fo' k->Fo k/\k<w.heap.size)) (m:(∀k,Fp' k->Fp k/\k<w.heap.size\/w.heap.size<=k)) (p:(∀k,Fc' k->Fc k/\k<w.heap.size\/w.heap.size<=k)) (j:(∀k,Fp' k->k<w.heap.size)\/(∀k,Fc' k->k<w.heap.size)) :
  PresX (λk=>F k\/w.heap.size<=k) w' vo vp vc l:=by
 refine⟨Fo',Fp',Fc',h1,y,z,λk hk=>⟨.inl (q k (i k hk).1).1,λe => ?_,λe => ?_⟩,λk hk=>⟨?_,λe => ?_⟩,λk hk => ?_⟩
 ·rcases m k e with e|e
  ·exact(q k (i k hk).1).2.1 e.1
  ·have:=(i k hk).2;omega
 ·rcases p k e with e|e
  ·exact(q k (i k hk).1).2.2 e.1
  ·have:=(i k hk).2;omega
 ·rcases m k hk with e|e
  ·exact .inl (u k e.1).1
  ·exact .inr e
 ·rcases j with j|j
  ·have a:=j k hk
   rcases m k hk with b|b
   ·rcases p k e with c|c
    ·exact(u k b.1).2 c.1
    ·omega
   ·omega
  ·have a:=j k e
   rcases p k e with c|c
   ·rcases m k hk with b|b
    ·exact(u k b.1).2 c.1
    ·omega
   ·omega
 ·rcases p k hk with e|e
  ·exact .inl (A k e.1)
  ·exact .inr e
theorem PresX.openP {F:Nat->Prop}{b:World}{vo vp vc:Value}{P:Pr}(h:PresX F b vo vp vc P) (i:Nat) (r:i<P.powers.length) :
  ∃ g cap z,vp=.slice (some ⟨g,0,none⟩) P.powers.length cap/\F g/\g<b.heap.size/\b.cell? ⟨g,i,none⟩=some z/\(∀j,j<P.powers.length->b.frozen? ⟨g,j,none⟩=false) /\
   ∀m u y,Ext b m->OwnIn (From b.heap.size) m u y->PresX (λk=>F k\/b.heap.size<=k) (m.setCell ⟨g,i,none⟩ u) vo vp vc { P with powers:=P.powers.set i y } :=by
 obtain⟨Fo,Fp,Fc,h1,q,C,A,w,h6⟩:=h;rcases SlI.form q with⟨_,e⟩|⟨g,cap,rfl,l,hgl⟩
 ·rw[e] at r;simp at r
 obtain⟨⟨z,hz⟩,_⟩:=SlI.place q i r;refine⟨g,cap,z,rfl,(w g l).1,hgl,hz,λj D=>(SlI.place q j D).2,λm u y B E => ?_⟩;obtain⟨G,H⟩:=SlI.store rdOwn q B E i;have p:b.grownBy (m.setCell ⟨g,i,none⟩ u) (some g):=grown_trans (grown_of_ext _ B) H
 exact PresX.put (Fo':=λk=>Fo k/\k<b.heap.size) (Fp':=λk=>Fp k/\k<b.heap.size\/b.heap.size<=k) (Fc':=λk=>Fc k/\k<b.heap.size) (some g) p
  (rdOwn.mono h1 (λk hk a=>⟨⟨hk,a⟩,Nat.lt_of_lt_of_le a p.size,p.block k a (λe=>(A k hk).2.1 (by cases e;exact l))⟩))
  (rdRowsI.mono G (λk hk a=>⟨by
   rcases hk with hk|hk
   ·rcases Nat.lt_or_ge k b.heap.size with h|h
    ·exact .inl ⟨hk,h⟩
    ·exact .inr h
   ·exact .inr hk,a,rfl⟩))
  (rdRows3I.mono C (λk hk a=>⟨⟨hk,a⟩,Nat.lt_of_lt_of_le a p.size,p.block k a (λe=>(w g l).2 (by cases e;exact hk))⟩))
  A w h6 (λ_ h=>h) (λ_ h=>h) (λ_ h => .inl h) (.inr (λ_ h=>h.2))
theorem PresX.openC {F:Nat->Prop}{l:World}{vo vp vc:Value}{P:Pr}(h:PresX F l vo vp vc P) (i j:Nat) (C:i<P.conj.length) (D:j<(gt P.conj i).length) :
  ∃ g cap b m z,vc=.slice (some ⟨g,0,none⟩) P.conj.length cap/\F g/\g<l.heap.size/\l.cell? ⟨g,i,none⟩=some (.slice (some ⟨b,0,none⟩) (gt P.conj i).length m)/\F b/\b≠g/\b<l.heap.size /\
   l.cell? ⟨b,j,none⟩=some z/\l.frozen? ⟨b,j,none⟩=false /\
   ∀w u y,Ext l w->OwnIn (From l.heap.size) w u y->PresX (λk=>F k\/l.heap.size<=k) (w.setCell ⟨b,j,none⟩ u) vo vp vc { P with conj:=P.conj.set i ((gt P.conj i).set j y) } :=by
 obtain⟨Fo,Fp,Fc,h1,J,E,G,H,h6⟩:=h;rcases SlI.form E with⟨_,e⟩|⟨g,cap,rfl,hFg,hgl⟩
 ·rw[e] at C;simp at C
 obtain⟨v,Gj,hc,p,B,hturn⟩:=SlI.turn (rdI rdOwn) E i C;rcases SlI.form p with⟨_,e⟩|⟨b,m,rfl,q,hbl⟩
 ·rw[e] at D;simp at D
 obtain⟨⟨z,hz⟩,hpf⟩:=SlI.place p j D;have r:=(B b q).1;refine⟨g,cap,b,m,z,rfl,h6 g hFg,hgl,hc,h6 b r,(B b q).2.1,hbl,hz,hpf,λw u y I K => ?_⟩;obtain⟨L,M⟩:=SlI.store rdOwn p I K j;have A:l.grownBy (w.setCell ⟨b,j,none⟩ u) (some b):=grown_trans (grown_of_ext _ I) M;have N:=hturn (w.setCell ⟨b,j,none⟩ u) _ (Touch.of A (λk hk=>by cases hk;exact q)) L
 exact PresX.put (Fo':=λk=>Fo k/\k<l.heap.size) (Fp':=λk=>Fp k/\k<l.heap.size) (Fc':=λk=>Fc k/\k<l.heap.size\/l.heap.size<=k) (some b) A
  (rdOwn.mono h1 (λk hk a=>⟨⟨hk,a⟩,Nat.lt_of_lt_of_le a A.size,A.block k a (λe=>(G k hk).2.2 (by cases e;exact r))⟩))
  (rdRowsI.mono J (λk hk a=>⟨⟨hk,a⟩,Nat.lt_of_lt_of_le a A.size,A.block k a (λe=>(H k hk).2 (by cases e;exact r))⟩))
  (rdRows3I.mono N (λk hk a=>⟨by
   rcases hk with hk|hk
   ·rcases Nat.lt_or_ge k l.heap.size with h|h
    ·exact .inl ⟨hk,h⟩
    ·exact .inr h
   ·exact .inr hk,a,rfl⟩))
  G H h6 (λ_ h=>h) (λ_ h => .inl h) (λ_ h=>h) (.inl (λ_ h=>h.2))
theorem PresX.openPI {F:Nat->Prop}{l:World}{vo vp vc:Value}{P:Pr}(h:PresX F l vo vp vc P) (i j:Nat) (B:i<P.powers.length) (H:j<(gt P.powers i).length) :
  ∃ g cap b m,vp=.slice (some ⟨g,0,none⟩) P.powers.length cap/\F g/\g<l.heap.size/\l.cell? ⟨g,i,none⟩=some (.slice (some ⟨b,0,none⟩) (gt P.powers i).length m)/\F b/\b≠g/\b<l.heap.size /\
   l.cell? ⟨b,j,none⟩=some (.int .i64 (gt (gt P.powers i) j))/\(∀p,Ext l p->p.frozen? ⟨b,j,none⟩=false) /\
   ∀p x,Ext l p->PresX (λk=>F k\/l.heap.size<=k) (p.setCell ⟨b,j,none⟩ (.int .i64 x)) vo vp vc { P with powers:=P.powers.set i ((gt P.powers i).set j x) } :=by
 obtain⟨Fo,Fp,Fc,h1,D,I,E,y,h6⟩:=h;rcases SlI.form D with⟨_,e⟩|⟨g,cap,rfl,C,hgl⟩
 ·rw[e] at B;simp at B
 obtain⟨v,Gj,hc,hEl,w,hturn⟩:=SlI.turn rdOwn D i B;obtain⟨z,G,q3⟩:=hEl;obtain⟨b,m,rfl,_,hbl⟩:=z.form (by omega);have q:=G b rfl;have r:=(w b q).1;refine⟨g,cap,b,m,rfl,(y g C).1,hgl,hc,(y b r).1,(w b q).2.1,hbl,z.cell j H,λp A=>(z.ext0 A).frozen j,λp x A => ?_⟩;obtain⟨J,K⟩:=(z.ext0 A).store j x;have u:l.grownBy (p.setCell ⟨b,j,none⟩ (.int .i64 x)) (some b):=grown_trans (grown_of_ext _ A) K;have L:=hturn (p.setCell ⟨b,j,none⟩ (.int .i64 x)) _ (Touch.of u (λk hk=>by cases hk;exact q)) (⟨J,λk hk => .inl (G k hk),by rw[List.length_set];exact q3⟩:OwnIn (λk=>Gj k\/l.heap.size<=k) _ _ ((gt P.powers i).set j x))
 exact PresX.put (Fo':=λk=>Fo k/\k<l.heap.size) (Fp':=λk=>Fp k/\k<l.heap.size\/l.heap.size<=k) (Fc':=λk=>Fc k/\k<l.heap.size) (some b) u
  (rdOwn.mono h1 (λk hk a=>⟨⟨hk,a⟩,Nat.lt_of_lt_of_le a u.size,u.block k a (λe=>(E k hk).2.1 (by cases e;exact r))⟩))
  (rdRowsI.mono L (λk hk a=>⟨by
   rcases hk with hk|hk
   ·rcases Nat.lt_or_ge k l.heap.size with h|h
    ·exact .inl ⟨hk,h⟩
    ·exact .inr h
   ·exact .inr hk,a,rfl⟩))
  (rdRows3I.mono I (λk hk a=>⟨⟨hk,a⟩,Nat.lt_of_lt_of_le a u.size,u.block k a (λe=>(y b r).2 (by cases e;exact hk))⟩))
  E y h6 (λ_ h=>h) (λ_ h=>h) (λ_ h => .inl h) (.inr (λ_ h=>h.2))
theorem PresX.openCI {F:Nat->Prop}{l:World}{vo vp vc:Value}{P:Pr}(h:PresX F l vo vp vc P) (i k j:Nat) (E:i<P.conj.length) (hk:k<(gt P.conj i).length) (M:j<(gt (gt P.conj i) k).length) :
  ∃ g cap e m b p,vc=.slice (some ⟨g,0,none⟩) P.conj.length cap/\F g/\g<l.heap.size/\l.cell? ⟨g,i,none⟩=some (.slice (some ⟨e,0,none⟩) (gt P.conj i).length m)/\F e/\e<l.heap.size /\
   l.cell? ⟨e,k,none⟩=some (.slice (some ⟨b,0,none⟩) (gt (gt P.conj i) k).length p)/\F b/\b≠g/\b≠e/\b<l.heap.size/\l.cell? ⟨b,j,none⟩=some (.int .i64 (gt (gt (gt P.conj i) k) j))/\(∀q,Ext l q->q.frozen? ⟨b,j,none⟩=false) /\
   ∀q x,Ext l q->PresX (λk=>F k\/l.heap.size<=k) (q.setCell ⟨b,j,none⟩ (.int .i64 x)) vo vp vc { P with conj:=P.conj.set i ((gt P.conj i).set k ((gt (gt P.conj i) k).set j x)) } :=by
 obtain⟨Fo,Fp,Fc,h1,N,I,J,K,h6⟩:=h;rcases SlI.form I with⟨_,e⟩|⟨g,cap,rfl,hFg,hgl⟩
 ·rw[e] at E;simp at E
 obtain⟨v,Gj,hc,A,r,hturn⟩:=SlI.turn (rdI rdOwn) I i E;rcases SlI.form A with⟨_,e⟩|⟨e,m,rfl,G,hel⟩
 ·rw[e] at hk;simp at hk
 obtain⟨S,Hj,hc2,hE2,B,hturn2⟩:=SlI.turn rdOwn A k hk;obtain⟨C,L,q3⟩:=hE2;obtain⟨b,p,rfl,_,hbl⟩:=C.form (by omega);have u:=L b rfl;have w:=(B b u).1;have y:=(r b w).1;refine⟨g,cap,e,m,b,p,rfl,h6 g hFg,hgl,hc,h6 e (r e G).1,hel,hc2,h6 b y,(r b w).2.1,(B b u).2.1,hbl,C.cell j M,λq D=>(C.ext0 D).frozen j,λq x D => ?_⟩;obtain⟨O,Q⟩:=(C.ext0 D).store j x;have z:l.grownBy (q.setCell ⟨b,j,none⟩ (.int .i64 x)) (some b):=grown_trans (grown_of_ext _ D) Q;have H:=hturn2 (q.setCell ⟨b,j,none⟩ (.int .i64 x)) _ (Touch.of z (λk hk=>by cases hk;exact u)) (⟨O,λk hk => .inl (L k hk),by rw[List.length_set];exact q3⟩:OwnIn (λk=>Hj k\/l.heap.size<=k) _ _ ((gt (gt P.conj i) k).set j x));have R:=hturn (q.setCell ⟨b,j,none⟩ (.int .i64 x)) _ (Touch.of z (λk hk=>by cases hk;exact w)) H
 exact PresX.put (Fo':=λk=>Fo k/\k<l.heap.size) (Fp':=λk=>Fp k/\k<l.heap.size) (Fc':=λk=>Fc k/\k<l.heap.size\/l.heap.size<=k) (some b) z
  (rdOwn.mono h1 (λk hk a=>⟨⟨hk,a⟩,Nat.lt_of_lt_of_le a z.size,z.block k a (λe=>(J k hk).2.2 (by cases e;exact y))⟩))
  (rdRowsI.mono N (λk hk a=>⟨⟨hk,a⟩,Nat.lt_of_lt_of_le a z.size,z.block k a (λe=>(K k hk).2 (by cases e;exact y))⟩))
  (rdRows3I.mono R (λk hk a=>⟨by
   rcases hk with hk|hk
   ·rcases Nat.lt_or_ge k l.heap.size with h|h
    ·exact .inl ⟨hk,h⟩
    ·exact .inr h
   ·exact .inr hk,a,rfl⟩))
  J K h6 (λ_ h=>h) (λ_ h => .inl h) (λ_ h=>h) (.inl (λ_ h=>h.2))
structure Shp (N:Nat) (P:Pr):Prop where
 n:P.orders.length<=N
 p:P.powers.length=P.orders.length
 c:P.conj.length=P.orders.length
 cl:∀i,i<P.orders.length->(gt P.conj i).length=P.orders.length-1-i
 pv:∀v∈P.powers,v.length<=N
 cv:∀r∈P.conj,∀v∈r,v.length<=N
def setP (P:Pr) (i:Nat) (v:List Int):Pr := { P with powers:=P.powers.set i v }
def setC (P:Pr) (i j:Nat) (v:List Int):Pr := { P with conj:=P.conj.set i ((gt P.conj i).set j v) }
theorem mem_set_or {α:Type}{l:List α}{i:Nat}{a b:α}(h:b∈l.set i a):b=a\/b∈l:=by
 rcases List.mem_or_eq_of_mem_set h with h|h
 ·exact .inr h
 ·exact .inl h
theorem Shp.setP {N:Nat}{P:Pr}(h:Shp N P) (i:Nat) {v:List Int}(a:v.length<=N):Shp N (setP P i v):=
 ⟨h.n,by show(P.powers.set i v).length=_;rw[List.length_set];exact h.p,h.c,h.cl,λx hx=>by
  rcases mem_set_or hx with e|e
  ·rw[e];exact a
  ·exact h.pv x e,h.cv⟩
theorem Shp.setC {N:Nat}{P:Pr}(h:Shp N P) (i j:Nat) (l:i<P.orders.length) {v:List Int}(m:v.length<=N):Shp N (setC P i j v):=by
 have a:i<P.conj.length:=by rw[h.c];exact l
 refine⟨h.n,h.p,by show(P.conj.set i _).length=_;rw[List.length_set];exact h.c,λk hk => ?_,h.pv,λr q x hx => ?_⟩
 ·show (gt (P.conj.set i _) k).length=_
  by_cases e:i=k
  ·subst e
   rw[gt_set_eq _ _ _ a,List.length_set];exact h.cl i l
  ·rw[gt_set_ne _ _ _ _ e];exact h.cl k hk
 ·rcases mem_set_or q with e|e
  ·rw [e] at hx
   rcases mem_set_or hx with b|b
   ·rw[b];exact m
   ·exact h.cv _ (by rw[gt_eq _ i a];exact List.getElem_mem a) x b
  ·exact h.cv r e x hx
theorem Shp.mono {N M:Nat}{P:Pr}(h:Shp N P) (a:N<=M):Shp M P:=⟨Nat.le_trans h.n a,h.p,h.c,h.cl,λv b=>Nat.le_trans (h.pv v b) a,λr e v b=>Nat.le_trans (h.cv r e v b) a⟩
def trivC (n i:Nat):List (List Int):=(List.range (n-1-i)).map (λk=>unitV n (i+1+k))
def trivP (o:List Int):Pr:=⟨o,List.replicate o.length (zeros o.length),(List.range o.length).map (trivC o.length)⟩
theorem trivC_len (n i:Nat):(trivC n i).length=n-1-i:=by unfold trivC;simp
theorem unitV_len (n k:Nat):(unitV n k).length=n:=by unfold unitV;simp
theorem zeros_len (n:Nat):(zeros n).length=n:=by unfold zeros;simp
theorem trivP_shp (o:List Int) {N:Nat}(h:o.length<=N):Shp N (trivP o):=by
 refine⟨h,by simp[trivP],by simp[trivP],λi e => ?_,λv b => ?_,λr j v b => ?_⟩
 ·have a:i<o.length:=e
  show(gt ((List.range o.length).map (trivC o.length)) i).length=o.length-1-i
  rw[gt_map _ _ _ (by simpa using a),gt_eq _ _ (by simpa using a),List.getElem_range,trivC_len]
 ·have:=List.eq_of_mem_replicate b
  rw[this,zeros_len];exact h
 ·obtain ⟨i,_,rfl⟩:=List.mem_map.1 j
  obtain⟨k,_,rfl⟩:=List.mem_map.1 b;rw[unitV_len];exact h
end Go.Proofs.YtoakmefajbbggaaGreat
