/- Merged from templates. -/
import Derived.Test.YtoakmefajbbggaaGreatM10
set_option maxRecDepth 100000
set_option maxHeartbeats 8000000
namespace Go.Proofs.YtoakmefajbbggaaGreat
open Go.Proofs Go.Shelf Go.RowKit Go.Lib Go.Sort
theorem La {W w':World}(h:Ext W w') (r:W.drawn<=w'.drawn):∃q j,w'=grow (W.drewN q) j:=by
 refine⟨w'.drawn-W.drawn,w'.heap.extract W.heap.size w'.heap.size,?_⟩;obtain⟨h1,h2,h3,h4,h5⟩:=h
 have p:W.heap++w'.heap.extract W.heap.size w'.heap.size=w'.heap:=by
  apply Array.ext
  ·simp;omega
  ·intro i u k
   by_cases a:i<W.heap.size
   ·rw [Array.getElem_append_left a]
    have:=h5 i a (by simp);rw[Array.getElem?_eq_getElem k,Array.getElem?_eq_getElem a] at this;exact(Option.some.inj this).symm
   ·rw [Array.getElem_append_right (by omega)]
    simp only[Array.getElem_extract];congr 1;omega
 cases w' with
 | mk heap tape drawn os output=>
  cases W with
  | mk l m e w b=>
   simp only at h1 h2 h3 p r;subst h1;subst h2;subst h3;unfold grow World.drewN;simp only[World.mk.injEq];exact⟨p.symm,trivial,by omega,trivial,trivial⟩
section
variable {α:Type} [Inhabited α]
theorem Lb {a:α->α->Int}(h:SWO (ltOf a)) (L:List α):SWO (ltOf (λi j:Nat=>a (gt L i) (gt L j))) where
 irrefl x:=h.irrefl (gt L x)
 trans x y z:=h.trans (gt L x) (gt L y) (gt L z)
 ntrans x y z:=h.ntrans (gt L x) (gt L y) (gt L z)
theorem Lc {P:Program}{ρ : Ren}(aa:SlLaysF.n6 P ρ) {El:(Nat->Prop)->World->Value->α->Prop}(J:j8 El) (E B:Nat) (R:α->α->Int) (hS:SWO (ltOf R)) (g:Nat) (Z:Array Value)
  (eg:∀args w,(callFunc g args).run P w=.ok (.enter g args) w) (w:World) (v:Value) (L:List α) (A:Nat->Prop) (hL:gT El E B A w v L) (av:0<L.length) (ap:L.length<=1000000)
  (T:∀W,El (λ_=>True) W (.slice none 0 0) default)
  (U:∀(W:World) (u1 u2:Value) (x y:α),w.grownBy W v.ownBlock->(x∈L\/x=default)->(y∈L\/y=default)->El (λ_=>True) W u1 x->El (λ_=>True) W u2 y ->
   Calls P g (#[u1,u2]++Z) W λe w'=>e=.returned (.int .i64 (R x y))/\Ext W w'/\W.drawn<=w'.drawn) :
  Calls P (ρ.f 6) #[v,.func (.func g) #[] Z] w λe w'=>e=.returned (.tuple #[])/\∃L',gT El E B A w' v L'/\L'.Perm L/\L'.Pairwise (λx y=>0<=R y x)/\w.grownBy w' v.ownBlock:=by
 obtain⟨p,G,q,hO,hG,hd,hE,Ld,Le⟩:=hL;obtain⟨_,⟨rfl,h0⟩|⟨gb,cap,cur,rfl,hBg,hb,hnc,hcm,hsz,hx⟩⟩:=hO
 ·omega
 have af:gb<w.heap.size:=(Array.getElem?_eq_some_iff.1 hb).1;have V:OneCell (kV p):=Lf λi C=>J.one (hE i (by omega))
 have X:(List.range L.length).map (kV p)=p:=by
  apply List.ext_getElem (by simp[q]);intro j h1 S;simp[kV,gt,S]
 have hH:Go.Sort.Holds (kV p) w gb 0 (List.range L.length).toArray:=Lg hb (by rw[X,List.length_range,<-q];simpa using hx)
 have K:CmpLays1 P g Z (kV p) (λi j:Nat=>R (gt L i) (gt L j)) gb 0 (List.range L.length).toArray.size w:=by
  intro m os dk _ x y;have u:w.grownBy (sortWorld (kV p) w gb 0 m dk os) (some gb):=ET dk
  have r:∀k,El (λ_=>True) (sortWorld (kV p) w gb 0 m dk os) (kV p k) (gt L k)/\(gt L k∈L\/gt L k=default):=by
   intro k;by_cases hk:k<p.length
   ·have M:=hE k (by omega)
    unfold kV;rw[if_pos hk];exact⟨J.mono M (λb F D=>⟨trivial,Nat.lt_of_lt_of_le D u.size,u.block b D (λe=>(hG k b (by omega) F).2.1 (by cases e;rfl))⟩),.inl (iW (by omega))⟩
   ·have h1:gt L k=default:=by simp[gt,show ¬k<L.length by omega]
    unfold kV;rw[if_neg hk,h1];exact⟨T _,.inr rfl⟩
  refine(U _ _ _ _ _ u (r x).2 (r y).2 (r x).1 (r y).1).mono ?_;rintro e w' ⟨rfl,M,hdr⟩;exact⟨rfl,La M hdr⟩
 have H:=Any.slices_SortFunc aa (kV p) V (λi j:Nat=>R (gt L i) (gt L j)) (Lb hS L) g Z gb 0 cap (List.range L.length).toArray w eg K hH af (by simp;omega);have I:(List.range L.length).toArray.size=p.length:=by simp[q]
 rw[I] at H;refine H.mono ?_;rintro e w' ⟨M,a,n,os,⟨Y,_,EU⟩,z7,rfl⟩;have N:a.toList.length=L.length:=by simpa [q] using Y
 have hP:a.toList.Perm (List.range L.length):=by
  have h1:a.extract 0 p.length=a:=by
   apply Array.ext';rw[q,<-N];simp
  have S:(List.range L.length).toArray.extract 0 p.length=(List.range L.length).toArray:=by
   apply Array.ext';rw[q];simp
  rw[h1,S] at EU;simpa using EU
 have z:∀i,i<L.length->gt a.toList i<L.length:=λi C=>by
  have:=hP.subset (iW (l:=a.toList) (i:=i) (by omega));simpa using this
 have ah:a.toList.Nodup:=hP.symm.nodup List.nodup_range
 have O:(List.range L.length).map (gt L)=L:=by
  apply List.ext_getElem (by simp);intro j h1 S;simp[gt,S]
 have u:w.grownBy (sortWorld (kV p) w gb 0 n a os) (some gb):=ET a
 have ai:∀i,i<L.length->gt (a.toList.map (kV p)) i=gt p (gt a.toList i):=λi C=>by
  have h1:gt (a.toList.map (kV p)) i=kV p (gt a.toList i):=jM _ _ _ (by omega);rw[h1];unfold kV;rw[if_pos (by rw[q];exact z i C)]
 have aj:∀i,i<L.length->gt (a.toList.map (gt L)) i=gt L (gt a.toList i):=λi C=>jM _ _ _ (by omega);refine⟨M,a.toList.map (gt L),⟨a.toList.map (kV p),λi k=>G (gt a.toList i) k,by simp,?_,?_,?_,?_,λi k C hk=>Ld (gt a.toList i) k (z i (by simp only[List.length_map] at C;omega)) hk,Le⟩,?_,?_,u⟩
 ·have:=Lh (enc:=kV p) (n:=n) (os:=os) (ss:=List.range L.length) (ts:=a.toList) (by rw[N,List.length_range]) hBg hb (by rw[List.length_range,<-q];exact hnc) hcm hsz
  rw[List.length_range,<-q] at this;unfold fK;rw[show(a.toList.map (kV p)).length=p.length by rw[List.length_map,N,q]];simpa using this
 ·intro i k C hk
  obtain⟨a1,a2,a3⟩:=hG _ k (z i (by simp only[List.length_map] at C;omega)) hk;exact⟨a1,a2,Nat.lt_of_lt_of_le a3 u.size⟩
 ·intro i j k C hj hk al
  simp only[List.length_map] at C hj;exact EW ah (by omega) (by omega) (hd _ _ k (z i (by omega)) (z j (by omega)) hk al)
 ·intro i C
  simp only[List.length_map] at C;rw[ai i (by omega),aj i (by omega)];have M:=hE _ (z i (by omega));exact J.mono M (λb F D=>⟨F,Nat.lt_of_lt_of_le D u.size,u.block b D (λe=>(hG _ b (z i (by omega)) F).2.1 (by cases e;rfl))⟩)
 ·have:=hP.map (gt L)
  rwa [O] at this
 ·refine List.pairwise_iff_getElem.2 ?_
  intro i j C hj am;have an:i<a.size:=by simpa using C
  have Q:j<a.size:=by simpa using hj
  have h1:=z7 i j (Nat.zero_le _) am (by rw[Y,I] at Q;exact Q);rw[getElem!_pos a i an,getElem!_pos a j Q] at h1;unfold ltOf at h1;rw[decide_eq_false_iff_not] at h1;simp only[List.getElem_map,Array.getElem_toList];have S:¬R (gt L a[j]) (gt L a[i])<0:=h1;omega
end
def Tryz.Li_ren : Go.Shelf.Ren := ⟨fun | 6 => 139 | 15 => 199 | 14 => 198 | 28 => 247 | 29 => 248 | 20 => 239 | 21 => 240 | 22 => 241 | 23 => 242 | 24 => 243 | 25 => 244 | 26 => 245 | 27 => 246 | 46 => 279 | 47 => 280 | 48 => 281 | 49 => 282 | 50 => 283 | 57 => 296 | n => n, fun | 22 => 26 | 24 => 25 | 25 => 156 | 3 => 3 | 39 => 90 | 0 => 0 | 53 => 239 | 55 => 40 | 4 => 4 | 46 => 232 | 45 => 231 | 50 => 236 | 5 => 5 | 9 => 9 | 66 => 261 | 70 => 265 | 76 => 274 | 77 => 275 | n => n, fun | n => n⟩
theorem Tryz.Li : Go.Proofs.SlLaysF.n6 Tryz.prog Tryz.Li_ren := {
  mixed := by kernel_rfl
  f6 := ⟨Tryz.f139.name, by decide, Tryz.func139.trans (congrArg some (by kernel_rfl))⟩
  f14 := ⟨Tryz.f198.name, by decide, Tryz.func198.trans (congrArg some (by kernel_rfl))⟩
  f15 := Tryz.func199.trans (congrArg some (by kernel_rfl))
  f20 := ⟨Tryz.f239.name, by decide, Tryz.func239.trans (congrArg some (by kernel_rfl))⟩
  f21 := ⟨Tryz.f240.name, by decide, Tryz.func240.trans (congrArg some (by kernel_rfl))⟩
  f22 := ⟨Tryz.f241.name, by decide, Tryz.func241.trans (congrArg some (by kernel_rfl))⟩
  f23 := ⟨Tryz.f242.name, by decide, Tryz.func242.trans (congrArg some (by kernel_rfl))⟩
  f24 := ⟨Tryz.f243.name, by decide, Tryz.func243.trans (congrArg some (by kernel_rfl))⟩
  f25 := ⟨Tryz.f244.name, by decide, Tryz.func244.trans (congrArg some (by kernel_rfl))⟩
  f26 := ⟨Tryz.f245.name, by decide, Tryz.func245.trans (congrArg some (by kernel_rfl))⟩
  f27 := ⟨Tryz.f246.name, by decide, Tryz.func246.trans (congrArg some (by kernel_rfl))⟩
  f28 := Tryz.func247.trans (congrArg some (by kernel_rfl))
  f29 := Tryz.func248.trans (congrArg some (by kernel_rfl))
  f46 := ⟨Tryz.f279.name, by decide, Tryz.func279.trans (congrArg some (by kernel_rfl))⟩
  f47 := Tryz.func280.trans (congrArg some (by kernel_rfl))
  f48 := Tryz.func281.trans (congrArg some (by kernel_rfl))
  f49 := ⟨Tryz.f282.name, by decide, Tryz.func282.trans (congrArg some (by kernel_rfl))⟩
  f50 := ⟨Tryz.f283.name, by decide, Tryz.func283.trans (congrArg some (by kernel_rfl))⟩
  f57 := ⟨Tryz.f296.name, by decide, Tryz.func296.trans (congrArg some (by kernel_rfl))⟩
  t0 := Tryz.underlying0
  a0 := Tryz.isAgg0
  z0 := Tryz.sizeOf0
  v0 := Tryz.zeroValue0
  t3 := Tryz.underlying3
  a3 := Tryz.isAgg3
  z3 := Tryz.sizeOf3
  v3 := Tryz.zeroValue3
  t4 := Tryz.underlying4
  a4 := Tryz.isAgg4
  z4 := Tryz.sizeOf4
  v4 := Tryz.zeroValue4
  t5 := Tryz.underlying5
  a5 := Tryz.isAgg5
  z5 := Tryz.sizeOf5
  v5 := Tryz.zeroValue5
  t9 := Tryz.underlying9
  a9 := Tryz.isAgg9
  z9 := Tryz.sizeOf9
  v9 := Tryz.zeroValue9
  t22 := Tryz.underlying26
  a22 := Tryz.isAgg26
  z22 := Tryz.sizeOf26
  v22 := Tryz.zeroValue26
  a24 := Tryz.isAgg25
  z24 := Tryz.sizeOf25
  t25 := Tryz.underlying156
  a25 := Tryz.isAgg156
  z25 := Tryz.sizeOf156
  v25 := Tryz.zeroValue156
  t39 := Tryz.underlying90
  a39 := Tryz.isAgg90
  z39 := Tryz.sizeOf90
  v39 := Tryz.zeroValue90
  t45 := Tryz.underlying231
  a45 := Tryz.isAgg231
  z45 := Tryz.sizeOf231
  v45 := Tryz.zeroValue231
  t46 := Tryz.underlying232
  a46 := Tryz.isAgg232
  z46 := Tryz.sizeOf232
  v46 := Tryz.zeroValue232
  t50 := Tryz.underlying236
  a50 := Tryz.isAgg236
  z50 := Tryz.sizeOf236
  v50 := Tryz.zeroValue236
  t53 := Tryz.underlying239
  a53 := Tryz.isAgg239
  z53 := Tryz.sizeOf239
  v53 := Tryz.zeroValue239
  t55 := Tryz.underlying40
  a55 := Tryz.isAgg40
  z55 := Tryz.sizeOf40
  v55 := Tryz.zeroValue40
  t66 := Tryz.underlying261
  a66 := Tryz.isAgg261
  z66 := Tryz.sizeOf261
  v66 := Tryz.zeroValue261
  t70 := Tryz.underlying265
  a70 := Tryz.isAgg265
  z70 := Tryz.sizeOf265
  v70 := Tryz.zeroValue265
  t76 := Tryz.underlying274
  a76 := Tryz.isAgg274
  z76 := Tryz.sizeOf274
  v76 := Tryz.zeroValue274
  t77 := Tryz.underlying275
  a77 := Tryz.isAgg275
  z77 := Tryz.sizeOf275
  v77 := Tryz.zeroValue275 }
theorem Lj (P:Pr):iY P []:=⟨by simp,by simp⟩
theorem Ll (P:Pr) (hP:Valid P) (w:World) (v:Value) (L:List (List (List Int))) (A:Nat->Prop) (B bx pb a:Nat) (E:gT (λF w u (x:List (List Int))=>gY F w u x) 25 B A w v L) (l:0<L.length) (b:L.length<=1000000)
  (G:∀u∈L,iY P u/\u.length<=100) (H:w.cell? ⟨bx,0,none⟩=some (.pointer (some ⟨pb,a,none⟩))) (m:v.ownBlock≠some bx) (I:fB (λk=>v.ownBlock≠some k) w (.pointer (some ⟨pb,a,none⟩)) P) :
  Calls Tryz.prog 139 #[v,.func (.func 140) #[] #[.pointer (some ⟨bx,0,none⟩)]] w λe w'=>e=.returned (.tuple #[]) /\
   ∃p,gT (λF w u (x:List (List Int))=>gY F w u x) 25 B A w' v p/\p.Perm L/\p.Pairwise (λx y=>0<=nJ P y x)/\w.grownBy w' v.ownBlock:=by
 have J:∀args w,(callFunc 140 args).run Tryz.prog w=.ok (.enter 140 args) w:=enters_of Tryz.func140 (by kernel_rfl) rfl
 have h:=Lc Tryz.Li lX 25 B (nJ P) (Lm P) 140 #[.pointer (some ⟨bx,0,none⟩)] J w v L A E l b (λW=>(gN.nil gf 24 0 W).iB (by simp) |> λh=>lX.mono h (λk hk q=>⟨trivial,q,rfl⟩)) (by
  intro W u1 u2 x y D hx hy h1 K;have r:fB Any W (.pointer (some ⟨pb,a,none⟩)) P:=fB.mono I (iQ D (λk hk _=>⟨trivial,hk⟩));have C:W.cell? ⟨bx,0,none⟩=some (.pointer (some ⟨pb,a,none⟩)):=D.cell H (λe=>m e.symm)
  have j:∀z,(z∈L\/z=default)->iY P z/\z.length<=100:=λz i=>by
   rcases i with i|i
   ·exact G z i
   ·rw[i];exact⟨Lj P,by decide⟩
  refine(Ln P hP W bx pb a u1 u2 x y Any _ _ C r (gY.rows h1) (gY.rows K) (j x hx).1 (j y hy).1 (j x hx).2 (j y hy).2).mono ?_;rintro e w' ⟨v1,rfl,hg1,rfl,hd⟩;exact⟨rfl,hg1,hd⟩)
 exact h
end Go.Proofs.YtoakmefajbbggaaGreat
namespace Go.Proofs.YtoakmefajbbggaaGreat
open Go.RowKit
set_option linter.unusedSimpArgs false in
theorem EX (P:Pr) (w:World) (p:Value) (Sp:Nat->Prop) (hp:fB Sp w p P) :
  Calls Tryz.prog 71 #[p] w (fq w λw' v=>∃lp,v=.tuple #[.pointer lp,.int .i64 (iC P)]/\(iC P≠0->lp=none) /\
   (iC P=0->∃lb L,lp=some ⟨lb,0,none⟩/\jO P L/\EY w.heap.size P w' lb p L)):=by
 obtain⟨pb,po,rfl⟩:=hp.shape;obtain⟨vo,vp,vc,_,_,hc0,hc1,hc2,h3⟩:=hp.at;obtain⟨ao,cB,rfl,_,_⟩:=h3.o.shape;obtain⟨ap,kS,rfl,_,_⟩:=Sl.shape h3.p;obtain⟨ac,ji,rfl,_,_⟩:=Sl.shape h3.c;have bs:Ext w (w.alloc (.cells #[.pointer (some ⟨pb,po,none⟩)] 78)):=World.grownBy_alloc _ _ _;have cC:∀w',Ext (w.alloc (.cells #[.pointer (some ⟨pb,po,none⟩)] 78)) w'->w'.cell? ⟨w.heap.size,0,none⟩=some (.pointer (some ⟨pb,po,none⟩)):=λw' h=>h.cell (by rw[World.cell?_alloc_at _ _ _ _ rfl];rfl) (by simp);have cD:(w.alloc (.cells #[.pointer (some ⟨pb,po,none⟩)] 78)).heap.size=w.heap.size+1:=by simp
 have a':=EZ P _ (.agg #[.slice ao P.orders.length cB,.slice ap P.eH.length kS,.slice ac P.conj.length ji]) Sp ⟨_,_,_,rfl,h3.ext bs⟩;rw[E0] at a';have cE:=hp.ext bs;have HB:=Lib.hid (And.intro cC (And.intro cD cE));clear cC cD cE;go_enter Tryz.func71,Tryz.ntmps71;go_wp2_with fail
 clear hc0 hc1 hc2 h3;generalize dC:w.alloc (.cells #[.pointer (some ⟨pb,po,none⟩)] 78)=w0 at *;clear dC;refine Calls.mono a' ?_;rintro e1 w1 ⟨v,rfl,aX,rfl⟩;clear a';have ba:=dy bs aX;cases hq:jH P with
 | false=>
  have HQ:=Lib.hid hq;clear hq;go_wp2;have e:iC P=1:=by unfold iC;rw[HQ.out];rfl
  refine bodyPost_ret (v := .tuple #[.pointer none,.int .i64 1]) (by simp[results,Tryz.results71,go_sem]) rfl ?_;exact⟨_,rfl,ba,none,by rw[e],λ_=>rfl,λh=>by rw[e] at h;cases h⟩
 | true =>
  have G:=lZ hq;have hP:=G.v;have bt:=hP.n6;have dX:eW P<=729:=hP.mO;have dY:=hP.kT;have HQ:=Lib.hid hq;clear hq;have an:=HB.out.1 w1 aX;go_wp2_with fail
  clear an;refine Calls.mono (BL w1 _ P Sp hP (HB.out.2.2.ext aX)) ?_;rintro e2 Q ⟨rfl,rfl⟩;by_cases bW:32<eW P
  ·have e:iC P=3:=by unfold iC;rw[HQ.out,if_pos rfl,if_pos bW]
   have HE:=Lib.hid e;clear e;go_wp2;refine bodyPost_ret (v := .tuple #[.pointer none,.int .i64 3]) (by simp[results,Tryz.results71,go_sem]) rfl ?_;exact⟨_,rfl,ba,none,by rw[HE.out],λ_=>rfl,λh=>by rw[HE.out] at h;cases h⟩
  ·have aY : eW P<=32:=by omega
   have e:iC P=0:=by unfold iC;rw[HQ.out,if_pos rfl,if_neg bW]
   have cF:=Lib.hid e;clear e;have an:=HB.out.1 w1 aX;go_wp2_with fail
   clear an bW;refine Calls.mono (Lp P G w1 _ Sp (HB.out.2.2.ext aX)) ?_;rintro e3 Q ⟨tv,rfl,hg2,hT⟩;obtain⟨mR,bb,rfl,_,_⟩:=Sl.shape hT;obtain⟨N,hN⟩:∃N,N=(eW P).toNat:=⟨_,rfl⟩;have d':N<=32:=by omega
   have aN:(gD P).length=N:=by rw[oV,hN]
   have cG:dK Any Q (.slice mR N bb) (gD P):=by rw[<-aN];exact dK.sub hT (λ_ _ _=>trivial)
   rw[aN];have ea:=dy ba hg2;have bI:=dy aX hg2;-- the list of masks and the map
   have cH:fK Q.heap.size 40 (Q.alloc (.cells #[.int .u64 1] 40)) (.slice (some ⟨Q.heap.size,0,none⟩) 1 1) ([1].map uV):=World.ownsRow_lit Q #[.int .u64 1] 1 (Nat.le_refl _) (by decide) rfl;have bc:Ext Q (Q.alloc (.cells #[.int .u64 1] 40)):=World.grownBy_alloc _ _ _;have aq:(Q.alloc (.cells #[.int .u64 1] 40)).heap.size=Q.heap.size+1:=by simp
   have bX:=iU.made uN (Q.alloc (.cells #[.int .u64 1] 40));have aE:Ext (Q.alloc (.cells #[.int .u64 1] 40)) ((Q.alloc (.cells #[.int .u64 1] 40)).alloc (.map #[] 0)):=World.grownBy_alloc _ _ _;rw[aq] at bX;obtain⟨w3,hrun,E1,bY⟩:=bX.update (1:Nat) (show(1:Nat)<2 ^ 64 by decide) true trivial (by decide);have cI:=(cH.kept aE (.inr (by simp[Value.ownBlock]))).kept bY (.inr (by simp[Value.ownBlock]));have cJ:Ext Q w3:=fu (dy bc aE) bY (λj hj r=>by cases hj;omega);have af:(Instr.mapUpdate 143 (.map (some (Q.heap.size+1))) (.int .u64 1) (.bool true)).run Tryz.prog ((Q.alloc (.cells #[.int .u64 1] 40)).alloc (.map #[] 0))=.ok () w3:=hrun;have aZ:=Lr (Q.alloc (.cells #[.int .u64 1] 40));rw[aq] at aZ;have cK:kU P [1] 0 0:=by have:=G.Es;rw[G.BR] at this;exact this
   have bJ:iU uN w3 (Q.heap.size+1) (λa=>decide (a∈[1])) 1:=E1.congr (λa=>by by_cases h:a=1<;>simp[h,uN]);have HF:=Lib.hid (And.intro cK (And.intro cI (And.intro bJ (And.intro hN aN))));clear cK cI E1 bJ bX cH hT hrun bY aE bc aq;clear aN hN;go_wp2;--<A
   clear aZ af;go_loopw [5,7] (λmv iv wr=>∃(M:List Nat) (i:Nat) (v5:Value),v5=mv/\iv=.int .i64 i/\i<=M.length/\Ext Q wr/\fK Q.heap.size 40 wr v5 (M.map uV)/\iU uN wr (Q.heap.size+1) (λa=>decide (a∈M)) M.length/\Hid (kU P M i 0)) (λ_ iv _=>17409-(intOf iv).toNat)
   case atStart=>exact⟨[1],0,_,rfl,rfl,by simp,cJ,HF.out.2.1,HF.out.2.2.1,Lib.hid HF.out.1⟩
   case round=>
    obtain⟨M,i,v5,rfl,rfl,hi,Y,hO,T,hF⟩:=hrel;have cL:=G.zK aY hF.out
    have bd:0<M.length:=by
     have:=hF.out.one;cases M with
     | nil=>cases this
     | cons=>simp
    obtain⟨g,cap,rfl⟩:=E2 hO bd;by_cases r:i<M.length
    ·have aO:(i:Int)<M.length:=by omega
     obtain⟨H,SH,aj⟩:=hF.out.sub _ (iW r);obtain⟨m,hm⟩:∃m,m=gt M i:=⟨_,rfl⟩;rw[<-hm] at aj;have aP:m<2 ^ 64:=by rw[aj];exact B8 aY
     have HH:=Lib.hid (And.intro SH aj);clear SH aj;go_wp2;go_loopw [5,40] (λmv xv wr=>∃(M':List Nat) (x:Nat) (v5:Value),v5=mv/\xv=.int .i64 x/\x<=N/\i<M'.length/\Ext Q wr/\fK Q.heap.size 40 wr v5 (M'.map uV)/\iU uN wr (Q.heap.size+1) (λa=>decide (a∈M')) M'.length/\Hid (kU P M' i x)/\Hid (gt M' i=m)) (λ_ xv _=>N-(intOf xv).toNat)
     case atStart=>exact⟨M,0,_,rfl,rfl,by omega,r,Y,hO,T,hF,Lib.hid hm.symm⟩
     case round=>
      clear Y hO T hF cL bd hi r aO hm;obtain⟨M,x,v5,rfl,rfl,hx,r,Y,hO,T,hF,hm⟩:=hrel;have aO:(i:Int)<M.length:=by omega
      have cL:=G.zK aY hF.out;obtain⟨g,cap,rfl⟩:=E2 hO (by omega);have aG:=E3 hO r;rw[hm.out] at aG;by_cases dG:x<N
      ·have cM:(x:Int)<N:=by omega
       have b3:x<(eW P).toNat:=by have:=HF.out.2.2.2.1;omega
       have hand:=z8 m x aP;cases I:m.testBit x with
       | true=>
        rw[I] at hand;have hand:bits .and .u64 ((m:Int)/2 ^ x) 1=1:=hand;have ar:=Lib.hid (Et hF.out b3 (by rw[hm.out];exact I));clear hF I;go_wp2;clear hand aG;go_roundw
        case rel=>exact⟨M,x+1,_,rfl,by go_num,by omega,r,Y,hO,T,ar,hm⟩
        case measure=>simp[intOf];omega
       | false=>
        rw[I] at hand;have hand:bits .and .u64 ((m:Int)/2 ^ x) 1=0:=hand;have aQ:=Ls P G wr (.slice mR N bb) Any H HH.out.1 x b3 aY (dK.ext cG Y);rw[<-HH.out.2] at aQ;obtain⟨m2,bv⟩:∃m2,m2=gB P (lG P H (fF P x)):=⟨_,rfl⟩;rw[<-bv] at aQ;have be:m2<2 ^ 64:=by rw[bv];exact B8 aY
        have b4:=Lib.hid bv;clear bv I;go_wp2_with fail
        clear hand aG;refine Calls.mono aQ ?_;rintro eA wA ⟨vA,rfl,a0,rfl⟩;clear aQ;have aR:=dy Y a0;have bw:fK Q.heap.size 40 wA _ (M.map uV):=hO.kept a0 (.inr (by simp[Value.ownBlock]));have a1:=T.ext a0;have R:(Instr.lookup 143 (.map (some (Q.heap.size+1))) (.int .u64 (m2:Int)) false).run Tryz.prog wA=.ok (.bool (decide (m2∈M))) wA:=a1.look m2 be;clear hO T;by_cases hk:m2∈M
        ·rw [decide_eq_true hk] at R
         have ar:=Lib.hid (G.Ew (x:=x) hF.out HH.out.1 (by rw[hm.out];exact HH.out.2) (by rw[<-b4.out];exact hk));clear hF hk;go_wp2;clear R;go_roundw
         case rel=>exact⟨M,x+1,_,rfl,by go_num,by omega,r,aR,bw,a1,ar,hm⟩
         case measure=>simp[intOf];omega
        ·rw [decide_eq_false hk] at R
         have ar:=G.Ey hF.out r HH.out.1 (by rw[hm.out];exact HH.out.2) b3 (by rw[<-b4.out];exact hk);rw[<-b4.out] at ar;have cN:gt (M++[m2]) i=m:=by rw[iX _ _ _ r];exact hm.out
         have cO:=Lib.hid (And.intro ar cN);obtain⟨w4,hrun,cQ,hg4⟩:=a1.update m2 be true trivial (by omega);have af:(Instr.mapUpdate 143 (.map (some (Q.heap.size+1))) (.int .u64 (m2:Int)) (.bool true)).run Tryz.prog wA=.ok () w4:=hrun;have cR:=a1.ne bw;have cS:fK Q.heap.size 40 w4 _ (M.map uV):=bw.kept hg4 (.inr (λe=>cR e.symm));have eb:=a1.lt;have bK:Ext Q w4:=fu aR hg4 (λj hj r=>by cases hj;omega)
         have cT:iU uN w4 (Q.heap.size+1) (λa=>decide (a∈M++[m2])) (M++[m2]).length:=by
          refine iU.le (cQ.congr (λa => ?_)) (by simp);by_cases h:a=m2<;>simp[h]
         have cU:(M++[m2]).map uV=M.map uV++[.int .u64 (m2:Int)]:=by rw[List.map_append];rfl
         have bf:(M++[m2]).length=M.length+1:=by simp
         have a3:(M.map uV).length<=1000000:=by rw[List.length_map];omega
         have b5:=Lib.hid (And.intro cU (And.intro bf a3));clear hF ar cN hrun bw a1 cQ hg4 cU bf a3 hk;go_wp2_with (first|(at_builtin;refine tE 142 40 (.int .u64 0) 8 E4 Tryz.E5 rfl (by decide) rfl _ _ rfl Q.heap.size w4 _ (.int .u64 (m2:Int)) (M.map uV) rfl cS rfl rfl rfl b5.out.2.2 bK.size ?_;intro v8 w8 U D)|fail)
         have E:Ext Q w8:=fu bK D (λb I r=>by have:=(cS.lt b I).1;omega);have dH:=cT.kept D cR;clear R af;go_roundw
         case rel=>exact⟨M++[m2],x+1,v8,rfl,by go_num,by omega,by rw[b5.out.2.1];omega,E,by rw[b5.out.1];exact U,dH,Lib.hid cO.out.1,Lib.hid cO.out.2⟩
         case measure=>simp[intOf];omega
      ·have bz:x=N:=by omega
       have ar:=Lib.hid (hF.out.next (by have:=HF.out.2.2.2.1;omega));subst bz;clear aG hF;go_wp2;go_roundw
       case rel=>exact⟨M,i+1,_,rfl,by go_num,by omega,Y,hO,T,ar⟩
       case measure=>simp[intOf];omega
    ·have dI:i=M.length:=by omega
     have b6:=G.Lt hF.out (by omega);have cV:∀j,j<M.length->∃H,Sub P H/\gt M j=gB P H:=λj hj=>hF.out.sub _ (iW hj);obtain⟨CS,bA⟩:∃CS,CS=M.map (λm=>fD P (nG P m)):=⟨_,rfl⟩;have bg:CS.length=M.length:=by rw[bA,List.length_map]
     have cW:∀j,j<M.length->gt CS j=fD P (nG P (gt M j)):=λj hj=>by rw[bA];exact jM _ _ _ hj
     rw[<-bA] at b6;have K:=Lib.hid (And.intro b6 (And.intro cV (And.intro bg cW)));clear b6 cV bg cW bA hF T;have cX:Ext wr (wr.alloc (.cells #[.pointer (some ⟨pb,po,none⟩),.slice none 0 0,.slice none 0 0] 146)):=World.grownBy_alloc _ _ _;have hX:=fG.made wr 146 (.pointer (some ⟨pb,po,none⟩)) (.slice none 0 0) (.slice none 0 0);have cY:(wr.alloc (.cells #[.pointer (some ⟨pb,po,none⟩),.slice none 0 0,.slice none 0 0] 146)).heap.size=wr.heap.size+1:=by simp
     have bB:=iU.made E6 (wr.alloc (.cells #[.pointer (some ⟨pb,po,none⟩),.slice none 0 0,.slice none 0 0] 146));have aZ:=Lu (wr.alloc (.cells #[.pointer (some ⟨pb,po,none⟩),.slice none 0 0,.slice none 0 0] 146));rw[cY] at bB aZ;have b7:Ext (wr.alloc (.cells #[.pointer (some ⟨pb,po,none⟩),.slice none 0 0,.slice none 0 0] 146)) ((wr.alloc (.cells #[.pointer (some ⟨pb,po,none⟩),.slice none 0 0,.slice none 0 0] 146)).alloc (.map #[] 0)):=World.grownBy_alloc _ _ _;have b8:=hX.ext b7;have b9:=dy cX b7;obtain⟨W5,bC⟩:∃W5,W5=(wr.alloc (.cells #[.pointer (some ⟨pb,po,none⟩),.slice none 0 0,.slice none 0 0] 146)).alloc (.map #[] 0):=⟨_,rfl⟩;rw[<-bC] at b8 b9 bB aZ;obtain⟨C,a4⟩:∃C:World,C=wr:=⟨_,rfl⟩;have an:=HB.out.1 wr (dy bI Y);have H5:=Lib.hid (And.intro b8 (And.intro b9 bB));clear b8 b9 bB hX cX b7 cY;have b':Ext w0 C:=by rw[a4];exact dy bI Y
     have dJ:fK Q.heap.size 40 C (.slice (some ⟨g,0,none⟩) M.length cap) (M.map uV):=by rw[a4];exact hO
     have ep:dK Any C (.slice mR N bb) (gD P):=by rw[a4];exact dK.ext cG Y
     have c0:¬(i:Int)<M.length:=by omega
     clear hO Y bd;go_wp2;clear an aZ hi r dI c0;--<B
     rw[<-a4] at H5 bC;rw[<-a4,<-bC];clear bC a4
     go_loopw [75] (λjv wr=>∃(k:Nat) (lv:Value) (f:ByteArray->Nat),jv=.int .i64 k/\k<=M.length/\Ext C wr/\fG wr C.heap.size (.pointer (some ⟨pb,po,none⟩)) lv (.slice none 0 0) /\
      gT (λF w u (x:List (List Int))=>gY F w u x) 25 C.heap.size (λb=>b=C.heap.size\/b=C.heap.size+1) wr lv (CS.take k)/\iU E6 wr (C.heap.size+1) f k/\Hid (∀j,j<k->f (jG (gt CS j))=gt M j)) (λjv _=>M.length-(intOf jv).toNat)
     case atStart=>exact⟨0,_,_,rfl,by omega,H5.out.2.1,H5.out.1,by rw[List.take_zero];exact⟨[],λ_ _=>False,rfl,World.ownsRow_nil _ _ _ _,by simp,by simp,by simp,by simp,by simp[Value.ownBlock]⟩,H5.out.2.2,Lib.hid (λj hj=>by omega)⟩
     case round=>
      clear H5;obtain⟨k,lv,f,rfl,hk,Y,hX,hL,T,hf⟩:=hrel;have ag:=dy b' Y;by_cases r:k<M.length
      ·have aO:(k:Int)<M.length:=by omega
       obtain⟨H,SH,aj⟩:=K.out.2.1 k r;have cb:=K.out.2.2.2 k r;rw[aj,G.oZ SH] at cb;have aG:=Y.cell (E3 dJ r) (by simp);obtain⟨m,hm⟩:∃m,m=gt M k:=⟨_,rfl⟩;rw[<-hm] at aG aj;have aP:m<2 ^ 64:=by rw[aj];exact B8 aY
       have HH:=Lib.hid (And.intro SH (And.intro aj (And.intro cb hm)));clear SH aj cb hm;have an:=HB.out.1 wr ag;have c3:=HB.out.2.2.ext ag;have er:=hX.1;have ed:=T.lt;go_wp2_with fail
       clear aG an;refine Calls.mono (B9 P wr _ Sp (λ_=>False) c3 bt) ?_;rintro eS wS ⟨vS,rfl,lI,sb,gb,rfl,hs⟩;have c4:=hs.tab.lt;have ee:=hs.sB;have c5:Ind P (gi P (rq P m 0)) (gt (List.replicate P.orders.length [])):=by rw[KS,G.Aa];exact G.Ab
       have c6:=Lib.hid c5;clear c5;obtain⟨wo,rfl⟩:∃wo:World,wo=wr:=⟨_,rfl⟩;go_wp2;go_loopw [83] (λxv wr=>∃(x:Nat) (b:List (List Int)),xv=.int .i64 x/\x<=N/\wS.grownBy wr (some gb)/\kW wo.heap.size (λ_=>False) wr sb gb (.pointer (some ⟨pb,po,none⟩)) P.orders.length b/\Hid (Ind P (gi P (rq P m x)) (gt b))) (λxv _=>N-(intOf xv).toNat)
       case atStart=>exact⟨0,_,rfl,by omega,gZ _ _,hs,c6⟩
       case round=>
        clear hs c6;obtain⟨x,b,rfl,hx,aE,hs,hI⟩:=hrel;have c4:=hs.tab.lt;have bi:Ext wo wr:=fu lI aE (λj hj r=>by cases hj;omega);have au:=dy ag bi;by_cases dG:x<N
        ·have cM:(x:Int)<N:=by omega
         have hand:=z8 m x aP;cases I:m.testBit x with
         | false=>
          rw[I] at hand;have hand:bits .and .u64 ((m:Int)/2 ^ x) 1=0:=hand;have aI:=hI.out;rw[<-KT I] at aI;have cc:=Lib.hid aI;clear aI I hI;go_wp2;clear hand;go_roundw
          case rel=>exact⟨x+1,b,by go_num,by omega,aE,hs,cc⟩
          case measure=>simp[intOf];omega
         | true=>
          rw[I] at hand;have hand:bits .and .u64 ((m:Int)/2 ^ x) 1=1:=hand;have an:=HB.out.1 wr au;have cd:dL P.orders (fF P (x:Int)):=G.kD (by have:=HF.out.2.2.2.1;omega);have bf:(fF P (x:Int)).length<=6:=by rw[cd.1];exact bt
          have ce:=Lib.hid (And.intro cd (And.intro bf I));clear cd bf I;go_wp2_with fail
          clear hand an;refine Calls.mono (E7 P hP wr _ (x:Int) Sp (HB.out.2.2.ext au) (by omega) (by omega)) ?_;rintro eY wY ⟨yv,rfl,E8,hY⟩;have cf:gf (From wr.heap.size) wY yv (fF P (x:Int)):=gf.of hY (by have:=ce.out.2.1;omega) (λj h1 _=>h1);have bO:iL wr.heap.size (wY.alloc (.cells #[yv] 24)) (.slice (some ⟨wY.heap.size,0,none⟩) 1 1) [fF P (x:Int)]:=gN.Er gX cf E8.size;have bc:Ext wY (wY.alloc (.cells #[yv] 24)):=World.grownBy_alloc _ _ _;have am:=dy E8 bc;have c7:=hs.ext am
          have c8:dK (λk=>¬(k=gb\/k=sb)) (wY.alloc (.cells #[yv] 24)) (.slice (some ⟨wY.heap.size,0,none⟩) 1 1) [fF P (x:Int)]:=dK.sub (gY.rows (bO.iB (by simp))) (λk hk _=>by
           have h1:wr.heap.size<=k:=hk;have:=hs.slt;omega)
          obtain⟨ya,yc,Lv,_,_⟩:=cf.ints.shape;subst Lv
          have c9:fB (λk=>k≠gb) (wY.alloc (.cells #[.slice ya (fF P (x:Int)).length yc] 24)) (.pointer (some ⟨pb,po,none⟩)) P:=by
           have h1:=HB.out.2.2.ext (dy au am);have h0:=c3;exact h0.mono (λk _ r=>⟨by omega,Nat.lt_of_lt_of_le r (dy bi am).size,(dy bi am).block k r (by simp)⟩)
          have H8:=Lib.hid (And.intro c7 (And.intro c8 c9));clear c7 c8 c9 bO cf hY;go_wp2_with fail
          refine Calls.mono (Ca P G _ sb gb wo.heap.size _ _ [fF P (x:Int)] b _ H8.out.2.2 H8.out.1 hI.out (λz hz=>by rw[List.mem_singleton.1 hz];exact ce.out.1) H8.out.2.1 (by simp)) ?_;rintro eA wA ⟨b2,gg,rfl,a0,iZ,hA,_,_⟩;rw[KU ce.out.2.2] at hA;have HA:=Lib.hid hA;clear hA hI;have aR:wS.grownBy wA (some gb):=dy aE (dy (fH _ am) a0);clear H8 bc am a0;go_wp2;go_roundw
          case rel=>exact⟨x+1,b2,by go_num,by omega,aR,iZ,HA⟩
          case measure=>simp[intOf];omega
        ·have bz:x=N:=by omega
         have aI:=hI.out;rw[bz,HF.out.2.2.2.1,HH.out.2.1,G.KV HH.out.1] at aI;have cc:=Lib.hid aI;clear aI hI;subst bz;go_wp2_with fail
         refine Calls.mono (Cb P G wr sb gb wo.heap.size _ b H Sp _ (HB.out.2.2.ext au) hs cc.out) ?_;rintro eC wC ⟨uv,rfl,p6,cg⟩;have c':=dy bi p6;have bj:=G.ru HH.out.1;have a5:∀z∈fD P H,dL P.orders z:=λz hz=>HH.out.1.vec z ((G.iV HH.out.1).2.1 z hz);obtain⟨u,hu⟩:∃u,u=fD P H:=⟨_,rfl⟩;rw[<-hu] at cg bj a5;have bD:gY (From wo.heap.size) wC uv u:=lX.mono (cg.iB (by omega)) (λk hk r=>⟨Nat.le_trans bi.size hk,r,rfl⟩);obtain⟨ua,uc,pX,_,_⟩:=jm.shape bD;subst pX;have ch:=zP u 6 (λz hz=>by rw[(a5 z hz).1];exact bt);have ci:=B2 u;have aq:(jG u).size<=maxLen:=by unfold maxLen;have:(6+1)*u.length<=100:=(by omega);omega
         have ah:=zS u wC _ _ (gY.rows bD) (λz hz=>(xK hP (a5 z hz)).2) (λz hz=>by rw[(a5 z hz).1];omega) (by omega);obtain⟨s,cj⟩:∃s,s=jG u:=⟨_,rfl⟩;rw[<-cj] at aq ah;have HU:=Lib.hid (And.intro hu (And.intro a5 (And.intro cj bj)));clear hu a5 cj ch ci cg;go_wp2_with fail
         refine Calls.mono ah ?_;rintro eK wK ⟨kv,rfl,Z,rfl⟩;clear ah;have bk:=dy c' Z;obtain⟨wU,hrun,da,a6⟩:=(T.ext bk).update s aq m aP (by omega);have af:(Instr.mapUpdate 147 (.map (some (C.heap.size+1))) (.string s) (.int .u64 (m:Int))).run Tryz.prog wK=.ok () wU:=hrun;have bl:wo.grownBy wU (some (C.heap.size+1)):=dy (fH _ bk) a6;have V:=hX.ext bk;have bE:fG wU C.heap.size (.pointer (some ⟨pb,po,none⟩)) lv (.slice none 0 0):=V.keep a6.size (a6.block _ V.1 (by simp))
         have db:gY (From wo.heap.size) wU (.slice ua u.length uc) u:=lX.mono bD (λk hk r=>⟨hk,Nat.lt_of_lt_of_le r (Nat.le_trans Z.size a6.size),(a6.block k (Nat.lt_of_lt_of_le r Z.size) (by
          have h1:wo.heap.size<=k:=hk;intro e;cases e;omega)).trans (Z.block k r (by simp))⟩)
         have al:=hL.uI;have dc:(CS.take k).length<=1000000:=by rw[List.length_take];omega
         have dM:=Y.size;clear hrun V bD a6;obtain⟨dN,hx1,hx2,hx3,xL⟩:=id bE
         obtain ⟨dd,E9,bF,hlv⟩:∃a n c,lv=.slice a n c:=by
          obtain⟨a,c,h,_⟩:=jm.shape (hL.o.iB (by omega));exact⟨_,_,_,h⟩
         subst hlv;go_wp2_with (first|(at_builtin;refine Fa lX 26 25 (.slice none 0 0) 24 Cc Tryz.Ce rfl (by decide) rfl _ _ rfl C.heap.size _ wo wU _ _ (CS.take k) u rfl hL (λb I=>by rcases I with rfl|rfl<;>omega) (some (C.heap.size+1)) bl (λb I=>by cases I;exact .inr rfl) db rfl rfl dc dM ?_;intro v8 w8 ck D;have aa:=bE.keep D.size (D.block _ bE.1 (λe=>(al _ e.symm).1 (.inl rfl)));obtain⟨dO,hy1,hy2,kX,tF⟩:=id aa;obtain⟨cm,n8,cn,nZ⟩:∃a n c,v8=.slice a n c:=(by obtain⟨a,c,h,_⟩:=jm.shape (ck.o.iB (by rw[List.length_append];simp;omega));exact⟨_,_,_,h⟩);subst nZ)|fail)
         clear hx1 hx2 hx3 xL af;have az:=(aa.put (.slice cm n8 cn)).2.1;have W:=pY w8 ⟨C.heap.size,1,none⟩ (.slice cm n8 cn);have de:=ck.kept lX W (.inl rfl);have df:=(da.kept D (λe=>(al _ e.symm).1 (.inr rfl))).kept W (by simp);have bP:Ext C wU:=fu Y bl (λb I r=>by cases I;omega);have E:Ext C w8:=fu bP D (λb I r=>by have:=(al b I).2.1;omega);have O:Ext C (w8.setCell ⟨C.heap.size,1,none⟩ (.slice cm n8 cn)):=fu E W (λb I r=>by have:C.heap.size=b:=(by simpa using I);omega);have cq:k<CS.length:=by rw[K.out.2.2.1];exact r
         have bQ:CS.take (k+1)=CS.take k++[u]:=by rw[je _ k cq,HH.out.2.2.1,HU.out.1]
         have bm:∀j,j<k+1->(if jG (gt CS j)=s then m else f (jG (gt CS j)))=gt M j:=by
          intro j hj;by_cases dg:j=k
          ·subst dg
           rw[if_pos (by rw[HU.out.2.2.1,HH.out.2.2.1,HU.out.1]),HH.out.2.2.2]
          ·have dP:j<k:=by omega
           rw[if_neg,hf.out j dP];intro he;rw[HU.out.2.2.1,HU.out.1,<-HH.out.2.2.1] at he;have h1:=EE hP ((K.out.1.2 _).1 (iW (l:=CS) (i:=j) (by omega))) ((K.out.1.2 _).1 (iW cq)) he;exact dg (EW K.out.1.1 (by omega) cq h1)
         have dQ:=Lib.hid bm;clear bm;have bn:=Lib.hid (And.intro az (And.intro de (And.intro df (And.intro O bQ))));clear az de df O bQ W aa ck D bl bP E db bE da;go_wp2;clear hy1 hy2 kX tF;go_roundw
         case rel=>exact⟨k+1,_,_,by go_num,by omega,bn.out.2.2.2.1,bn.out.1,by rw[bn.out.2.2.2.2];exact bn.out.2.1,bn.out.2.2.1,dQ⟩
         case measure=>simp[intOf];omega
      ·have bG:k=M.length:=by omega
       have dh:=bG;have di:CS.take k=CS:=List.take_of_length_le (by rw[K.out.2.2.1];omega);rw[di] at hL
       have dj:0<CS.length:=by
        have:=(K.out.1.2 _).2 (G.r8 G.sub_one);cases CS with
        | nil=>cases this
        | cons=>simp
       have bg:CS.length<=1000000:=by rw[K.out.2.2.1];omega
       have dk:∀u∈CS,iY P u/\u.length<=100:=λu hu=>by
        have h1:=(K.out.1.2 u).1 hu;have h2:=(G.iV (G.gG h1)).1;rw[<-h1.2] at h2;have:=G.lz h1;exact⟨h2,by omega⟩
       have al:=hL.uI;have dR:=b'.size;have dS:=HB.out.2.1;have dl:lv.ownBlock≠some w.heap.size:=λe=>by have:=(al _ e).2.1;omega
       have dm:fB (λk=>lv.ownBlock≠some k) wr (.pointer (some ⟨pb,po,none⟩)) P:=HB.out.2.2.mono (λk _ r=>⟨λe=>by have:=(al _ e).2.1;omega,Nat.lt_of_lt_of_le r ag.size,ag.block k r (by simp)⟩);have bo:=Ll P hP wr lv CS _ C.heap.size w.heap.size pb po hL dj bg dk (HB.out.1 wr ag) dl dm;obtain⟨dN,hx1,hx2,hx3,xL⟩:=id hX
       obtain ⟨dd,E9,bF,hlv⟩:∃a n c,lv=.slice a n c:=by
        obtain⟨a,c,h,_⟩:=jm.shape (hL.o.iB (by omega));exact⟨_,_,_,h⟩
       subst hlv;have dT:¬(k:Int)<M.length:=by omega
       clear dm dl dk dj di hk;go_wp2_with fail
       clear hx1 hx2 hx3 xL r dT bG;refine Calls.mono bo ?_;rintro eZ wZ ⟨rfl,L',cr,av,z7,bp⟩;clear bo;have bR:=Lx G av z7 K.out.1.1 K.out.1.2;have eB:L'.length<=1000000:=by rw[av.length_eq];exact bg
       have bS:Ext C wZ:=fu Y bp (λb I r=>by have:=(al b I).2.1;omega);have cs:=hX.keep bp.size (bp.block _ hX.1 (λe=>(al _ e.symm).1 (.inl rfl)));have dn:=T.kept bp (λe=>(al _ e.symm).1 (.inr rfl))
       have dp:∀u∈L',f (jG u)=gC P u:=λu hu=>by
        have dU:=av.mem_iff.1 hu;obtain⟨j,hj,rfl⟩:=oW dU;rw[hf.out j (by rw[K.out.2.2.1] at hj;rw[dh];exact hj)];obtain⟨H,SH,e⟩:=K.out.2.1 j (by rw[K.out.2.2.1] at hj;exact hj);rw[K.out.2.2.2 j (by rw[K.out.2.2.1] at hj;exact hj),e,G.oZ SH,G.Cf SH]
       have dV:E9=L'.length:=by
        obtain⟨a,c,h,_⟩:=jm.shape (cr.o.iB (by omega));simp only[Value.slice.injEq] at h;exact h.2.1
       subst dV;have HZ:=Lib.hid (And.intro bR (And.intro dp (And.intro cr (And.intro bS (And.intro cs dn)))));clear bR dp av z7 hf cr bS dn T hX hL bp Y ag al;obtain⟨_,hy1,hy2,kX,tF⟩:=id cs;go_wp2;clear hy1 hy2 kX tF cs;--<C
       go_loopw [126] (λjv wr=>∃(k:Nat) (mv:Value),jv=.int .i64 k/\k<=L'.length/\wZ.grownBy wr (some C.heap.size)/\fG wr C.heap.size (.pointer (some ⟨pb,po,none⟩)) (.slice dd L'.length bF) mv /\
        fK wZ.heap.size 40 wr mv ((L'.take k).map λu=>uV (gC P u))) (λjv _=>L'.length-(intOf jv).toNat)
       case atStart=>exact⟨0,_,rfl,by omega,gZ _ _,HZ.out.2.2.2.2.1,World.ownsRow_nil _ _ _ _⟩
       case round=>
        obtain⟨k,mv,rfl,hk,Y,hX,hO⟩:=hrel;have ct:=HZ.out.2.2.1.kept lX Y (.inl rfl);have dq:=uO.rows (ct.o.iB (by omega));by_cases r:k<L'.length
        ·have aO:(k:Int)<L'.length:=by omega
         obtain⟨bL,oL,a2,dr,rfl,_,_,ds,dt⟩:=fU.at dq k r;have aK:=(HZ.out.1.2 _).1 (iW r);have cu:=HZ.out.2.1 _ (iW r);obtain⟨u,hu⟩:∃u,u=gt L' k:=⟨_,rfl⟩;rw[<-hu] at aK cu ds dt;have bj:=G.lz aK;have ch:=zP u 6 (λz hz=>by rw[(aK.1 z hz).1];exact bt);have ci:=B2 u;have aq:(jG u).size<=maxLen:=by unfold maxLen;have:(6+1)*u.length<=100:=(by omega);omega
         have R:∀w',wZ.grownBy w' (some C.heap.size)->(Instr.lookup 147 (.map (some (C.heap.size+1))) (.string (jG u)) false).run Tryz.prog w'=.ok (.int .u64 ((gC P u:Nat):Int)) w':=λw' h=>by
          have:=(HZ.out.2.2.2.2.2.kept h (by simp)).look (jG u) aq;rw[cu] at this;exact this
         obtain⟨q,hq⟩:∃q,q=gC P u:=⟨_,rfl⟩;rw[<-hq] at R;have ah:=zS u wr.drew (.slice a2 u.length dr) _ (dK.ext dt (fk _ _)) (λz hz=>(xK hP (aK.1 z hz)).2) (λz hz=>by rw[(aK.1 z hz).1];omega) (by omega);obtain⟨s,hs⟩:∃s,s=jG u:=⟨_,rfl⟩;rw[<-hs] at R ah
         have bq:(L'.take (k+1)).map (λu=>uV (gC P u))=(L'.take k).map (λu=>uV (gC P u))++[uV q]:=by
          rw[je L' k r,List.map_append,hq,hu];rfl
         have a3:((L'.take k).map λu=>uV (gC P u)).length<=1000000:=by rw[List.length_map,List.length_take];omega
         obtain⟨vs,cw⟩:∃vs,vs=(L'.take k).map λu=>uV (gC P u):=⟨_,rfl⟩;rw[<-cw] at bq a3 hO;have HU:=Lib.hid (And.intro aK (And.intro hu (And.intro bj (And.intro hq (And.intro hs (And.intro bq (And.intro a3 cw)))))));clear aK cu hu bj ch ci aq hq hs bq a3 cw
         obtain ⟨ab,ad,ae,r9⟩:∃a n c,mv=.slice a n c:=by
          rcases hO.form with⟨h1,_⟩|⟨g,cp,h1,_⟩
          ·exact⟨_,_,_,h1⟩
          ·exact⟨_,_,_,h1⟩
         subst r9;obtain⟨dO,hy1,hy2,kX,tF⟩:=id hX;have eD:=Y.size;go_wp2;clear ds hy1 hy2;refine wp_region_held_drew (S:=λw'=>wZ.grownBy w' (some C.heap.size)) (by kernel_rfl) (by first|exact fk _ _|exact dy Y (fk _ _)|assumption) (λA => ?_);refine wpAnyH_take (i:=0) (v := ?Un) rfl (by kernel_rfl) (by kernel_rfl) (by kernel_rfl) (λ_ _ _ h=>h) (Or.inl ⟨by rfl,?Lz⟩) (by assumption) ?Uo
         case Lz=>(intro w B;(try dsimp only at B);go_simp;try with_reducible rfl)
         try simp only[Act.put,List.getElem_toArray,List.getElem_cons_succ,List.getElem_cons_zero,List.setIfInBounds_toArray,List.set_cons_zero,List.set_cons_succ]
         refine wpAnyH_take (i:=1) (v := ?Up) rfl (by kernel_rfl) (by kernel_rfl) (by kernel_rfl) (λ_ _ _ h=>h) (Or.inl ⟨by rfl,?LA⟩) (by assumption) ?Uq
         case LA=>(intro w B;(try dsimp only at B);go_simp;try with_reducible rfl)
         try simp only[Act.put,List.getElem_toArray,List.getElem_cons_succ,List.getElem_cons_zero,List.setIfInBounds_toArray,List.set_cons_zero,List.set_cons_succ]
         refine wpAnyH_take (i:=2) (v := ?Ur) rfl (by kernel_rfl) (by kernel_rfl) (by kernel_rfl) (λ_ _ _ h=>h) (Or.inl ⟨by rfl,?LB⟩) (by assumption) ?Us
         case LB=>(intro w B;(try dsimp only at B);go_simp;try with_reducible rfl)
         try simp only[Act.put,List.getElem_toArray,List.getElem_cons_succ,List.getElem_cons_zero,List.setIfInBounds_toArray,List.set_cons_zero,List.set_cons_succ]
         refine wpAnyH_take (i:=3) (v := ?Ut) rfl (by kernel_rfl) (by kernel_rfl) (by kernel_rfl) (λ_ _ _ h=>h) (Or.inl ⟨by rfl,?LC⟩) (by assumption) ?Uu
         case LC=>(intro w B;(try dsimp only at B);go_simp;try with_reducible rfl)
         try simp only[Act.put,List.getElem_toArray,List.getElem_cons_succ,List.getElem_cons_zero,List.setIfInBounds_toArray,List.set_cons_zero,List.set_cons_succ]
         refine wpAnyH_take (i:=5) (v := ?Uv) rfl (by kernel_rfl) (by kernel_rfl) (by kernel_rfl) (λ_ _ _ h=>h) (Or.inl ⟨by rfl,?LD⟩) (by assumption) ?Uw
         case LD=>(intro w B;(try dsimp only at B);go_simp;try with_reducible rfl)
         try simp only[Act.put,List.getElem_toArray,List.getElem_cons_succ,List.getElem_cons_zero,List.setIfInBounds_toArray,List.set_cons_zero,List.set_cons_succ]
         refine wpAnyH_take (i:=6) (v := ?Ux) rfl (by kernel_rfl) (by kernel_rfl) (by kernel_rfl) (λ_ _ _ h=>h) (Or.inl ⟨by rfl,?LF⟩) (by assumption) ?Uy
         case LF=>(intro w B;(try dsimp only at B);go_simp;try with_reducible rfl)
         try simp only[Act.put,List.getElem_toArray,List.getElem_cons_succ,List.getElem_cons_zero,List.setIfInBounds_toArray,List.set_cons_zero,List.set_cons_succ]
         refine wpAnyH_ready (rs:=[4,7]) (by kernel_rfl) (by simp) ?_;refine AllReadyH.cons rfl (λX y => ?_) (AllReadyH.cons rfl (λX y => ?_) AllReadyH.nil)
         ·go_simp
          refine y.out _ _ ?_ (λA => ?_)
          ·assumption
          clear y X;try simp only[Act.put,List.getElem_toArray,List.getElem_cons_succ,List.getElem_cons_zero,List.setIfInBounds_toArray,List.set_cons_zero,List.set_cons_succ]
          refine wpAnyH_ready (rs:=[7]) (by kernel_rfl) (by simp) ?_;refine AllReadyH.cons rfl (λX y => ?_) AllReadyH.nil;go_simp;go_at_call 138;refine Calls.mono ah ?_;rintro eK wK ⟨kv,rfl,Z,rfl⟩;have J:wZ.grownBy wK (some C.heap.size):=dy Y (fH _ (dy (fk _ _) Z));have V:fG wK C.heap.size (.pointer (some ⟨pb,po,none⟩)) (.slice (some ⟨bL,oL,none⟩) L'.length bF) (.slice ab ad ae):=hX.ext (dy (fk _ _) Z);have aL:fK wZ.heap.size 40 wK (.slice ab ad ae) vs:=hO.kept (dy (fk _ _) Z) (by cases hv:(Value.slice ab ad ae).ownBlock<;>simp);obtain⟨dW,hz1,hz2,hz3,Ac⟩:=id V;go_wp2_with fail
          refine y.out _ _ ?_ (λA => ?_)
          ·exact J
          clear y X;try simp only[Act.put,List.getElem_toArray,List.getElem_cons_succ,List.getElem_cons_zero,List.setIfInBounds_toArray,List.set_cons_zero,List.set_cons_succ]
          refine wpAnyH_take (i:=8) (v := ?Uz) rfl (by kernel_rfl) (by kernel_rfl) (by kernel_rfl) (λ_ _ _ h=>h) (Or.inl ⟨by rfl,?LG⟩) (by assumption) ?UA
          case LG=>(intro w B;(try dsimp only at B);go_simp;try with_reducible rfl)
          try simp only[Act.put,List.getElem_toArray,List.getElem_cons_succ,List.getElem_cons_zero,List.setIfInBounds_toArray,List.set_cons_zero,List.set_cons_succ]
          refine wpAnyH_ready (rs:=[9]) (by kernel_rfl) (by simp) ?_;refine AllReadyH.cons rfl (λX y => ?_) AllReadyH.nil;go_simp;refine y.out _ _ ?_ (λA => ?_)
          ·exact dy J (fH _ (World.grownBy_alloc _ _ _))
          clear y X;try simp only[Act.put,List.getElem_toArray,List.getElem_cons_succ,List.getElem_cons_zero,List.setIfInBounds_toArray,List.set_cons_zero,List.set_cons_succ]
          refine wpAnyH_ready (rs:=[10]) (by kernel_rfl) (by simp) ?_;refine AllReadyH.cons rfl (λX y => ?_) AllReadyH.nil;refine Cg rfl _ _ rfl wZ.heap.size (.slice ab ad ae) vs q rfl wK aL rfl rfl HU.out.2.2.2.2.2.2.1 J.size ?_;intro v8 w8 U D;have aA:∀b,(Value.slice ab ad ae).ownBlock=some b->wZ.heap.size<=b:=λb I=>(aL.lt b I).1;have aa:=V.keep D.size (D.block _ V.1 (λe=>by have:=aA _ e.symm;omega));have E:wZ.grownBy w8 (some C.heap.size):=fu J D (λb I r=>by have:=aA b I;omega);obtain⟨ja,jn,jc,pZ⟩:∃a n c,v8=.slice a n c:=(by rcases U.form with⟨h1,_⟩|⟨g,cp,h1,_⟩<;>exact⟨_,_,_,h1⟩);subst pZ;have az:=(aa.put (.slice ja jn jc)).2.2;have W:=pY w8 ⟨C.heap.size,2,none⟩ (.slice ja jn jc);have aB:(Value.slice ja jn jc).ownBlock=none\/(Value.slice ja jn jc).ownBlock≠some C.heap.size := .inr (λe=>by have:=(U.lt _ e).1;omega);have aC:=U.kept W aB;rw[<-HU.out.2.2.2.2.2.1] at aC;have O:=dy E W;obtain⟨du,hj1,hj2,xP,xQ⟩:=id aa;refine y.out _ _ ?_ (λA => ?_)
          ·exact E
          clear y X;try simp only[Act.put,List.getElem_toArray,List.getElem_cons_succ,List.getElem_cons_zero,List.setIfInBounds_toArray,List.set_cons_zero,List.set_cons_succ]
          refine wpAnyH_take (i:=11) (v := ?UB) rfl (by kernel_rfl) (by kernel_rfl) (by kernel_rfl) (λ_ _ _ h=>h) (Or.inl ⟨by rfl,?LH⟩) (by assumption) ?UC
          case LH=>(intro w B;(try dsimp only at B);go_simp;try with_reducible rfl)
          try simp only[Act.put,List.getElem_toArray,List.getElem_cons_succ,List.getElem_cons_zero,List.setIfInBounds_toArray,List.set_cons_zero,List.set_cons_succ]
          refine wpAnyH_take (i:=12) (v := ?UD) rfl (by kernel_rfl) (by kernel_rfl) (by kernel_rfl) (λ_ _ _ h=>h) (Or.inl ⟨by rfl,?LI⟩) (by assumption) ?UE
          case LI=>(intro w B;(try dsimp only at B);go_simp;try with_reducible rfl)
          try simp only[Act.put,List.getElem_toArray,List.getElem_cons_succ,List.getElem_cons_zero,List.setIfInBounds_toArray,List.set_cons_zero,List.set_cons_succ]
          refine wpAnyH_ready (rs:=[13]) (by kernel_rfl) (by simp) ?_;refine AllReadyH.cons rfl (λX y => ?_) AllReadyH.nil;go_simp;refine y.out _ _ ?_ (λA => ?_)
          ·exact O
          clear y X;try simp only[Act.put,List.getElem_toArray,List.getElem_cons_succ,List.getElem_cons_zero,List.setIfInBounds_toArray,List.set_cons_zero,List.set_cons_succ]
          refine wpAnyH_done (by kernel_rfl) ?_ _;clear hz1 hz2 hz3 Ac hj1 hj2 xP xQ kX tF;go_wp2;go_roundw
          case rel=>exact⟨k+1,_,by go_num,by omega,O,az,aC⟩
          case measure=>simp[intOf];omega
         ·go_simp
          go_at_call 138;refine Calls.mono ah ?_;rintro eK wK ⟨kv,rfl,Z,rfl⟩;have J:wZ.grownBy wK (some C.heap.size):=dy Y (fH _ (dy (fk _ _) Z));have V:fG wK C.heap.size (.pointer (some ⟨pb,po,none⟩)) (.slice (some ⟨bL,oL,none⟩) L'.length bF) (.slice ab ad ae):=hX.ext (dy (fk _ _) Z);have aL:fK wZ.heap.size 40 wK (.slice ab ad ae) vs:=hO.kept (dy (fk _ _) Z) (by cases hv:(Value.slice ab ad ae).ownBlock<;>simp);obtain⟨dW,hz1,hz2,hz3,Ac⟩:=id V;go_wp2_with fail
          refine y.out _ _ ?_ (λA => ?_)
          ·exact J
          clear y X;try simp only[Act.put,List.getElem_toArray,List.getElem_cons_succ,List.getElem_cons_zero,List.setIfInBounds_toArray,List.set_cons_zero,List.set_cons_succ]
          refine wpAnyH_take (i:=8) (v := ?UF) rfl (by kernel_rfl) (by kernel_rfl) (by kernel_rfl) (λ_ _ _ h=>h) (Or.inl ⟨by rfl,?LJ⟩) (by assumption) ?UG
          case LJ=>(intro w B;(try dsimp only at B);go_simp;try with_reducible rfl)
          try simp only[Act.put,List.getElem_toArray,List.getElem_cons_succ,List.getElem_cons_zero,List.setIfInBounds_toArray,List.set_cons_zero,List.set_cons_succ]
          refine wpAnyH_ready (rs:=[4,9]) (by kernel_rfl) (by simp) ?_;refine AllReadyH.cons rfl (λX y => ?_) (AllReadyH.cons rfl (λX y => ?_) AllReadyH.nil)
          ·go_simp
           refine y.out _ _ ?_ (λA => ?_)
           ·assumption
           clear y X;try simp only[Act.put,List.getElem_toArray,List.getElem_cons_succ,List.getElem_cons_zero,List.setIfInBounds_toArray,List.set_cons_zero,List.set_cons_succ]
           refine wpAnyH_ready (rs:=[9]) (by kernel_rfl) (by simp) ?_;refine AllReadyH.cons rfl (λX y => ?_) AllReadyH.nil;go_simp;refine y.out _ _ ?_ (λA => ?_)
           ·exact dy J (fH _ (World.grownBy_alloc _ _ _))
           clear y X;try simp only[Act.put,List.getElem_toArray,List.getElem_cons_succ,List.getElem_cons_zero,List.setIfInBounds_toArray,List.set_cons_zero,List.set_cons_succ]
           refine wpAnyH_ready (rs:=[10]) (by kernel_rfl) (by simp) ?_;refine AllReadyH.cons rfl (λX y => ?_) AllReadyH.nil;refine Cg rfl _ _ rfl wZ.heap.size (.slice ab ad ae) vs q rfl wK aL rfl rfl HU.out.2.2.2.2.2.2.1 J.size ?_;intro v8 w8 U D;have aA:∀b,(Value.slice ab ad ae).ownBlock=some b->wZ.heap.size<=b:=λb I=>(aL.lt b I).1;have aa:=V.keep D.size (D.block _ V.1 (λe=>by have:=aA _ e.symm;omega));have E:wZ.grownBy w8 (some C.heap.size):=fu J D (λb I r=>by have:=aA b I;omega);obtain⟨ja,jn,jc,pZ⟩:∃a n c,v8=.slice a n c:=(by rcases U.form with⟨h1,_⟩|⟨g,cp,h1,_⟩<;>exact⟨_,_,_,h1⟩);subst pZ;have az:=(aa.put (.slice ja jn jc)).2.2;have W:=pY w8 ⟨C.heap.size,2,none⟩ (.slice ja jn jc);have aB:(Value.slice ja jn jc).ownBlock=none\/(Value.slice ja jn jc).ownBlock≠some C.heap.size := .inr (λe=>by have:=(U.lt _ e).1;omega);have aC:=U.kept W aB;rw[<-HU.out.2.2.2.2.2.1] at aC;have O:=dy E W;obtain⟨du,hj1,hj2,xP,xQ⟩:=id aa;refine y.out _ _ ?_ (λA => ?_)
           ·exact E
           clear y X;try simp only[Act.put,List.getElem_toArray,List.getElem_cons_succ,List.getElem_cons_zero,List.setIfInBounds_toArray,List.set_cons_zero,List.set_cons_succ]
           refine wpAnyH_take (i:=11) (v := ?UH) rfl (by kernel_rfl) (by kernel_rfl) (by kernel_rfl) (λ_ _ _ h=>h) (Or.inl ⟨by rfl,?LK⟩) (by assumption) ?UI
           case LK=>(intro w B;(try dsimp only at B);go_simp;try with_reducible rfl)
           try simp only[Act.put,List.getElem_toArray,List.getElem_cons_succ,List.getElem_cons_zero,List.setIfInBounds_toArray,List.set_cons_zero,List.set_cons_succ]
           refine wpAnyH_take (i:=12) (v := ?UJ) rfl (by kernel_rfl) (by kernel_rfl) (by kernel_rfl) (λ_ _ _ h=>h) (Or.inl ⟨by rfl,?LL⟩) (by assumption) ?UK
           case LL=>(intro w B;(try dsimp only at B);go_simp;try with_reducible rfl)
           try simp only[Act.put,List.getElem_toArray,List.getElem_cons_succ,List.getElem_cons_zero,List.setIfInBounds_toArray,List.set_cons_zero,List.set_cons_succ]
           refine wpAnyH_ready (rs:=[13]) (by kernel_rfl) (by simp) ?_;refine AllReadyH.cons rfl (λX y => ?_) AllReadyH.nil;go_simp;refine y.out _ _ ?_ (λA => ?_)
           ·exact O
           clear y X;try simp only[Act.put,List.getElem_toArray,List.getElem_cons_succ,List.getElem_cons_zero,List.setIfInBounds_toArray,List.set_cons_zero,List.set_cons_succ]
           refine wpAnyH_done (by kernel_rfl) ?_ _;clear hz1 hz2 hz3 Ac hj1 hj2 xP xQ kX tF;go_wp2;go_roundw
           case rel=>exact⟨k+1,_,by go_num,by omega,O,az,aC⟩
           case measure=>simp[intOf];omega
          ·go_simp
           refine y.out _ _ ?_ (λA => ?_)
           ·exact dy J (fH _ (World.grownBy_alloc _ _ _))
           clear y X;try simp only[Act.put,List.getElem_toArray,List.getElem_cons_succ,List.getElem_cons_zero,List.setIfInBounds_toArray,List.set_cons_zero,List.set_cons_succ]
           refine wpAnyH_ready (rs:=[4]) (by kernel_rfl) (by simp) ?_;refine AllReadyH.cons rfl (λX y => ?_) AllReadyH.nil;go_simp;refine y.out _ _ ?_ (λA => ?_)
           ·assumption
           clear y X;try simp only[Act.put,List.getElem_toArray,List.getElem_cons_succ,List.getElem_cons_zero,List.setIfInBounds_toArray,List.set_cons_zero,List.set_cons_succ]
           refine wpAnyH_ready (rs:=[10]) (by kernel_rfl) (by simp) ?_;refine AllReadyH.cons rfl (λX y => ?_) AllReadyH.nil;refine Cg rfl _ _ rfl wZ.heap.size (.slice ab ad ae) vs q rfl wK aL rfl rfl HU.out.2.2.2.2.2.2.1 J.size ?_;intro v8 w8 U D;have aA:∀b,(Value.slice ab ad ae).ownBlock=some b->wZ.heap.size<=b:=λb I=>(aL.lt b I).1;have aa:=V.keep D.size (D.block _ V.1 (λe=>by have:=aA _ e.symm;omega));have E:wZ.grownBy w8 (some C.heap.size):=fu J D (λb I r=>by have:=aA b I;omega);obtain⟨ja,jn,jc,pZ⟩:∃a n c,v8=.slice a n c:=(by rcases U.form with⟨h1,_⟩|⟨g,cp,h1,_⟩<;>exact⟨_,_,_,h1⟩);subst pZ;have az:=(aa.put (.slice ja jn jc)).2.2;have W:=pY w8 ⟨C.heap.size,2,none⟩ (.slice ja jn jc);have aB:(Value.slice ja jn jc).ownBlock=none\/(Value.slice ja jn jc).ownBlock≠some C.heap.size := .inr (λe=>by have:=(U.lt _ e).1;omega);have aC:=U.kept W aB;rw[<-HU.out.2.2.2.2.2.1] at aC;have O:=dy E W;obtain⟨du,hj1,hj2,xP,xQ⟩:=id aa;refine y.out _ _ ?_ (λA => ?_)
           ·exact E
           clear y X;try simp only[Act.put,List.getElem_toArray,List.getElem_cons_succ,List.getElem_cons_zero,List.setIfInBounds_toArray,List.set_cons_zero,List.set_cons_succ]
           refine wpAnyH_take (i:=11) (v := ?UL) rfl (by kernel_rfl) (by kernel_rfl) (by kernel_rfl) (λ_ _ _ h=>h) (Or.inl ⟨by rfl,?LM⟩) (by assumption) ?UM
           case LM=>(intro w B;(try dsimp only at B);go_simp;try with_reducible rfl)
           try simp only[Act.put,List.getElem_toArray,List.getElem_cons_succ,List.getElem_cons_zero,List.setIfInBounds_toArray,List.set_cons_zero,List.set_cons_succ]
           refine wpAnyH_take (i:=12) (v := ?UN) rfl (by kernel_rfl) (by kernel_rfl) (by kernel_rfl) (λ_ _ _ h=>h) (Or.inl ⟨by rfl,?LN⟩) (by assumption) ?UO
           case LN=>(intro w B;(try dsimp only at B);go_simp;try with_reducible rfl)
           try simp only[Act.put,List.getElem_toArray,List.getElem_cons_succ,List.getElem_cons_zero,List.setIfInBounds_toArray,List.set_cons_zero,List.set_cons_succ]
           refine wpAnyH_ready (rs:=[13]) (by kernel_rfl) (by simp) ?_;refine AllReadyH.cons rfl (λX y => ?_) AllReadyH.nil;go_simp;refine y.out _ _ ?_ (λA => ?_)
           ·exact O
           clear y X;try simp only[Act.put,List.getElem_toArray,List.getElem_cons_succ,List.getElem_cons_zero,List.setIfInBounds_toArray,List.set_cons_zero,List.set_cons_succ]
           refine wpAnyH_done (by kernel_rfl) ?_ _;clear hz1 hz2 hz3 Ac hj1 hj2 xP xQ kX tF;go_wp2;go_roundw
           case rel=>exact⟨k+1,_,by go_num,by omega,O,az,aC⟩
           case measure=>simp[intOf];omega
        ·have bG:k=L'.length:=by omega
         have dv:fK w.heap.size 40 wr mv (L'.map λu=>uV (gC P u)):=by
          rw[List.take_of_length_le (by omega)] at hO;exact fK.weak hO (by have:=dR;have:=dS;have:=HZ.out.2.2.2.1.size;omega)
         have bT:Ext C wr:=fu HZ.out.2.2.2.1 Y (λb I r=>by cases I;omega);have bU:EY w.heap.size P wr C.heap.size (.pointer (some ⟨pb,po,none⟩)) L':=⟨by omega,_,_,hX,ct.o.weak (by omega),dv⟩;have cx:=Lib.hid (And.intro bU (dy bs (dy b' bT)));have eF:¬(k:Int)<L'.length:=by omega
         clear bU bT dv hO ct dq hX Y bG r hk;go_wp2;refine bodyPost_ret (v := .tuple #[.pointer (some ⟨C.heap.size,0,none⟩),.int .i64 0]) (by simp[results,Tryz.results71,go_sem]) rfl ?_;exact⟨_,rfl,cx.out.2,some ⟨C.heap.size,0,none⟩,by rw[cF.out],λh=>absurd cF.out h,λ_=>by first|exact⟨C.heap.size,L',rfl,HZ.out.1,cx.out.1⟩|exact⟨C.heap.size,rfl,L',HZ.out.1,cx.out.1⟩⟩
       -->C
     -->B
   -->A
open Classical in
noncomputable def su (P:Pr):Fb:=if iC P=0/\∃L,jO P L then gH P (Ad P) (Ad P).length else ⟨[],[],[]⟩
noncomputable def iR (P:Pr):List (List (List Int)):=(su P).firsts
noncomputable def sw (P:Pr):List Int:=fL (su P).sizes
theorem tG {P:Pr}{L:List (List (List Int))}(h:iC P=0) (a:jO P L):iR P=(gH P L L.length).firsts/\sw P=fL (gH P L L.length).sizes:=by
 have e:su P=gH P L L.length:=by unfold su;rw[if_pos ⟨h,L,a⟩,LO a]
 unfold iR sw;rw[e];exact⟨rfl,rfl⟩
theorem LP {P:Pr}(h:iC P≠0):iR P=[]/\sw P=[]:=by
 have e:su P=⟨[],[],[]⟩:=by unfold su;rw[if_neg (λa=>h a.1)]
 unfold iR sw;rw[e];exact⟨rfl,rfl⟩
theorem Ae (P:Pr):(iR P).length<=17408/\(sw P).length=(iR P).length/\∀u∈iR P,u.length<=6/\∀x∈u,x.length<=6:=by
 by_cases h:iC P=0/\∃L,jO P L
 ·obtain ⟨a,L,b⟩:=h
  have G:=lZ (qD a).1;rw[(tG a b).1,(tG a b).2];have h1:=xM P L L.length;have j:=G.zQ (qD a).2 b;exact⟨by omega,by rw[iE];omega,λu i=>G.LQ b u (Af P (Nat.le_refl _) u i)⟩
 ·have e:su P=⟨[],[],[]⟩:=by unfold su;rw[if_neg h]
  unfold iR sw;rw[e];simp[fL]
theorem LR (P:Pr):(iR P).length<=17408:=(Ae P).1
theorem LS (P:Pr):(sw P).length<=17408:=by have:=Ae P;omega
theorem gT.weak {α:Type} [Inhabited α] {El:(Nat->Prop)->World->Value->α->Prop}{E B B':Nat}{A:Nat->Prop}{w:World}{v:Value}{xs:List α}(h:gT El E B A w v xs) (e:B'<=B):gT El E B' A w v xs:=by
 obtain⟨j,G,h1,h2,h3,h4,h5,h6,h7⟩:=h;exact⟨j,G,h1,h2.weak e,λi k l hk=>by obtain⟨a,b,c⟩:=h3 i k l hk;exact⟨by omega,b,c⟩,h4,h5,h6,h7⟩
theorem gT.nil' {α:Type} [Inhabited α] (El:(Nat->Prop)->World->Value->α->Prop) (E B:Nat) (A:Nat->Prop) (w:World):gT El E B A w (.slice none 0 0) ([]:List α):=
 ⟨[],λ_ _=>False,rfl,World.ownsRow_nil _ _ _ _,by simp,by simp,by simp,by simp,by simp[Value.ownBlock]⟩
theorem gT.iB {α:Type} [Inhabited α] {El:(Nat->Prop)->World->Value->α->Prop}{E B:Nat}{A:Nat->Prop}{w:World}{v:Value}{xs:List α}(h:gT El E B A w v xs) (j:xs.length<=9223372036854775807):jm El (λk=>B<=k/\¬A k) w v xs:=by
 obtain⟨l,G,b,hO,e,hd,hE,hr,hr2⟩:=h;refine⟨G,λk=>(B<=k/\¬A k)/\v.ownBlock=some k,λk hk=>hk.1,λi k a hk=>⟨⟨(e i k a hk).1,hr i k a hk⟩,λh=>(e i k a hk).2.1 h.2⟩,hd,?_⟩;rcases hO.form with⟨rfl,rfl⟩|⟨g,cap,rfl,hnc,hBg,l5⟩
 ·have:xs.length=0:=by simpa using b.symm
  exact⟨none,0,by rw[this],⟨by omega,by omega,λ_=>rfl⟩,λi a=>by omega⟩
 ·refine ⟨_,cap,by rw[b],⟨by omega,j,λh=>by cases h⟩,λi a=>⟨g,0,gt l i,rfl,⟨⟨hBg,hr2 g rfl⟩,rfl⟩,l5,?_,hE i a⟩⟩
  rw[Nat.zero_add];exact hO.cell i (by omega)
theorem LU (P:Pr) (w:World) (pv:Value) (N:Nat->Prop) (C:gy N w pv P) :
  Calls Tryz.prog 25 #[pv] w (fq w λw' v=>∃a n c q r y,v=.tuple #[.slice a n c,.slice q r y,.int .i64 (iC P)] /\
   gT (λF w u (x:List (List Int))=>gY F w u x) 25 w.heap.size (λb=>(Value.slice q r y).ownBlock=some b) w' (.slice a n c) (iR P)/\Own w.heap.size w' (.slice q r y) (sw P)):=by
 obtain⟨vo,vp,vc,rfl,h3⟩:=C;have z:=fB.box h3 28;have A:Ext w (w.alloc (.cells #[vo,vp,vc] 28)):=World.grownBy_alloc _ _ _;have k:=EX P _ _ Any z;go_enter Tryz.func25,Tryz.ntmps25;go_wp2_with fail
 generalize D:w.alloc (.cells #[vo,vp,vc] 28)=w0 at *;clear D;refine Calls.mono k ?_;rintro S O ⟨v1,rfl,m,lp,rfl,hno,hyes⟩;clear k;have i:=dy A m;by_cases j:iC P=0
 ·obtain ⟨lb,L,rfl,hL,hA⟩:=hyes j
  obtain⟨Q,lv,mv,hX,hO,hM⟩:=hA;have G:=lZ (qD j).1;have E:=(qD j).2;have e:=tG j hL;have B:=EG P G E L hL O w0.heap.size lb _ lv mv Any hX (z.ext m) hO m.size;obtain⟨c,l⟩:∃c,c=iC P:=⟨_,rfl⟩;have H:c=0:=by rw[l];exact j
  rw[<-l];have p:=Lib.hid (And.intro l e);clear l e hO hL hM hno hyes j hX;subst H;go_wp2_with fail
  refine Calls.mono B ?_;rintro T U ⟨V,rfl,hg2,a,n,c,q,r,y,rfl,I,J⟩;clear B;rw[<-p.out.2.1] at I;rw[<-p.out.2.2] at J;have M:=Lib.hid (And.intro (I.weak A.size) (J.weak i.size));clear I J;go_wp2;refine bodyPost_ret (v := .tuple #[.slice a n c,.slice q r y,.int .i64 0]) (by simp[results,Tryz.results25,go_sem]) rfl ?_;exact⟨_,rfl,dy i hg2,_,_,_,_,_,_,by rw[<-p.out.1],M.out.1,M.out.2⟩
 ·have K:=hno j
  subst K;have e:=LP j;obtain⟨c,l⟩:∃c,c=iC P:=⟨_,rfl⟩;rw[<-l] at j ⊢;have R:(c != 0)=true:=by simpa using j
  have p:=Lib.hid (And.intro l e);clear l e hno hyes;go_wp2;refine bodyPost_ret (v := .tuple #[.slice none 0 0,.slice none 0 0,.int .i64 c]) (by simp[results,Tryz.results25,go_sem]) rfl ?_;exact⟨_,rfl,i,none,0,0,none,0,0,by rw[<-p.out.1],by rw[p.out.2.1];exact gT.nil' _ _ _ _ _,by rw[p.out.2.2];exact World.ownsRow_nil _ _ _ _⟩
def Zr (P:Pr) (U:List (List Int)) (x:List Int):Prop:=dL P.orders x/\∀j,j<U.length->gt x (dep (gt U j))=0
theorem ez.Fe {P:Pr}(G:ez P) {H:List Int->Prop}(S:Sub P H) {x y:List Int}(hx:Zr P (fD P H) x) (hy:Zr P (fD P H) y) (h:H (fC P (gj P x) y)):x=y:=by
 obtain⟨_,_,h3⟩:=G.iV S;have l:=G.invV hx.1;have m:fC P x (fC P (gj P x) y)=y:=by rw[<-G.ass hx.1 l hy.1,G.j7 hx.1,G.fS.el _ hy.1]
 by_cases r:fC P (gj P x) y=zeros P.orders.length
 ·rw[r,G.fS.er _ hx.1] at m;exact m
 ·exfalso
  have a:=S.vec _ h;obtain⟨e,k,u,h0⟩:=uP a r;obtain⟨j,hj,p⟩:=h3 _ h e k u h0;have q:=(G.right (Nat.le_of_lt k) hx.1 u).2 k;have b:=hx.2 j hj;have i:=hy.2 j hj;rw[p] at b i;rw[m,b,i,Int.zero_add] at q;have w:=a.2 e k;rw[Int.emod_eq_of_lt w.1 w.2] at q;exact h0 q.symm
theorem ez.LV {P:Pr}(G:ez P) {H:List Int->Prop}(S:Sub P H) {x y Y:List Int}(hx:Zr P (fD P H) x) (hy:dL P.orders y) (b:nK P (fD P H) (fC P y x) (fD P H).length Y):Y=x↔H (fW P y x):=by
 have p:=(G.iV S).2.1;have a:=G.gz hy hx.1;have i:=b.cos H S p;have e:=G.invV hx.1;have q:=G.invV hy
 have m:fC P (gj P (fC P y x)) x=gj P (fW P y x):=by
  unfold fW;rw[G.tH e a,G.inv_inv hx.1]
 constructor
 ·rintro rfl
  rw[m] at i;have:=S.inv _ i;have j:dL P.orders (fW P y Y):=G.gz e a;rwa [G.inv_inv j] at this
 ·intro h
  have h1:H (fC P (gj P (fC P y x)) x):=by rw[m];exact S.inv _ h
  refine G.Fe S ⟨b.vec,b.mU⟩ hx ?_
  have r:fC P (gj P Y) x=fC P (gj P (fC P (gj P (fC P y x)) Y)) (fC P (gj P (fC P y x)) x):=by
   have k:=G.invV a;have l:=G.invV b.vec;rw[G.tH k b.vec,G.inv_inv a,G.ass l a (G.gz k hx.1),<-G.ass a k hx.1,G.j7 a,G.fS.el _ hx.1]
  rw[r];exact S.mul _ _ (S.inv _ i) h1
def fV (P:Pr) (U:List (List Int)):List Nat:=(List.range P.orders.length).filter (λi => !(U.map dep).contains i)
def iF (P:Pr) (i:Nat):Nat:=(gt P.orders i).toNat
def tI (P:Pr) (out:List (List Int)) (i:Nat):List (List Int):=out.flatMap (λx=>(List.range (iF P i)).map (λe=>x.set i (e:Int)))
def iM (P:Pr) (is:List Nat):List (List Int):=is.foldl (tI P) [zeros P.orders.length]
def jI (P:Pr):List Nat->Nat->List Int
 | [],_=>zeros P.orders.length
 | i :: r,t=>(jI P r (t/iF P i)).set i ((t%iF P i:Nat):Int)
def kY (P:Pr):List Nat->Nat
 | []=>1
 | i :: r=>kY P r*iF P i
theorem Ff {α:Type}(g:Nat->Nat->α) (o:Nat):∀N,(List.range N).flatMap (λa=>(List.range o).map (g a))=(List.range (N*o)).map (λt=>g (t/o) (t%o))
 | 0=>by simp
 | N+1=>by
  rw[List.range_succ,List.flatMap_append,Ff g o N,Nat.succ_mul,List.range_add,List.map_append];congr 1
  rw[List.flatMap_singleton,List.map_map];refine List.map_congr_left (λe i => ?_);have b:=List.mem_range.1 i;have j:0<o:=by omega
  show g N e=g ((N*o+e)/o) ((N*o+e)%o)
  rw[Nat.add_comm (N*o) e,Nat.add_mul_div_right _ _ j,Nat.div_eq_of_lt b,Nat.zero_add,Nat.add_mul_mod_self_right,Nat.mod_eq_of_lt b]
theorem uQ (P:Pr):∀r:List Nat,iM P r.reverse=(List.range (kY P r)).map (jI P r)
 | []=>by simp[iM,kY,jI]
 | i :: r=>by
  have b:=uQ P r;unfold iM at b ⊢;rw[List.reverse_cons,List.foldl_append,b];show tI P _ i=_
  unfold tI;rw[List.flatMap_map];exact Ff (λa e=>(jI P r a).set i (e:Int)) (iF P i) (kY P r)
end Go.Proofs.YtoakmefajbbggaaGreat
namespace Go.Proofs.YtoakmefajbbggaaGreat
def El {P:Pr}(_:ez P):Type := {x:List Int // dL P.orders x}
section
variable {P:Pr}{G:ez P}
instance:Mul (El G):=⟨λx y=>⟨fC P x.1 y.1,G.gz x.2 y.2⟩⟩
instance:One (El G):=⟨⟨zeros P.orders.length,G.jP⟩⟩
instance:Inv (El G):=⟨λx=>⟨gj P x.1,G.invV x.2⟩⟩
theorem El.ass (x y z:El G):x*y*z=x*(y*z):=Subtype.ext (G.ass x.2 y.2 z.2)
theorem El.ol (x:El G):1*x=x:=Subtype.ext (G.fS.el _ x.2)
theorem El.or (x:El G):x*1=x:=Subtype.ext (G.fS.er _ x.2)
theorem El.il (x:El G):x⁻¹ * x=1:=Subtype.ext (G.inv_mul x.2)
theorem El.ir (x:El G):x*x⁻¹ = 1:=Subtype.ext (G.j7 x.2)
theorem El.Ag (x y:El G):x⁻¹ * (x*y)=y:=by rw[<-El.ass,El.il,El.ol]
theorem El.xR (x y:El G):x*(x⁻¹ * y)=y:=by rw[<-El.ass,El.ir,El.ol]
theorem El.sk {x y:El G}(h:x*y=1):y=x⁻¹ :=by rw[<-El.Ag x y,h,El.or]
theorem El.mi (x y:El G):(x*y)⁻¹ = y⁻¹ * x⁻¹ := (El.sk (by rw[El.ass,El.xR,El.ir])).symm
theorem El.ii (x:El G):x⁻¹⁻¹ = x:=(El.sk (El.il x)).symm
def ep (x:El G):Nat->El G
 | 0=>1
 | k+1=>ep x k*x
theorem Fg (x:El G):∀k,(ep x k).1=pw P x.1 k
 | 0=>rfl
 | k+1=>by
  show fC P (ep x k).1 x.1=_
  rw[Fg x k];rfl
structure SG (H:El G->Prop):Prop where
 one:H 1
 mul:∀x y,H x->H y->H (x*y)
 inv:∀x,H x->H x⁻¹
theorem SG.ep {H:El G->Prop}(S:SG H) {x:El G}(hx:H x) (k:Nat):H (ep x k):=by
 induction k with
 | zero=>exact S.one
 | succ k a=>exact S.mul _ _ a hx
theorem SG.and {H K:El G->Prop}(S:SG H) (R:SG K):SG (λx=>H x/\K x):=
 ⟨⟨S.one,R.one⟩,λ_ _ h k=>⟨S.mul _ _ h.1 k.1,R.mul _ _ h.2 k.2⟩,λ_ h=>⟨S.inv _ h.1,R.inv _ h.2⟩⟩
def dT (d:Nat) (x:El G):Prop:=∀k,k<d->gt x.1 k=0
theorem mH {d:Nat}{x:El G} : dT d x↔T P d x.1:=⟨λh=>⟨x.2,h⟩,λh=>h.2⟩
theorem Ah {d:Nat}(a:d<=P.orders.length):SG (dT (G:=G) d):=
 ⟨mH.2 (T.zeros G.v d),λ_ _ h k=>mH.2 (G.qE a (mH.1 h) (mH.1 k)),λ_ h=>mH.2 (G.xS a (mH.1 h))⟩
theorem Fh {x:El G}(h:dT P.orders.length x):x=1:=Subtype.ext ((mH.1 h).top G.v)
theorem Fi {d:Nat}{x:El G}(h:dT d x) (a:gt x.1 d=0):dT (d+1) x:=mH.2 ((mH.1 h).up a)
theorem Fj {d:Nat}{x:El G}(h:dT (d+1) x):dT d x:=λk hk=>h k (by omega)
theorem Fk (x:El G):dT 0 x:=λk hk=>by omega
def pv (H:El G->Prop) (d:Nat):Prop:=d<P.orders.length/\∃x,H x/\dT d x/\gt x.1 d≠0
theorem LW (q b c:Nat) (a:q=2\/q=3\/q=5\/q=7) (e:0<b) (h1:b<q) (i:c<q):∃j,(j*b)%q=c:=by
 have key:∀q,q<8->(q=2\/q=3\/q=5\/q=7)->∀b,b<q->0<b->∀c,c<q->∃j,j<q/\(j*b)%q=c:=by decide
 obtain⟨j,_,h⟩:=key q (by omega) a b h1 e c i;exact⟨j,h⟩
theorem xT (G:ez P) {d:Nat}(a:d<P.orders.length):∃q:Nat,gt P.orders d=(q:Int)/\(gt P.orders d).toNat=q/\(q=2\/q=3\/q=5\/q=7):=by
 have:=G.v.ord d a;exact⟨(gt P.orders d).toNat,by omega,rfl,by omega⟩
theorem Fl {d:Nat}(a:d<=P.orders.length) {x:El G}(h:dT d x) (k:Nat):dT d (ep x k):=(Ah a).ep h k
theorem Fm {d:Nat}(a:d<P.orders.length) {x:El G}(h:dT d x) (k:Nat):gt (ep x k).1 d=((k:Int)*gt x.1 d)%gt P.orders d:=by
 rw[Fg];exact G.p7 a (mH.1 h) k
theorem Fq {d:Nat}(a:d<P.orders.length) {x:El G}(h:dT d x) (i:gt x.1 d≠0) {c:Int}(k:0<=c/\c<gt P.orders d):∃j,gt (ep x j).1 d=c:=by
 obtain⟨q,h1,h2,h3⟩:=xT G a;have l:=x.2.2 d a;obtain⟨b,Ai⟩:∃b:Nat,gt x.1 d=(b:Int):=⟨(gt x.1 d).toNat,by omega⟩;obtain⟨e,he⟩:∃e:Nat,c=(e:Int):=⟨c.toNat,by omega⟩;obtain⟨j,hj⟩:=LW q b e h3 (by omega) (by omega) (by omega);refine⟨j,?_⟩;rw[Fm a h,h1,Ai,he,<-hj,Int.natCast_emod,Int.natCast_mul]
theorem Fu {d:Nat}(a:d<P.orders.length) {x y:El G}(hx:dT d x) (hy:dT d y) (h:gt x.1 d=gt y.1 d):dT (d+1) (x⁻¹ * y):=
 mH.2 (G.diff a (mH.1 hx) (mH.1 hy) h)
theorem LX {d:Nat}(a:d<P.orders.length) {x y:El G}(h:dT (d+1) (x⁻¹ * y)):gt x.1 d=gt y.1 d:=by
 have h1:=(G.right (Nat.succ_le_of_lt a) x.2 (mH.1 h)).1 d (by omega);have b:fC P x.1 (x⁻¹ * y).1=y.1:=congrArg Subtype.val (El.xR x y);rw[b] at h1;exact h1.symm
theorem UQ {H K:El G->Prop}(S:SG H) (R:SG K) (i:∀x,H x->K x) (p:∀d,pv K d->pv H d):∀x,K x->H x:=by
 have key:∀f d,d+f=P.orders.length->∀x,K x->dT d x->H x:=by
  intro f;induction f with
  | zero=>
   intro d q x _ b;have:d=P.orders.length:=by omega
   subst this;rw[Fh b];exact S.one
  | succ f l=>
   intro d q x hx b;by_cases m:gt x.1 d=0
   ·exact l (d+1) (by omega) x hx (Fi b m)
   ·obtain ⟨a,y,hy,e,hy0⟩:=p d ⟨by omega,x,hx,b,m⟩
    obtain⟨j,r⟩:=Fq a e hy0 (x.2.2 d a);have k:=Fl (Nat.le_of_lt a) e j;have h1:=l (d+1) (by omega) _ (R.mul _ _ (R.inv _ (R.ep (i _ hy) j)) hx) (Fu a k b r);have u:=S.mul _ _ (S.ep hy j) h1;rwa [El.xR] at u
 exact λx hx=>key P.orders.length 0 (by omega) x hx (Fk x)
theorem Ch (G:ez P):∃l:List (El G),l.Nodup/\∀x,x∈l:=by
 have key:∀m:List (List Int),m.Nodup->∃l:List (El G),l.Nodup/\∀x:El G,x∈l↔x.1∈m:=by
  intro m;induction m with
  | nil=>intro _;exact⟨[],List.nodup_nil,λx=>by simp⟩
  | cons a m k=>
   intro h;obtain⟨h1,i⟩:=List.nodup_cons.1 h;obtain⟨l,hl,j⟩:=k i;by_cases ha:dL P.orders a
   ·obtain ⟨y,hy⟩:∃y:El G,y.1=a:=⟨⟨a,ha⟩,rfl⟩
    refine⟨y :: l,List.nodup_cons.2 ⟨λb=>h1 (hy▸(j _).1 b),hl⟩,λx => ?_⟩;rw[List.mem_cons,List.mem_cons,j x];exact⟨λb=>b.elim (λe => .inl (by rw[e];exact hy)) .inr,λb=>b.elim (λe => .inl (Subtype.ext (e.trans hy.symm))) .inr⟩
   ·refine ⟨l,hl,λx => ?_⟩
    rw[j x,List.mem_cons];exact⟨.inr,λb=>b.elim (λe=>absurd (e▸x.2) ha) id⟩
 obtain⟨l,h1,i⟩:=key (jQ P (dL P.orders)) (uR G.v _);exact⟨l,h1,λx=>(i x).2 ((nL G.v (λ_ h=>h)) x.1 |>.2 x.2)⟩
noncomputable def els (G:ez P):List (El G):=Classical.choose (Ch G)
theorem Fv (G:ez P):(els G).Nodup:=(Classical.choose_spec (Ch G)).1
theorem Ci (G:ez P) (x:El G):x∈els G:=(Classical.choose_spec (Ch G)).2 x
open Classical in
noncomputable def pg (H:El G->Prop):List (El G):=(els G).filter (λx=>decide (H x))
theorem Aj (H:El G->Prop):(pg H).Nodup:=(Fv G).filter _
theorem pq {H:El G->Prop}{x:El G} : x∈pg H↔H x:=by
 classical
 unfold pg;rw[List.mem_filter,decide_eq_true_iff];exact⟨λh=>h.2,λh=>⟨Ci G x,h⟩⟩
noncomputable def cd (H:El G->Prop):Nat:=(pg H).length
theorem Fw {H:El G->Prop}{l:List (El G)}(h1:l.Nodup) (a:∀x,x∈l↔H x):cd H=l.length:=
 ((List.perm_ext_iff_of_nodup (Aj H) h1).2 (λx=>pq.trans (a x).symm)).length_eq
theorem Fx {H K:El G->Prop}(h:∀x,H x↔K x):cd H=cd K:=by
 have:H=K:=funext λx=>propext (h x);rw[this]
theorem LY {H:El G->Prop}(S:SG H):0<cd H:=List.length_pos_of_mem (pq.2 S.one)
def eqv (N:El G->Prop) (x y:El G):Prop:=N (x⁻¹ * y)
theorem LZ {N:El G->Prop}(S:SG N) (x:El G):eqv N x x:=by unfold eqv;rw[El.il];exact S.one
theorem L0 {α a:Type}(l:List α) (f:α->List a) (n:Nat) (h:∀x∈l,(f x).length=n):(l.flatMap f).length=l.length*n:=xU l f n h
theorem Cj {N B:El G->Prop}(S:SG N) {ts:List (El G)}(p:ts.Nodup) (q:∀t∈ts,∀n,N n->B (t*n)) (h1:∀t∈ts,∀u∈ts,eqv N t u->t=u) (r:∀x,B x->∃t∈ts,eqv N t x):cd B=ts.length*cd N:=by
 rw[Fw (H:=B) (l:=ts.flatMap (λt=>(pg N).map (λn=>t*n))) ?_ ?_]
 ·exact L0 _ _ _ (λx _=>List.length_map ..)
 ·refine List.nodup_iff_pairwise_ne.2 (List.pairwise_flatMap.2 ⟨λt _ => ?_,?_⟩)
  ·rw [List.pairwise_map]
   refine(List.nodup_iff_pairwise_ne.1 (Aj N)).imp (λ{a b} i e=>i ?_);have:=congrArg (λz=>t⁻¹ * z) e;simpa only[El.Ag] using this
  ·refine (List.nodup_iff_pairwise_ne.1 p).imp_of_mem (λ{a b} ha w i x hx y hy e=>i (h1 a ha b w ?_))
   obtain⟨n,j,rfl⟩:=List.mem_map.1 hx;obtain⟨m,k,rfl⟩:=List.mem_map.1 hy;unfold eqv
   have A:a⁻¹ * b=n*m⁻¹ :=by
    have C:b=a*n*m⁻¹ :=by rw[e,El.ass,El.ir,El.or]
    rw[C,El.ass,El.Ag]
   rw[A];exact S.mul _ _ (pq.1 j) (S.inv _ (pq.1 k))
 ·intro x
  rw[List.mem_flatMap];constructor
  ·rintro ⟨t,ht,hx⟩
   obtain⟨n,j,rfl⟩:=List.mem_map.1 hx;exact q t ht n (pq.1 j)
  ·intro hx
   obtain⟨t,ht,h⟩:=r x hx;exact⟨t,ht,List.mem_map.2 ⟨t⁻¹ * x,pq.2 h,El.xR t x⟩⟩
open Classical in
noncomputable def jS (P:Pr) (Q:Nat->Prop):Nat->Nat->Nat
 | 0,_=>1
 | f+1,d=>(if Q d then (gt P.orders d).toNat else 1)*jS P Q f (d+1)
theorem Ck {Q R:Nat->Prop} : ∀f d,(∀k,d<=k->k<d+f->(Q k↔R k))->jS P Q f d=jS P R f d
 | 0,_,_=>rfl
 | f+1,d,h=>by
  have h1:=h d (by omega) (by omega);unfold jS;rw[Ck f (d+1) (λk a b=>h k (by omega) (by omega))];by_cases e:Q d
  ·rw[if_pos e,if_pos (h1.1 e)]
  ·rw[if_neg e,if_neg (λi=>e (h1.2 i))]
theorem Fy {Q R:Nat->Prop} : ∀f d,(∀k,d<=k->k<d+f->Q k->¬R k)->jS P Q f d*jS P R f d=jS P (λk=>Q k\/R k) f d
 | 0,_,_=>rfl
 | f + 1,d,h=>by
  have h1:=h d (by omega) (by omega);have j:=Fy f (d+1) (λk a b=>h k (by omega) (by omega));unfold jS;rw[<-j];by_cases e:Q d
  ·rw [if_pos e,if_neg (h1 e),if_pos (.inl e)]
   simp only[Nat.one_mul,Nat.mul_assoc]
  ·by_cases i:R d
   ·rw [if_neg e,if_pos i,if_pos (.inr i)]
    simp only[Nat.one_mul,Nat.mul_left_comm]
   ·rw [if_neg e,if_neg i,if_neg (λl=>l.elim e i)]
    simp only[Nat.one_mul]
theorem Fz (G:ez P) (Q:Nat->Prop):∀f d,d+f=P.orders.length->0<jS P Q f d
 | 0,_,_=>Nat.one_pos
 | f+1,d,h=>by
  have:=Fz G Q f (d+1) (by omega);obtain⟨q,_,h2,h3⟩:=xT G (show d<P.orders.length by omega);unfold jS;split
  ·exact Nat.mul_pos (by omega) this
  ·rw[Nat.one_mul];exact this
theorem FA {H:El G->Prop}(S:SG H):∀f d,d+f=P.orders.length->cd (λx=>H x/\dT d x)=jS P (pv H) f d
 | 0, d,hd=>by
  have:d=P.orders.length:=by omega
  subst this
  have:=Fw (H:=λx=>H x/\dT P.orders.length x) (l:=[(1:El G)]) (by simp) (λx=>by
   rw[List.mem_singleton];exact⟨λe=>by rw[e];exact⟨S.one,(Ah (Nat.le_refl _)).one⟩,λh=>Fh h.2⟩)
  exact this
 | f + 1,d,hd=>by
  have m:d<P.orders.length:=by omega
  have M:=FA S f (d+1) (by omega);have S':SG (λx=>H x/\dT (d+1) x):=S.and (Ah (by omega));have D:SG (dT (G:=G) d):=Ah (by omega);rw[jS,<-M];by_cases B:pv H d
  ·rw [if_pos B]
   obtain⟨_,y0,hy0,z,hn0⟩:=B;obtain⟨q,hq1,L1,UR⟩:=xT G m;obtain⟨j,E⟩:=Fq m z hn0 (c:=1) (by omega);obtain⟨y,hy⟩:∃y,y=ep y0 j:=⟨_,rfl⟩;have A:H y:=by rw[hy];exact S.ep hy0 j
   have r:dT d y:=by rw[hy];exact Fl (by omega) z j
   have F:gt y.1 d=1:=by rw[hy];exact E
   have w:∀i,i<q->gt (ep y i).1 d=(i:Int):=λi C=>by
    rw[Fm m r,F,hq1,Int.mul_one,Int.emod_eq_of_lt (by omega) (by omega)]
   have p:∀i j,i<q->j<q->eqv (λx=>H x/\dT (d+1) x) (ep y i) (ep y j)->i=j:=λi j C E h=>by
    have:=LX m h.2;rw[w i C,w j E] at this;omega
   have N:((List.range q).map (λi=>ep y i)).length=(gt P.orders d).toNat:=by rw[List.length_map,List.length_range,L1]
   rw[<-N];refine Cj S' ?_ ?_ ?_ ?_
   ·refine List.nodup_iff_pairwise_ne.2 ?_
    rw[List.pairwise_map];refine(List.nodup_iff_pairwise_ne.1 List.nodup_range).imp_of_mem (λ{a b} ha K I e=>I (p a b (List.mem_range.1 ha) (List.mem_range.1 K) ?_));rw[e];exact LZ S' _
   ·intro t J n L
    obtain⟨i,_,rfl⟩:=List.mem_map.1 J;exact⟨S.mul _ _ (S.ep A i) L.1,D.mul _ _ (D.ep r i) (Fj L.2)⟩
   ·intro t J u O h
    obtain⟨i,C,rfl⟩:=List.mem_map.1 J;obtain⟨k,hk,rfl⟩:=List.mem_map.1 O;rw[p i k (List.mem_range.1 C) (List.mem_range.1 hk) h]
   ·intro x hx
    have K:=x.2.2 d m;refine⟨ep y (gt x.1 d).toNat,List.mem_map.2 ⟨_,List.mem_range.2 (by omega),rfl⟩,S.mul _ _ (S.inv _ (S.ep A _)) hx.1,Fu m (D.ep r _) hx.2 ?_⟩;rw[w _ (by omega)];omega
  ·rw [if_neg B,Nat.one_mul]
   exact Fx (λx=>⟨λh=>⟨h.1,Fi h.2 (Classical.byContradiction λQ=>B ⟨m,x,h.1,h.2,Q⟩)⟩,λh=>⟨h.1,Fj h.2⟩⟩)
theorem L3 {H:El G->Prop}(S:SG H):cd H=jS P (pv H) P.orders.length 0:=by
 rw[<-FA S _ _ (Nat.zero_add _)];exact Fx (λx=>⟨λh=>⟨h,Fk x⟩,λh=>h.1⟩)
end
end Go.Proofs.YtoakmefajbbggaaGreat
namespace Go.Proofs.YtoakmefajbbggaaGreat
open Go.RowKit
section
variable {P:Pr}{G:ez P}
def jY (G:ez P) (H:List Int->Prop):El G->Prop:=λx=>H x.1
theorem xV {H:List Int->Prop}(S:Sub P H):SG (jY G H):=⟨S.one,λ_ _ h k=>S.mul _ _ h k,λ_ h=>S.inv _ h⟩
theorem tJ {H:List Int->Prop}(S:Sub P H):fJ P (fD P H) (fD P H).length=(cd (jY G H):Int):=by
 rw[G.uS S]
 have h1:((pg (jY G H)).map (λx:El G=>x.1)).Nodup:=by
  refine List.nodup_iff_pairwise_ne.2 ?_;rw[List.pairwise_map];exact(List.nodup_iff_pairwise_ne.1 (Aj _)).imp (λ{a b} i e=>i (Subtype.ext e))
 have j:=(List.perm_ext_iff_of_nodup (uR G.v H) h1).2 (λx=>by
  rw[nL G.v S.vec,List.mem_map];constructor
  ·intro hx
   exact⟨⟨x,S.vec x hx⟩,pq.2 hx,rfl⟩
  ·rintro ⟨y,hy,rfl⟩
   exact pq.1 hy)
 rw[j.length_eq,List.length_map];rfl
def Ak (G:ez P) (u:List (List Int)):Nat->Prop:=pv (jY G (gP P u))
theorem FB (G:ez P) {u:List (List Int)}(a:fO P u):fJ P u u.length=(jS P (Ak G u) P.orders.length 0:Nat):=by
 have S:=G.gG a;have h:=tJ (G:=G) S;rw[L3 (xV S)] at h;have e:fD P (gi P λx=>x∈u)=u:=a.2.symm;rw[e] at h;exact h
noncomputable def xW (P:Pr) (Q:Nat->Prop) (d:Nat):Nat:=jS P Q d 0
theorem FC (Q:Nat->Prop):∀f d,jS P Q (f+1) d=jS P Q f d*jS P Q 1 (d+f)
 | 0,d=>by
  show jS P Q 1 d=1*jS P Q 1 (d+0)
  rw[Nat.one_mul];rfl
 | f+1,d=>by
  have a:=FC Q f (d+1);rw[jS,a,<-Nat.mul_assoc,show d+1+f=d+(f+1) by omega];conv=>rhs;rw[jS]
open Classical in
theorem FD (Q:Nat->Prop) (d:Nat):xW P Q (d+1)=xW P Q d*(if Q d then (gt P.orders d).toNat else 1):=by
 unfold xW;rw[FC,Nat.zero_add,jS,jS,Nat.mul_one]
theorem FE (G:ez P) {u:List (List Int)}(i:fO P u) {g:List Int}(j:dL P.orders g):fJ P (jo P u g) (jo P u g).length=fJ P u u.length:=by
 have m:=G.uS (G.sx (G.gG i) j);have h1:=G.uS (G.gG i);have p:fD P (jT P (gi P λx=>x∈u) g)=jo P u g:=(G.sy i j).symm;have q:fD P (gi P λx=>x∈u)=u:=i.2.symm;rw[p] at m;rw[q] at h1;rw[m,h1]
 have r:((jQ P (gi P λx=>x∈u)).map (λy=>fW P y g)).Nodup:=by
  refine List.nodup_iff_pairwise_ne.2 ?_;rw[List.pairwise_map];refine(List.nodup_iff_pairwise_ne.1 (uR G.v _)).imp_of_mem (λ{a b} ha w k e=>k ?_);have A:=(G.gG i).vec a ((nL G.v (G.gG i).vec a).1 ha);have B:=(G.gG i).vec b ((nL G.v (G.gG i).vec b).1 w);rw[<-G.FH A j,<-G.FH B j,e]
 have C:=(List.perm_ext_iff_of_nodup (uR G.v (jT P (gi P λx=>x∈u) g)) r).2 (λx=>by
  rw[nL G.v (G.sx (G.gG i) j).vec,List.mem_map];constructor
  ·rintro ⟨z,l,rfl⟩
   exact⟨z,(nL G.v (G.gG i).vec z).2 l,rfl⟩
  ·rintro ⟨z,l,rfl⟩
   exact⟨z,(nL G.v (G.gG i).vec z).1 l,rfl⟩)
 rw[C.length_eq,List.length_map]
end
section
variable {P:Pr}
theorem L4 (G:ez P):((jS P (λ_=>True) P.orders.length 0:Nat):Int)=eW P:=by
 have key:∀k,k<=P.orders.length->((xW P (λ_=>True) k:Nat):Int)=gI P.orders k:=by
  intro k;induction k with
  | zero=>intro _;rfl
  | succ k a=>
   intro h;obtain⟨q,h1,h2,h3⟩:=xT G (show k<P.orders.length by omega);rw[FD,if_pos trivial,Int.natCast_mul,a (by omega),h2,gI,h1]
 exact key _ (Nat.le_refl _)
end
section
variable {P:Pr}
theorem xX {U:List (List Int)}{i:Nat} : i∈fV P U↔i<P.orders.length/\¬i∈U.map dep:=by
 unfold fV;rw[List.mem_filter,List.mem_range];simp
theorem Cl (p:Nat->Bool):∀k,kY P ((List.range k).filter p).reverse=xW P (λd=>p d=true) k
 | 0=>rfl
 | k + 1=>by
  rw[List.range_succ,List.filter_append,List.reverse_append,FD];by_cases h:p k=true
  ·rw [List.filter_cons_of_pos h,List.filter_nil,List.reverse_singleton,List.singleton_append,if_pos h]
   show kY P _*iF P k=_
   rw[Cl p k];rfl
  ·rw[List.filter_cons_of_neg h,List.filter_nil,List.reverse_nil,List.nil_append,if_neg h,Nat.mul_one,Cl p k]
theorem L5 (G:ez P) {U:List (List Int)}(h:fO P U) (d:Nat):Ak G U d↔d∈U.map dep:=by
 have S:=G.gG h;obtain⟨h1,b,i⟩:=G.iV S;have e:fD P (gP P U)=U:=h.2.symm;rw[e] at h1 b i;constructor
 ·rintro ⟨l,x,hx,m,p⟩
  obtain⟨j,hj,sA⟩:=i x.1 hx d l (mH.1 m) p;exact List.mem_map.2 ⟨_,iW hj,sA⟩
 ·intro q
  obtain⟨z,hz,rfl⟩:=List.mem_map.1 q;obtain⟨k,hlt,a⟩:=h1.1 z hz;exact⟨hlt,⟨z,k⟩,b z hz,mH.2 (qF k),by show gt z (dep z)≠0;rw[a];decide⟩
theorem Cm (G:ez P) {U:List (List Int)}(h:fO P U):eW P=fJ P U U.length*((kY P (fV P U).reverse:Nat):Int):=by
 have a:kY P (fV P U).reverse=jS P (λd=>¬Ak G U d) P.orders.length 0:=by
  unfold fV;rw[Cl];exact Ck _ _ (λk _ _=>by rw[L5 G h];simp)
 rw[FB G h,a,<-Int.natCast_mul,Fy _ _ (λk _ _ hk b=>b hk)];rw[<-L4 G,Int.natCast_inj];exact Ck _ _ (λk _ _=>⟨λ_=>Classical.em _,λ_=>trivial⟩)
theorem FI (G:ez P) {U:List (List Int)}(h:fO P U):eW P/fJ P U U.length=((kY P (fV P U).reverse:Nat):Int):=by
 have a:0<fJ P U U.length:=by
  rw[FB G h];have:=Fz G (Ak G U) _ _ (Nat.zero_add _);omega
 rw[Cm G h,Int.mul_comm,Int.mul_ediv_cancel _ (by omega)]
theorem uT (G:ez P) {U:List (List Int)}(t:Nat):Zr P U (jI P (fV P U).reverse t):=by
 have key:∀(r:List Nat),(∀i∈r,i<P.orders.length/\¬i∈U.map dep)->∀t,dL P.orders (jI P r t)/\∀k,k∈U.map dep->gt (jI P r t) k=0:=by
  intro r;induction r with
  | nil=>intro _ t;exact⟨G.jP,λk _=>jw _ _⟩
  | cons i r m=>
   intro l t;obtain⟨h1,h2⟩:=m (λj e=>l j (List.mem_cons_of_mem _ e)) (t/iF P i);obtain⟨b,hn⟩:=l i (List.mem_cons_self ..);obtain⟨q,e1,e2,e3⟩:=xT G b;have p:iF P i=q:=e2;have u:2<=q:=by omega
   unfold jI;refine⟨⟨by rw[List.length_set];exact h1.1,λk hk => ?_⟩,λk hk => ?_⟩
   ·by_cases a:k=i
    ·subst a
     rw[iN _ _ _ (by rw[h1.1];exact b),p,e1];have:=Nat.mod_lt t (show 0<q by omega);omega
    ·rw [iy _ _ _ _ (λh=>a h.symm)]
     exact h1.2 k hk
   ·have a:k≠i:=λh=>hn (h▸hk)
    rw[iy _ _ _ _ (λh=>a h.symm)];exact h2 k hk
 obtain⟨h1,h2⟩:=key (fV P U).reverse (λi b=>xX.1 (List.mem_reverse.1 b)) t;exact⟨h1,λj e=>h2 _ (List.mem_map.2 ⟨_,iW e,rfl⟩)⟩
open Classical in
noncomputable def jU (P:Pr) (U V:List (List Int)):Nat:=((iM P (fV P U)).filter (λx=>decide (∀y∈V,gP P U (fW P y x)))).length
end
noncomputable def jd (P:Pr) (u:List (List Int)) (F:List (List (List Int))):List Int:=F.map (λv=>((jU P u v:Nat):Int))
open Classical in
noncomputable def pz (P:Pr):Int:=if iC P=0/\24<(iR P).length then 3 else iC P
open Classical in
noncomputable def jJ (P:Pr):List (List Int):=if iC P=0/\¬ 24<(iR P).length then (iR P).map (λu=>jd P u (iR P)) else []
theorem Al {P:Pr}(h:iC P≠0):pz P=iC P/\jJ P=[]:=by
 unfold pz jJ;rw[if_neg (λe=>h e.1),if_neg (λe=>h e.1)];exact⟨rfl,rfl⟩
theorem Am {P:Pr}(h:iC P=0) (a:24<(iR P).length):pz P=3/\jJ P=[]:=by
 unfold pz jJ;rw[if_pos ⟨h,a⟩,if_neg (λe=>e.2 a)];exact⟨rfl,rfl⟩
theorem Ao {P:Pr}(h:iC P=0) (a:¬ 24<(iR P).length):pz P=0/\jJ P=(iR P).map (λu=>jd P u (iR P)):=by
 unfold pz jJ;rw[if_neg (λe=>a e.2),if_pos ⟨h,a⟩];exact⟨h,rfl⟩
theorem uU (P:Pr) (u:List (List Int)) (F:List (List (List Int))):(jd P u F).length=F.length:=by unfold jd;rw[List.length_map]
theorem FJ (P:Pr) (u:List (List Int)) (F:List (List (List Int))) (j:Nat) (h:j<F.length):(jd P u F).take (j+1)=(jd P u F).take j++[((jU P u (gt F j):Nat):Int)]:=by
 rw[je _ j (by rw[uU];exact h)];unfold jd;rw[jM _ _ _ h]
theorem FK (P:Pr) (F:List (List (List Int))) (i:Nat) (h:i<F.length):(F.map (λu=>jd P u F)).take (i+1)=(F.map (λu=>jd P u F)).take i++[jd P (gt F i) F]:=by
 rw[je _ i (by rw[List.length_map];exact h),jM _ _ _ h]
theorem Cn (P:Pr):(jJ P).length<=729:=by
 by_cases h:iC P=0
 ·by_cases a:24<(iR P).length
  ·rw[(Am h a).2];simp
  ·rw[(Ao h a).2,List.length_map];omega
 ·rw[(Al h).2];simp
theorem Co {P:Pr}(h:iC P=0) {L:List (List (List Int))}(a:jO P L):∀u∈iR P,fO P u:=by
 intro u b;rw[(tG h a).1] at b;exact(a.2 u).1 (Af P (Nat.le_refl _) u b)
end Go.Proofs.YtoakmefajbbggaaGreat
namespace Go.Proofs.YtoakmefajbbggaaGreat
open Go.RowKit
open Classical
variable {P:Pr}{G:ez P}
structure L6 (K:El G->Prop) (L:List (El G)):Prop where
 nd:L.Nodup
 one:∀t∈L,∀u∈L,eqv K t u->t=u
 all:∀g,∃t∈L,eqv K t g
end Go.Proofs.YtoakmefajbbggaaGreat
namespace Go.Proofs.YtoakmefajbbggaaGreat
open Go.RowKit
theorem L8 (P:Pr) (G:ez P) (w:World) (pv uv xv:Value) (L:List (List Int)) (X:List Int) (Sp Su Sx:Nat->Prop) (W:gy Sp w pv P) (Y:dK Su w uv L) (Z:∀y∈L,dL P.orders y) (ap:L.length<=10000) (hx:Ints Sx w xv X) (hX:dL P.orders X) :
  Calls Tryz.prog 157 #[pv,uv,xv] w (fq w λw' v=>dK Any w' v (fD P (gi P (λz=>z∈gW P L X)))):=by
 have hP:=G.v;have aD:=hP.n6;obtain⟨vo,vp,vc,rfl,h3⟩:=W;have C:=fB.box h3 28;have p:Ext w (w.alloc (.cells #[vo,vp,vc] 28)):=World.grownBy_alloc _ _ _;have D:(w.alloc (.cells #[vo,vp,vc] 28)).heap.size=w.heap.size+1:=by simp
 have ab:=dK.ext Y p;have ac:=hx.ext p;obtain⟨au,jA,rfl,_,_⟩:=Sl.shape Y;obtain⟨ax,l6,rfl,_,_⟩:=hx.shape;obtain⟨ad,fN,fM,_,_,hc0,q,r,fP⟩:=C.at;simp only[Nat.zero_add] at q r;have E:(gW P L X).length=L.length:=by unfold gW;rw[List.length_map]
 have F:∀z∈gW P L X,dL P.orders z:=λz hz=>by
  unfold gW at hz;obtain⟨y,hy,rfl⟩:=List.mem_map.1 hz;exact G.oA (Z y hy) hX
 have m:=Lib.hid (And.intro Z (And.intro hX (And.intro E F)));clear Z hX E F C Y hx;go_enter Tryz.func157,Tryz.ntmps157;go_wp2;have HS:=Lib.hid D;clear D;generalize ae:w.alloc (.cells #[vo,vp,vc] 28)=w0 at *;clear ae;have f1:∀w',Ext w0 w'->w'.cell? ⟨w.heap.size,0,none⟩=some ad:=λw' h=>h.cell hc0 (by simp);have f2:∀w',Ext w0 w'->w'.cell? ⟨w.heap.size,1,none⟩=some fN:=λw' h=>h.cell q (by simp);have f3:∀w',Ext w0 w'->w'.cell? ⟨w.heap.size,2,none⟩=some fM:=λw' h=>h.cell r (by simp);have HF:=Lib.hid (And.intro f1 (And.intro f2 f3));clear f1 f2 f3 hc0 q r;go_loopw [7,8] (λov iv wr=>∃(k:Nat) (v4:Value),v4=ov/\iv=.int .i64 k/\k<=L.length/\Ext w0 wr/\gL (λ_=>False) w0.heap.size wr v4 ((gW P L X).take k)) (λ_ iv _=>L.length-(intOf iv).toNat)
 case atStart=>exact⟨0,_,rfl,rfl,by omega,World.grownBy_alloc _ _ _,by rw[<-HS.out];exact gL.lit _ _ _ (Nat.le_refl _)⟩
 case round=>
  obtain⟨k,v4,rfl,rfl,hk,B,H⟩:=hrel;by_cases a:k<L.length
  ·have ay:(k:Int)<L.length:=by omega
   obtain⟨b,off,a2,I,rfl,_,_,hc,hr⟩:=dK.at ab k a;have u:=m.out.1 _ (fT a)
   have i:(gW P L X).take (k+1)=(gW P L X).take k++[fW P (gt L k) X]:=by
    rw[je _ k (by rw[m.out.2.2.1];exact a)];unfold gW;rw[jM _ _ _ a]
   have J:((gW P L X).take k).length<=1000000:=by rw[List.length_take];have:=m.out.2.2.1;omega
   have K:=G.oA u m.out.2.1;have M:∀j,v4.ownBlock=some j->w0.heap.size<=j:=λj N=>(H.lt j N).1;have l:=Lib.hid (And.intro i (And.intro u (And.intro J K)));clear i u J K;obtain⟨f1,f2,f3⟩:=HF.out;have f4:∀w',Ext w0 w'->w'.cell? ⟨b,off+k,none⟩=some (.slice a2 (gt L k).length I):=λw' h=>h.cell hc (by simp);clear hc;go_wp2
   go_region_held3 (λw'=>Ext w0 w') (first|exact dy B (fk _ _)|assumption|exact dy A (World.grownBy_alloc _ _ _))
    (first
     | (go_at_call 213;refine Calls.mono (Calls.jF (w0:=w0) (by assumption) (L9 P hP _ _ _ _ (gt L k) X Any Any Any ⟨_,_,_,rfl,fA.ext fP (by assumption)⟩ (Ints.sub (Ints.ext hr (by assumption)) (λ_ _ _=>trivial)) (Ints.sub (Ints.ext ac (by assumption)) (λ_ _ _=>trivial)) l.out.2.1 m.out.2.1)) ?_;rintro eC wC ⟨vC,rfl,A,O,xY,Q⟩;have R:Ext wr wC:=dy (fk _ _) O;have S:Ints (λj=>¬False/\v4.ownBlock≠some j) wC vC (fW P (gt L k) X):=iD Q (by rw[l.out.2.2.2.1];omega) (λj N=>⟨id,λe=>by have h1:=(Q.lt j N).1;have h2:=(H.lt j e).2;have h3:wr.heap.size<=wr.drew.heap.size:=(fk wr none).size;omega⟩);obtain⟨aC,Ap,p8,_,_⟩:=S.shape;subst p8)
     | (refine Aq rfl _ _ rfl (λ_=>False) w0.heap.size v4 _ ((gW P L X).take k) _ rfl wC (H.ext R) rfl S rfl l.out.2.2.1 A.size ?_;intro v5 w5 T ah aK;have U:Ext w0 w5:=fu A ah (λj N a=>by have:=M j N;omega)))
   clear f1 f2 f3 f4;rw[<-l.out.1] at T;go_wp2;go_roundw
   case rel=>exact⟨k+1,v5,rfl,by go_num,by omega,U,T⟩
   case measure=>simp[intOf];omega
  ·have ai:k=L.length:=by omega
   subst ai;rw[List.take_of_length_le (by rw[m.out.2.2.1];exact Nat.le_refl _)] at H;obtain⟨f1,f2,f3⟩:=HF.out;have aj:=f1 wr B;have ak:=f2 wr B;have al:=f3 wr B;clear f1 f2 f3;have V:=H.rows;obtain⟨aq,mI,Ma,_,_⟩:=Sl.shape V;subst Ma;go_wp2_with fail
   clear aj ak al;refine Calls.mono (FL P G wr _ _ (gW P L X) Any Any ⟨_,_,_,rfl,fA.ext fP B⟩ V m.out.2.2.2 (by have:=m.out.2.2.1;omega)) ?_;rintro eF wF ⟨vF,rfl,am,Mb⟩;go_wp2;go_ret;exact⟨_,rfl,dy p (dy B am),Mb⟩
end Go.Proofs.YtoakmefajbbggaaGreat
namespace Go.Proofs.YtoakmefajbbggaaGreat
abbrev gU (P:Pr) (U:List (List Int)):List Int->Prop:=gi P (λx=>x∈U)
end Go.Proofs.YtoakmefajbbggaaGreat
namespace Go.Proofs.YtoakmefajbbggaaGreat
open Go.RowKit
section
variable {P:Pr}(G:ez P)
noncomputable def j9 (P:Pr) (H:List Int->Prop):Int:=fJ P (fD P H) (fD P H).length
include G in
theorem ez.Cp {H:List Int->Prop}(S:Sub P H):1<=j9 P H:=by
 unfold j9;rw[tJ (G:=G) S];have:=LY (xV (G:=G) S);omega
include G in
theorem ez.Mc {H:List Int->Prop}(S:Sub P H):j9 P H<=729:=(ry G.v (G.iV S).1 _ (Nat.le_refl _)).2
include G in
include G in
include G in
include G in
end
end Go.Proofs.YtoakmefajbbggaaGreat
namespace Go.Proofs.YtoakmefajbbggaaGreat
open Go.RowKit
open Classical
def Md {P:Pr}(G:ez P) (x:List Int) (h:dL P.orders x):El G:=⟨x,h⟩
noncomputable def mh {P:Pr}(G:ez P) (x:List Int):El G:=if h:dL P.orders x then Md G x h else 1
theorem uW {P:Pr}(G:ez P) {x:List Int}(h:dL P.orders x):(mh G x).1=x:=by unfold mh;rw[dif_pos h];rfl
section
variable {P:Pr}(G:ez P)
include G
end
section
variable {P:Pr}(G:ez P)
include G
theorem Cq:∀(r:List Nat),r.Nodup->(∀i∈r,i<P.orders.length)->∀t,(jI P r t).length=P.orders.length/\∀k,¬k∈r->gt (jI P r t) k=0
 | [],_,_,_=>⟨G.jP.1,λ_ _=>jw _ _⟩
 | i :: r,b,hr,t=>by
  rw[List.nodup_cons] at b;obtain⟨h1,h2⟩:=Cq r b.2 (λj l=>hr j (List.mem_cons_of_mem _ l)) (t/iF P i);unfold jI;refine⟨by rw[List.length_set];exact h1,λk hk => ?_⟩;have a:¬i=k:=λe=>hk (e▸List.mem_cons_self ..);rw[iy _ _ _ _ a];exact h2 k (λh=>hk (List.mem_cons_of_mem _ h))
theorem FM:∀(r:List Nat),r.Nodup->(∀i∈r,i<P.orders.length)->∀t u,t<kY P r->u<kY P r->jI P r t=jI P r u->t=u
 | [],_,_,t,u,p,hu,_=>by unfold kY at p hu;omega
 | i :: r,m,hr,t,u,p,hu,e=>by
  rw[List.nodup_cons] at m;have a:∀j∈r,j<P.orders.length:=λj w=>hr j (List.mem_cons_of_mem _ w);obtain⟨a1,a2⟩:=Cq G r m.2 a (t/iF P i);obtain⟨b1,b2⟩:=Cq G r m.2 a (u/iF P i);have q:=hr i (List.mem_cons_self ..);unfold jI at e;unfold kY at p hu
  have B:0<iF P i:=by
   rcases Nat.eq_zero_or_pos (iF P i) with h|h
   ·rw[h] at p;omega
   ·exact h
  have y:t%iF P i=u%iF P i:=by
   have:=congrArg (λl=>gt l i) e;rw[iN _ _ _ (by rw[a1];exact q),iN _ _ _ (by rw[b1];exact q)] at this;omega
  have z:jI P r (t/iF P i)=jI P r (u/iF P i):=by
   refine mg (by rw[a1,b1]) (λk hk => ?_);by_cases b:i=k
   ·subst b;rw[a2 _ m.1,b2 _ m.1]
   ·have:=congrArg (λl=>gt l k) e
    rwa [iy _ _ _ _ b,iy _ _ _ _ b] at this
  have A:=FM r m.2 a _ _ (Nat.div_lt_of_lt_mul (by rw[Nat.mul_comm];exact p)) (Nat.div_lt_of_lt_mul (by rw[Nat.mul_comm];exact hu)) z;have t1:=Nat.div_add_mod t (iF P i);have u1:=Nat.div_add_mod u (iF P i);rw[A,y] at t1;omega
omit G in
theorem Cr (U:List (List Int)):iM P (fV P U)=(List.range (kY P (fV P U).reverse)).map (jI P (fV P U).reverse):=by
 have:=uQ P (fV P U).reverse;rwa [List.reverse_reverse] at this
theorem ez.Me:((els G).length:Int)=eW P:=by
 have q:=G.v.kT
 have h1:((els G).map (λx:El G=>(num P x.1).toNat)).Nodup:=by
  rw[List.nodup_iff_pairwise_ne,List.pairwise_map];refine(List.nodup_iff_pairwise_ne.1 (Fv G)).imp (λ{a b} i e=>i (Subtype.ext ?_));have ha:=G.kE a.2;have j:=G.kE b.2;rw[<-ha.2,<-j.2,e]
 have k:=(List.perm_ext_iff_of_nodup h1 (List.nodup_range (n:=(eW P).toNat))).2 (λm=>by
  rw[List.mem_map,List.mem_range];constructor
  ·rintro⟨x,_,rfl⟩;exact(G.kE x.2).1
  ·intro r
   have l:=rz G.v (m:Int) (by omega);refine⟨mh G (fF P (m:Int)),Ci G _,?_⟩;rw[uW G l,tK G.v (m:Int) (by omega) (by omega)];rfl)
 have p:=k.length_eq;rw[List.length_map,List.length_range] at p;omega
theorem ez.Mf {U:List (List Int)}(r:fO P U):L6 (jY G (gP P U)) ((iM P (fV P U)).map (mh G)):=by
 have S:=G.gG r;have K:=xV (G:=G) S
 have z:(fV P U).reverse.Nodup:=by
  rw[List.nodup_iff_pairwise_ne,List.pairwise_reverse];exact(List.nodup_iff_pairwise_ne.1 (List.nodup_range.filter _)).imp (λh=>h.symm)
 have A:∀i∈(fV P U).reverse,i<P.orders.length:=λi B=>(xX.1 (List.mem_reverse.1 B)).1
 have F:∀x∈iM P (fV P U),Zr P U x:=λx hx=>by
  rw[Cr (P:=P) U] at hx;obtain⟨t,_,rfl⟩:=List.mem_map.1 hx;exact uT G t
 have j:∀t∈(iM P (fV P U)).map (mh G),∀u∈(iM P (fV P U)).map (mh G),eqv (jY G (gP P U)) t u->t=u:=by
  intro t C u L w;obtain⟨x,hx,rfl⟩:=List.mem_map.1 C;obtain⟨y,hy,rfl⟩:=List.mem_map.1 L;have H:=F x hx;have I:=F y hy;have w:gP P U (fC P (gj P (mh G x).1) (mh G y).1):=w;rw[uW G H.1,uW G I.1] at w;have k:fD P (gP P U)=U:=r.2.symm;have:=G.Fe S (x:=x) (y:=y) (by rw[k];exact H) (by rw[k];exact I) w;rw[this]
 have l:((iM P (fV P U)).map (mh G)).Nodup:=by
  rw[Cr (P:=P) U,List.map_map,List.nodup_iff_pairwise_ne,List.pairwise_map];refine List.pairwise_lt_range.imp_of_mem (λ{a b} ha M N e => ?_);have D:=congrArg Subtype.val e;simp only[Function.comp] at D;rw[uW G (uT G (U:=U) a).1,uW G (uT G (U:=U) b).1] at D;have:=FM G _ z A a b (List.mem_range.1 ha) (List.mem_range.1 M) D;omega
 refine⟨l,j,?_⟩
 have E:cd (λg=>∃t∈(iM P (fV P U)).map (mh G),eqv (jY G (gP P U)) t g)=((iM P (fV P U)).map (mh G)).length*cd (jY G (gP P U)):=by
  refine Cj K l ?_ j (λx hx=>hx);intro t C n O;refine⟨t,C,?_⟩;show jY G (gP P U) (t⁻¹ * (t*n))
  rw[El.Ag];exact O
 have m:((iM P (fV P U)).map (mh G)).length=kY P (fV P U).reverse:=by
  rw[Cr (P:=P) U,List.length_map,List.length_map,List.length_range]
 have J:=tJ (G:=G) S;rw[<-r.2] at J;have B:=Go.Proofs.YtoakmefajbbggaaGreat.Cm G r;have p:((els G).length:Int)=eW P:=G.Me;intro g
 have q:(pg (λg=>∃t∈(iM P (fV P U)).map (mh G),eqv (jY G (gP P U)) t g)).length=(els G).length:=by
  have h1:((pg (λg=>∃t∈(iM P (fV P U)).map (mh G),eqv (jY G (gP P U)) t g)).length:Int)=((els G).length:Int):=by
   show((cd _:Nat):Int)=_
   rw[p,B,E,m,Int.natCast_mul,J,Int.mul_comm]
  omega
 have:=(List.length_filter_eq_length_iff.1 q) g (Ci G g);simpa using this
end
end Go.Proofs.YtoakmefajbbggaaGreat
