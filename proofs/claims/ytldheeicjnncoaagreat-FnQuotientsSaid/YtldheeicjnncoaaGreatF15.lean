/- Merged from templates. -/
import Derived.Test.YtldheeicjnncoaaGreatF14
set_option maxRecDepth 100000
set_option maxHeartbeats 8000000
namespace Go.Proofs.YtldheeicjnncoaaGreat
open Go.RowKit
set_option linter.unusedSimpArgs false in
theorem l15Quo_ok (P:Pr) (hr:rconsB P=true) (w:World) (pv uv:Value) (U:List (List Int)) (Sp Su:Nat->Prop) (cw:PresV Sp w pv P) (hu:Rows2 Su w uv U) (hU:SubB P U) :
  Calls Tryz.prog 151 #[pv,uv] w (Ret w (PresR w.heap.size (quoP P U))):=by
 have G:=grp_of_r hr;have cy:=G.v.n6;have cz:=frI_le6 cy U;obtain⟨vo,vp,vc,rfl,h3⟩:=cw;have bJ:=(PresP.box h3 28).ext (World.grownBy_alloc _ (.cells #[.slice none 0 0,.slice none 0 0,.slice none 0 0] 28) none);have aN:Ext w ((w.alloc (.cells #[vo,vp,vc] 28)).alloc (.cells #[.slice none 0 0,.slice none 0 0,.slice none 0 0] 28)):=grown_trans (World.grownBy_alloc _ _ _) (World.grownBy_alloc _ _ _);have hR:=Box3.made (w.alloc (.cells #[vo,vp,vc] 28)) 28 (.slice none 0 0) (.slice none 0 0) (.slice none 0 0);have bK:(w.alloc (.cells #[vo,vp,vc] 28)).heap.size=w.heap.size+1:=by simp
 have dh:((w.alloc (.cells #[vo,vp,vc] 28)).alloc (.cells #[.slice none 0 0,.slice none 0 0,.slice none 0 0] 28)).heap.size=w.heap.size+2:=by simp
 rw[bK] at hR;obtain⟨au,bL,rfl,_,_⟩:=Sl.shape hu;obtain⟨dj,eo,dQ,_,_,hc0,bd,be,aO⟩:=bJ.at;simp only[Nat.zero_add] at bd be;obtain⟨ao,co,ez,_,_⟩:=aO.o.shape;subst ez;have bM:∀w',Ext ((w.alloc (.cells #[vo,vp,vc] 28)).alloc (.cells #[.slice none 0 0,.slice none 0 0,.slice none 0 0] 28)) w'->w'.cell? ⟨w.heap.size,0,none⟩=some (.slice ao P.orders.length co)/\w'.cell? ⟨w.heap.size,1,none⟩=some eo/\w'.cell? ⟨w.heap.size,2,none⟩=some dQ:=λw' h=>⟨h.cell hc0 (by simp),h.cell bd (by simp),h.cell be (by simp)⟩;have bN:∀w',Ext ((w.alloc (.cells #[vo,vp,vc] 28)).alloc (.cells #[.slice none 0 0,.slice none 0 0,.slice none 0 0] 28)) w'->PresV Any w' (.agg #[.slice ao P.orders.length co,eo,dQ]) P:=λw' h=>⟨_,_,_,rfl,Pres3.ext aO h⟩;have bO:∀w',Ext ((w.alloc (.cells #[vo,vp,vc] 28)).alloc (.cells #[.slice none 0 0,.slice none 0 0,.slice none 0 0] 28)) w'->Rows2 Su w' (.slice au U.length bL) U:=λw' h=>Rows2.ext hu (grown_trans aN h);obtain⟨m,hm⟩:∃m,m=(frI P U).length:=⟨_,rfl⟩;rw[<-hm] at cz;have E:=Lib.hid (And.intro bM (And.intro bN (And.intro bO (And.intro hU (And.intro hm aO.o)))));clear bM bN bO hm bJ hu aO bK h3;have bQ:=Lib.hid hR;clear hR hU;go_enter Tryz.func151,Tryz.ntmps151;go_wp2_with fail
 clear hc0 bd be;generalize ((w.alloc (.cells #[vo,vp,vc] 28)).alloc (.cells #[.slice none 0 0,.slice none 0 0,.slice none 0 0] 28))=w0 at *;refine Calls.mono (l14Free_ok P G w0 _ _ U Any Su (E.out.2.1 w0 (Ext.refl _)) (E.out.2.2.1 w0 (Ext.refl _)) E.out.2.2.2.1) ?_;rintro e3 u ⟨fv,rfl,hg3,lI⟩;have bf:Ints Any u fv (natI (frI P U)):=ints_of_own lI (by rw[natI_len,<-E.out.2.2.2.2.1];omega) (λ_ _=>trivial);obtain⟨fa,fc,jy,_,_⟩:=bf.shape;rw[natI_len,<-E.out.2.2.2.2.1] at jy;subst jy;have dl:=hg3.size;have bR:=bQ.out.ext hg3;have bS:=Box3.made u 28 (.slice none 0 0) (.slice none 0 0) (.slice none 0 0);have aa:Ext u (u.alloc (.cells #[.slice none 0 0,.slice none 0 0,.slice none 0 0] 28)):=World.grownBy_alloc _ _ _;have az:OutP (λ_=>False) u.heap.size u.heap.size (u.alloc (.cells #[.slice none 0 0,.slice none 0 0,.slice none 0 0] 28)) (.slice none 0 0) (.slice none 0 0) (.slice none 0 0) ⟨(quoP P U).orders.take 0,[],[]⟩:=OutP.start aa.size bS;have HF:=Lib.hid (And.intro bf (And.intro bR az));clear bf lI bR bS az bQ;have z:=hg3;go_wp2;clear hg3;go_loopw [8] (λkv wr=>∃(k:Nat) (a1:Option Addr) (n1 c1:Nat),kv=.int .i64 (k:Int)/\k<=m/\Ext u wr/\OutP (λ_=>False) u.heap.size u.heap.size wr (.slice a1 n1 c1) (.slice none 0 0) (.slice none 0 0) ⟨(quoP P U).orders.take k,[],[]⟩) (λkv _=>m-(intOf kv).toNat)
 case atStart=>exact⟨0,_,_,_,rfl,by omega,aa,HF.out.2.2⟩
 case round=>
  obtain⟨k,a1,n1,c1,rfl,hk,hg,A⟩:=hrel;obtain⟨wo,rfl⟩:∃wo:World,wo=wr:=⟨_,rfl⟩;have cE:=grown_trans z hg;by_cases H:k<m
  ·have bT:(k:Int)<m:=by omega
   have I:k<(frI P U).length:=by rw[<-E.out.2.2.2.2.1];exact H
   obtain⟨bi,oi,hai,_,_,ab⟩:=Ints.at HF.out.1 k (by rw[natI_len];exact I);subst hai;have ae:gt (natI (frI P U)) k=((gt (frI P U) k:Nat):Int):=gt_map _ _ _ I;rw[ae] at ab;obtain⟨q1,-,-⟩:=quo_at (P:=P) (U:=U) I;have ak:=(fr_at I).1;obtain⟨i,hi⟩:∃i,i=gt (frI P U) k:=⟨_,rfl⟩;rw[<-hi] at ab q1 ak;obtain⟨bo,oo,hao,_,_,J⟩:=Ints.at (E.out.2.2.2.2.2.ext z) i ak;subst hao;have bV:(i:Int)<P.orders.length:=by omega
   obtain⟨c,hc⟩:∃c,c=gt P.orders i:=⟨_,rfl⟩;rw[<-hc] at J q1;have bX:((quoP P U).orders.take k).length<=1000:=by rw[List.length_take];omega
   have e0:∀w',Ext u w'->w'.cell? ⟨w.heap.size,0,none⟩=some (.slice (some ⟨bo,oo,none⟩) P.orders.length co):=λw' h=>(E.out.1 w' (grown_trans z h)).1;have e1:∀w',Ext u w'->w'.cell? ⟨bi,oi+k,none⟩=some (.int .i64 (i:Int)):=λw' h=>h.cell ab (by simp);have e2:∀w',Ext u w'->w'.cell? ⟨bo,oo+i,none⟩=some (.int .i64 c):=λw' h=>h.cell J (by simp);have aE:=A.ext (grown_drew wo none);obtain⟨Fo,Fp,Fc,af,o1,o2,o3⟩:=aE.parts;have r:Ext u wo.drew/\wo.drew.cell? ⟨u.heap.size,0,none⟩=some (.slice a1 n1 c1):=⟨grown_trans hg (grown_drew _ _),aE.box.2.1⟩;have bZ:Ext u (wo.drew.alloc (.cells #[.int .i64 c] 2))/\(wo.drew.alloc (.cells #[.int .i64 c] 2)).cell? ⟨u.heap.size,0,none⟩=some (.slice a1 n1 c1):=⟨grown_trans r.1 (World.grownBy_alloc _ _ _),(aE.box.ext (World.grownBy_alloc _ _ _)).2.1⟩;have HO:=Lib.hid (And.intro aE (And.intro af (And.intro o1 (And.intro q1 (And.intro bX hg)))));clear A aE af o1 o2 o3 q1 bX ab J I hi hc ae;go_wp2;refine wp_region_X (λw'=>Ext u w'/\w'.cell? ⟨u.heap.size,0,none⟩=some (.slice a1 n1 c1)) 13 (by kernel_rfl) ?_;refine wpAnyX_take [1,11,13] (i:=0) (v := ?_) rfl (by kernel_rfl) (by kernel_rfl) (by kernel_rfl) (by kernel_rfl) (λ_ _ _ h=>h) (Or.inl ⟨by rfl,λw' q => ?_⟩) r ?_;rotate_left
   ·obtain ⟨q,eH⟩:=q
    simp only[List.getElem_toArray,List.getElem_cons_zero,List.getElem_cons_succ];go_simp;try with_reducible rfl
   try simp only[List.getElem_toArray,List.getElem_cons_zero,List.getElem_cons_succ,Act.put,List.setIfInBounds_toArray,List.set_cons_zero,List.set_cons_succ]
   refine wpAnyX_take [11,13] (i:=1) (v := ?_) rfl (by kernel_rfl) (by kernel_rfl) (by kernel_rfl) (by kernel_rfl) (λ_ _ _ h=>h) (Or.inl ⟨by rfl,λw' q => ?_⟩) r ?_;rotate_left
   ·obtain ⟨q,eH⟩:=q
    simp only[List.getElem_toArray,List.getElem_cons_zero,List.getElem_cons_succ];go_simp;try with_reducible rfl
   try simp only[List.getElem_toArray,List.getElem_cons_zero,List.getElem_cons_succ,Act.put,List.setIfInBounds_toArray,List.set_cons_zero,List.set_cons_succ]
   refine wpAnyX_take [3,8,9,10,11,13] (i:=2) (v := ?_) rfl (by kernel_rfl) (by kernel_rfl) (by kernel_rfl) (by kernel_rfl) (λ_ _ _ h=>h) (Or.inl ⟨by rfl,λw' q => ?_⟩) r ?_;rotate_left
   ·obtain ⟨q,eH⟩:=q
    simp only[List.getElem_toArray,List.getElem_cons_zero,List.getElem_cons_succ];go_simp;try with_reducible rfl
   try simp only[List.getElem_toArray,List.getElem_cons_zero,List.getElem_cons_succ,Act.put,List.setIfInBounds_toArray,List.set_cons_zero,List.set_cons_succ]
   refine wpAnyX_take [8,9,10,11,13] (i:=3) (v := ?_) rfl (by kernel_rfl) (by kernel_rfl) (by kernel_rfl) (by kernel_rfl) (λ_ _ _ h=>h) (Or.inl ⟨by rfl,λw' q => ?_⟩) r ?_;rotate_left
   ·obtain ⟨q,eH⟩:=q
    simp only[List.getElem_toArray,List.getElem_cons_zero,List.getElem_cons_succ];go_simp;try with_reducible rfl
   try simp only[List.getElem_toArray,List.getElem_cons_zero,List.getElem_cons_succ,Act.put,List.setIfInBounds_toArray,List.set_cons_zero,List.set_cons_succ]
   refine wpAnyX_take [6,7,8,9,10,11,13] (i:=4) (v := ?_) rfl (by kernel_rfl) (by kernel_rfl) (by kernel_rfl) (by kernel_rfl) (λ_ _ _ h=>h) (Or.inl ⟨by rfl,λw' q => ?_⟩) r ?_;rotate_left
   ·obtain ⟨q,eH⟩:=q
    simp only[List.getElem_toArray,List.getElem_cons_zero,List.getElem_cons_succ];go_simp;try with_reducible rfl
   try simp only[List.getElem_toArray,List.getElem_cons_zero,List.getElem_cons_succ,Act.put,List.setIfInBounds_toArray,List.set_cons_zero,List.set_cons_succ]
   refine wpAnyX_take [6,7,8,9,10,11,13] (i:=5) (v := ?_) rfl (by kernel_rfl) (by kernel_rfl) (by kernel_rfl) (by kernel_rfl) (λ_ _ _ h=>h) (Or.inl ⟨by rfl,λw' q => ?_⟩) r ?_;rotate_left
   ·obtain ⟨q,eH⟩:=q
    simp only[List.getElem_toArray,List.getElem_cons_zero,List.getElem_cons_succ];go_simp;try with_reducible rfl
   try simp only[List.getElem_toArray,List.getElem_cons_zero,List.getElem_cons_succ,Act.put,List.setIfInBounds_toArray,List.set_cons_zero,List.set_cons_succ]
   refine wpAnyX_take [7,8,9,10,11,13] (i:=6) (v := ?_) rfl (by kernel_rfl) (by kernel_rfl) (by kernel_rfl) (by kernel_rfl) (λ_ _ _ h=>h) (Or.inl ⟨by rfl,λw' q => ?_⟩) r ?_;rotate_left
   ·obtain ⟨q,eH⟩:=q
    simp only[List.getElem_toArray,List.getElem_cons_zero,List.getElem_cons_succ];go_simp;try with_reducible rfl
   try simp only[List.getElem_toArray,List.getElem_cons_zero,List.getElem_cons_succ,Act.put,List.setIfInBounds_toArray,List.set_cons_zero,List.set_cons_succ]
   refine wpAnyX_take [8,9,10,11,13] (i:=7) (v := ?_) rfl (by kernel_rfl) (by kernel_rfl) (by kernel_rfl) (by kernel_rfl) (λ_ _ _ h=>h) (Or.inl ⟨by rfl,λw' q => ?_⟩) r ?_;rotate_left
   ·obtain ⟨q,eH⟩:=q
    simp only[List.getElem_toArray,List.getElem_cons_zero,List.getElem_cons_succ];go_simp;try with_reducible rfl
   try simp only[List.getElem_toArray,List.getElem_cons_zero,List.getElem_cons_succ,Act.put,List.setIfInBounds_toArray,List.set_cons_zero,List.set_cons_succ]
   refine wpAnyX_take [9,10,11,13] (i:=8) (v := ?_) rfl (by kernel_rfl) (by kernel_rfl) (by kernel_rfl) (by kernel_rfl) (λ_ _ _ h=>h) (Or.inl ⟨by rfl,λw' q => ?_⟩) r ?_;rotate_left
   ·obtain ⟨q,eH⟩:=q
    simp only[List.getElem_toArray,List.getElem_cons_zero,List.getElem_cons_succ];go_simp;try with_reducible rfl
   try simp only[List.getElem_toArray,List.getElem_cons_zero,List.getElem_cons_succ,Act.put,List.setIfInBounds_toArray,List.set_cons_zero,List.set_cons_succ]
   refine wpAnyX_take [10,11,13] (i:=9) (v := ?_) rfl (by kernel_rfl) (by kernel_rfl) (by kernel_rfl) (by kernel_rfl) (λ_ _ _ h=>h) (Or.inl ⟨by rfl,λw' q => ?_⟩) r ?_;rotate_left
   ·obtain ⟨q,eH⟩:=q
    simp only[List.getElem_toArray,List.getElem_cons_zero,List.getElem_cons_succ];go_simp;try with_reducible rfl
   try simp only[List.getElem_toArray,List.getElem_cons_zero,List.getElem_cons_succ,Act.put,List.setIfInBounds_toArray,List.set_cons_zero,List.set_cons_succ]
   refine wpAnyX_step (i:=10) rfl (by kernel_rfl) rfl (λK L => ?_);simp only[List.getElem_toArray,List.getElem_cons_zero,List.getElem_cons_succ];go_simp;refine L.out _ _ bZ ?_;clear L K;try simp only[List.getElem_toArray,List.getElem_cons_zero,List.getElem_cons_succ,Act.put,List.setIfInBounds_toArray,List.set_cons_zero,List.set_cons_succ]
   refine wpAnyX_step (i:=11) rfl (by kernel_rfl) rfl (λK L => ?_);simp only[List.getElem_toArray,List.getElem_cons_zero,List.getElem_cons_succ];refine step_app_intb (a:=⟨_,[]⟩) rfl _ _ (by rfl) 0 (.slice a1 n1 c1) ((quoP P U).orders.take k) c (by rfl) wo.drew HO.out.2.1.o.1 (by rfl) (by rfl) (by have:=HO.out.2.2.2.2.1;omega) (Nat.zero_le _) ?_;intro v8 w8 M D cH;obtain⟨g8,m8,k8,gj⟩:∃a n c,v8=Value.slice a n c:=by obtain⟨a,c,e,_⟩:=(M.ints (by rw[List.length_append,List.length_singleton];have:=HO.out.2.2.2.2.1;omega)).shape;exact⟨_,_,_,e⟩
   subst gj;have Q:=HO.out.1.boxed HO.out.2.2.1 D;have S:Ext u w8:=grown_own r.1 D (λj hj H=>by have:=(HO.out.2.2.1 j hj).1;omega);refine L.out _ _ ⟨S,Q.2.1⟩ ?_;clear L K;try simp only[List.getElem_toArray,List.getElem_cons_zero,List.getElem_cons_succ,Act.put,List.setIfInBounds_toArray,List.set_cons_zero,List.set_cons_succ]
   refine wpAnyX_take [13] (i:=12) (v := ?_) rfl (by kernel_rfl) (by kernel_rfl) (by kernel_rfl) (by kernel_rfl) (λ_ _ _ h=>h) (Or.inl ⟨by rfl,λw' q => ?_⟩) ⟨S,Q.2.1⟩ ?_;rotate_left
   ·obtain ⟨q,eH⟩:=q
    simp only[List.getElem_toArray,List.getElem_cons_zero,List.getElem_cons_succ];go_simp;try with_reducible rfl
   try simp only[List.getElem_toArray,List.getElem_cons_zero,List.getElem_cons_succ,Act.put,List.setIfInBounds_toArray,List.set_cons_zero,List.set_cons_succ]
   refine wpAnyX_last (n:=13) rfl (by kernel_rfl) rfl (λK L => ?_);simp only[List.getElem_toArray,List.getElem_cons_zero,List.getElem_cons_succ];obtain⟨f80,f81,f82,f83,f84⟩:=id Q;go_simp;refine L.out _ _ ?_;clear L K;refine wpAnyX_done (by kernel_rfl) ?_ _;try simp only[List.getElem_toArray,List.getElem_cons_zero,List.getElem_cons_succ,Act.put,List.setIfInBounds_toArray,List.set_cons_zero,List.set_cons_succ]
   clear e0 e1 e2 r bZ;have y:=HO.out.1.putO M D cH HO.out.2.2.2.2.1;have av:Ext u (w8.setCell ⟨u.heap.size,0,none⟩ (.slice g8 m8 k8)):=grown_own S (grown_set1 _ _ _ _) (λj hj H=>by have:=Option.some.inj hj;omega);rw[<-HO.out.2.2.2.1] at y;go_wp2;go_roundw
   case rel=>exact⟨k+1,_,_,_,by go_num,by omega,av,y⟩
   case measure=>simp[intOf];omega
  ·have bj:k=m:=by omega
   have b0:(quoP P U).orders.take k=(quoP P U).orders:=List.take_of_length_le (by rw[quo_n,bj,E.out.2.2.2.2.1];exact Nat.le_refl _);rw[b0] at A;have aF:OutP (λ_=>False) u.heap.size u.heap.size wo (.slice a1 n1 c1) (.slice none 0 0) (.slice none 0 0) ⟨(quoP P U).orders,(quoP P U).powers.take 0,(quoP P U).conj.take 0⟩:=A;have b1:=Lib.hid (And.intro aF hg);clear aF A b0 hg cE;obtain⟨w5,rfl⟩:∃w5:World,w5=wo:=⟨_,rfl⟩;have cI:¬(k:Int)<(m:Int):=by omega
   go_wp2;clear H cI hk bj;go_loopw [9] (λkv wr=>∃(k:Nat) (a2:Option Addr) (n2 c2:Nat) (a3:Option Addr) (n3 c3:Nat),kv=.int .i64 (k:Int)/\k<=m/\Ext u wr/\OutP (λ_=>False) u.heap.size u.heap.size wr (.slice a1 n1 c1) (.slice a2 n2 c2) (.slice a3 n3 c3) ⟨(quoP P U).orders,(quoP P U).powers.take k,(quoP P U).conj.take k⟩) (λkv _=>m-(intOf kv).toNat)
   case atStart=>exact⟨0,_,_,_,_,_,_,rfl,by omega,b1.out.2,b1.out.1⟩
   case round=>
    obtain⟨k,a2,n2,c2,a3,n3,c3,rfl,hk,hg,A⟩:=hrel;obtain⟨wo,rfl⟩:∃wo:World,wo=wr:=⟨_,rfl⟩;by_cases H:k<m
    ·have bT:(k:Int)<m:=by omega
     have I:k<(frI P U).length:=by rw[<-E.out.2.2.2.2.1];exact H
     obtain⟨bi,oi,hai,_,_,ab⟩:=Ints.at HF.out.1 k (by rw[natI_len];exact I);subst hai;have ae:gt (natI (frI P U)) k=((gt (frI P U) k:Nat):Int):=gt_map _ _ _ I;rw[ae] at ab;obtain⟨q1,q2,q3⟩:=quo_at (P:=P) (U:=U) I;clear q1;have ak:=(fr_at I).1;obtain⟨i,hi⟩:∃i,i=gt (frI P U) k:=⟨_,rfl⟩;rw[<-hi] at ab q2 q3 ak;obtain⟨bo,oo,hao,_,_,J⟩:=Ints.at (E.out.2.2.2.2.2.ext z) i ak;subst hao;have bV:(i:Int)<P.orders.length:=by omega
     have cK:=G.v.ord7 i ak;obtain⟨c,hc⟩:∃c,c=gt P.orders i:=⟨_,rfl⟩;rw[<-hc] at J q2 cK;have e0:∀w',Ext u w'->w'.cell? ⟨w.heap.size,0,none⟩=some (.slice (some ⟨bo,oo,none⟩) P.orders.length co):=λw' h=>(E.out.1 w' (grown_trans z h)).1;have e1:∀w',Ext u w'->w'.cell? ⟨bi,oi+k,none⟩=some (.int .i64 (i:Int)):=λw' h=>h.cell ab (by simp);have e2:∀w',Ext u w'->w'.cell? ⟨bo,oo+i,none⟩=some (.int .i64 c):=λw' h=>h.cell J (by simp);have e4:∀w',Ext u w'->w'.cell? ⟨w.heap.size,1,none⟩=some eo:=λw' h=>(E.out.1 w' (grown_trans z h)).2.1;have e5:∀w',Ext u w'->w'.cell? ⟨w.heap.size,2,none⟩=some dQ:=λw' h=>(E.out.1 w' (grown_trans z h)).2.2;have bm:Vec P.orders (unitV P.orders.length i):=unitV_vec G.v i;obtain⟨X,hX⟩:∃X,X=pw P (unitV P.orders.length i) c.toNat:=⟨_,rfl⟩;have b2:Vec P.orders X:=by rw[hX];exact G.pw_vec bm _
     have b3:pwZ P (unitV P.orders.length i) c=X:=by rw[hX];exact pwZ_nat P _ c (by omega)
     obtain⟨R,hR⟩:∃R,R=prjV P U X:=⟨_,rfl⟩;have ds:R.length<=6:=by rw[hR];unfold prjV;rw[List.length_map,<-E.out.2.2.2.2.1];omega
     have aW:(quoP P U).powers.take (k+1)=(quoP P U).powers.take k++[R]:=by rw[q2,hR,hX]
     have aY:((quoP P U).powers.take k).length<=1000000:=by rw[List.length_take];omega
     have HS:=Lib.hid (And.intro bm (And.intro b2 (And.intro b3 (And.intro hR (And.intro aW (And.intro aY (And.intro q3 I)))))));clear bm b2 b3 hR aW aY q2 q3 I hX hc hi ab J ae;have dt:(-1000000000:Int)<=c/\c<=1000000000:=by omega
     have cL:=e1 wo hg;go_wp2_with fail
     clear cL;refine Calls.mono (l07Unit_ok P.orders.length i wo ak (by omega)) ?_;rintro du w4 ⟨gv,rfl,bn,W⟩;obtain⟨ag,ng,cg,hgv⟩:∃a n c,gv=.slice a n c:=by obtain⟨a,c,e,_⟩:=(W.ints (by rw[HS.out.1.1];omega)).shape;exact⟨_,_,_,e⟩
     subst hgv;have aa:Ext u w4:=grown_trans hg bn;have am:Ext w0 w4:=grown_trans z aa;have ac:=A.away (G':=λb=>(Value.slice ag ng cg).ownBlock=some b) bn (λb Z=>(W.lt b Z).2) (λb Z => .inr (W.lt b Z).1);have b4:Ints (λb=>(Value.slice ag ng cg).ownBlock=some b) w4 (.slice ag ng cg) (unitV P.orders.length i):=ints_of_own W (by rw[HS.out.1.1];omega) (λb Z=>Z);obtain⟨Fo,Fp,Fc,af,o1,o2,o3⟩:=ac.parts;have b5:∀b,(Value.slice ag ng cg).ownBlock=some b->u.heap.size<b:=λb Z=>by have:=(W.lt b Z).1;have:=hg.size;have:=A.box.1;omega
     have r:Ext u w4.drew/\w4.drew.cell? ⟨u.heap.size,1,none⟩=some (.slice a2 n2 c2):=⟨grown_trans aa (grown_drew _ _),ac.box.2.2.1⟩;have H4:=Lib.hid (And.intro ac (And.intro af (And.intro b4 (And.intro b5 (And.intro o2 o3)))));clear ac af b4 b5 o1 o2 o3 A W bn;go_wp2;refine wp_region_X (λw'=>Ext u w'/\w'.cell? ⟨u.heap.size,1,none⟩=some (.slice a2 n2 c2)) 19 (by kernel_rfl) ?_;refine wpAnyX_take [1,17,19] (i:=0) (v := ?_) rfl (by kernel_rfl) (by kernel_rfl) (by kernel_rfl) (by kernel_rfl) (λ_ _ _ h=>h) (Or.inl ⟨by rfl,λw' q => ?_⟩) r ?_;rotate_left
     ·obtain ⟨q,eH⟩:=q
      simp only[List.getElem_toArray,List.getElem_cons_zero,List.getElem_cons_succ];go_simp;try with_reducible rfl
     try simp only[List.getElem_toArray,List.getElem_cons_zero,List.getElem_cons_succ,Act.put,List.setIfInBounds_toArray,List.set_cons_zero,List.set_cons_succ]
     refine wpAnyX_take [17,19] (i:=1) (v := ?_) rfl (by kernel_rfl) (by kernel_rfl) (by kernel_rfl) (by kernel_rfl) (λ_ _ _ h=>h) (Or.inl ⟨by rfl,λw' q => ?_⟩) r ?_;rotate_left
     ·obtain ⟨q,eH⟩:=q
      simp only[List.getElem_toArray,List.getElem_cons_zero,List.getElem_cons_succ];go_simp;try with_reducible rfl
     try simp only[List.getElem_toArray,List.getElem_cons_zero,List.getElem_cons_succ,Act.put,List.setIfInBounds_toArray,List.set_cons_zero,List.set_cons_succ]
     refine wpAnyX_take [15,16,17,19] (i:=2) (v := ?_) rfl (by kernel_rfl) (by kernel_rfl) (by kernel_rfl) (by kernel_rfl) (λ_ _ _ h=>h) (Or.inl ⟨by rfl,λw' q => ?_⟩) r ?_;rotate_left
     ·obtain ⟨q,eH⟩:=q
      simp only[List.getElem_toArray,List.getElem_cons_zero,List.getElem_cons_succ];go_simp;try with_reducible rfl
     try simp only[List.getElem_toArray,List.getElem_cons_zero,List.getElem_cons_succ,Act.put,List.setIfInBounds_toArray,List.set_cons_zero,List.set_cons_succ]
     refine wpAnyX_take [15,16,17,19] (i:=3) (v := ?_) rfl (by kernel_rfl) (by kernel_rfl) (by kernel_rfl) (by kernel_rfl) (λ_ _ _ h=>h) (Or.inl ⟨by rfl,λw' q => ?_⟩) r ?_;rotate_left
     ·obtain ⟨q,eH⟩:=q
      simp only[List.getElem_toArray,List.getElem_cons_zero,List.getElem_cons_succ];go_simp;try with_reducible rfl
     try simp only[List.getElem_toArray,List.getElem_cons_zero,List.getElem_cons_succ,Act.put,List.setIfInBounds_toArray,List.set_cons_zero,List.set_cons_succ]
     refine wpAnyX_take [14,15,16,17,19] (i:=4) (v := ?_) rfl (by kernel_rfl) (by kernel_rfl) (by kernel_rfl) (by kernel_rfl) (λ_ _ _ h=>h) (Or.inl ⟨by rfl,λw' q => ?_⟩) r ?_;rotate_left
     ·obtain ⟨q,eH⟩:=q
      simp only[List.getElem_toArray,List.getElem_cons_zero,List.getElem_cons_succ];go_simp;try with_reducible rfl
     try simp only[List.getElem_toArray,List.getElem_cons_zero,List.getElem_cons_succ,Act.put,List.setIfInBounds_toArray,List.set_cons_zero,List.set_cons_succ]
     refine wpAnyX_take [14,15,16,17,19] (i:=5) (v := ?_) rfl (by kernel_rfl) (by kernel_rfl) (by kernel_rfl) (by kernel_rfl) (λ_ _ _ h=>h) (Or.inl ⟨by rfl,λw' q => ?_⟩) r ?_;rotate_left
     ·obtain ⟨q,eH⟩:=q
      simp only[List.getElem_toArray,List.getElem_cons_zero,List.getElem_cons_succ];go_simp;try with_reducible rfl
     try simp only[List.getElem_toArray,List.getElem_cons_zero,List.getElem_cons_succ,Act.put,List.setIfInBounds_toArray,List.set_cons_zero,List.set_cons_succ]
     refine wpAnyX_take [7,12,13,14,15,16,17,19] (i:=6) (v := ?_) rfl (by kernel_rfl) (by kernel_rfl) (by kernel_rfl) (by kernel_rfl) (λ_ _ _ h=>h) (Or.inl ⟨by rfl,λw' q => ?_⟩) r ?_;rotate_left
     ·obtain ⟨q,eH⟩:=q
      simp only[List.getElem_toArray,List.getElem_cons_zero,List.getElem_cons_succ];go_simp;try with_reducible rfl
     try simp only[List.getElem_toArray,List.getElem_cons_zero,List.getElem_cons_succ,Act.put,List.setIfInBounds_toArray,List.set_cons_zero,List.set_cons_succ]
     refine wpAnyX_take [12,13,14,15,16,17,19] (i:=7) (v := ?_) rfl (by kernel_rfl) (by kernel_rfl) (by kernel_rfl) (by kernel_rfl) (λ_ _ _ h=>h) (Or.inl ⟨by rfl,λw' q => ?_⟩) r ?_;rotate_left
     ·obtain ⟨q,eH⟩:=q
      simp only[List.getElem_toArray,List.getElem_cons_zero,List.getElem_cons_succ];go_simp;try with_reducible rfl
     try simp only[List.getElem_toArray,List.getElem_cons_zero,List.getElem_cons_succ,Act.put,List.setIfInBounds_toArray,List.set_cons_zero,List.set_cons_succ]
     refine wpAnyX_take [10,11,12,13,14,15,16,17,19] (i:=8) (v := ?_) rfl (by kernel_rfl) (by kernel_rfl) (by kernel_rfl) (by kernel_rfl) (λ_ _ _ h=>h) (Or.inl ⟨by rfl,λw' q => ?_⟩) r ?_;rotate_left
     ·obtain ⟨q,eH⟩:=q
      simp only[List.getElem_toArray,List.getElem_cons_zero,List.getElem_cons_succ];go_simp;try with_reducible rfl
     try simp only[List.getElem_toArray,List.getElem_cons_zero,List.getElem_cons_succ,Act.put,List.setIfInBounds_toArray,List.set_cons_zero,List.set_cons_succ]
     refine wpAnyX_take [10,11,12,13,14,15,16,17,19] (i:=9) (v := ?_) rfl (by kernel_rfl) (by kernel_rfl) (by kernel_rfl) (by kernel_rfl) (λ_ _ _ h=>h) (Or.inl ⟨by rfl,λw' q => ?_⟩) r ?_;rotate_left
     ·obtain ⟨q,eH⟩:=q
      simp only[List.getElem_toArray,List.getElem_cons_zero,List.getElem_cons_succ];go_simp;try with_reducible rfl
     try simp only[List.getElem_toArray,List.getElem_cons_zero,List.getElem_cons_succ,Act.put,List.setIfInBounds_toArray,List.set_cons_zero,List.set_cons_succ]
     refine wpAnyX_take [11,12,13,14,15,16,17,19] (i:=10) (v := ?_) rfl (by kernel_rfl) (by kernel_rfl) (by kernel_rfl) (by kernel_rfl) (λ_ _ _ h=>h) (Or.inl ⟨by rfl,λw' q => ?_⟩) r ?_;rotate_left
     ·obtain ⟨q,eH⟩:=q
      simp only[List.getElem_toArray,List.getElem_cons_zero,List.getElem_cons_succ];go_simp;try with_reducible rfl
     try simp only[List.getElem_toArray,List.getElem_cons_zero,List.getElem_cons_succ,Act.put,List.setIfInBounds_toArray,List.set_cons_zero,List.set_cons_succ]
     refine wpAnyX_take [12,13,14,15,16,17,19] (i:=11) (v := ?_) rfl (by kernel_rfl) (by kernel_rfl) (by kernel_rfl) (by kernel_rfl) (λ_ _ _ h=>h) (Or.inl ⟨by rfl,λw' q => ?_⟩) r ?_;rotate_left
     ·obtain ⟨q,eH⟩:=q
      simp only[List.getElem_toArray,List.getElem_cons_zero,List.getElem_cons_succ];go_simp;try with_reducible rfl
     try simp only[List.getElem_toArray,List.getElem_cons_zero,List.getElem_cons_succ,Act.put,List.setIfInBounds_toArray,List.set_cons_zero,List.set_cons_succ]
     refine wpAnyX_take [13,14,15,16,17,19] (i:=12) (v := ?_) rfl (by kernel_rfl) (by kernel_rfl) (by kernel_rfl) (by kernel_rfl) (λ_ _ _ h=>h) (Or.inl ⟨by rfl,λw' q => ?_⟩) r ?_;rotate_left
     ·obtain ⟨q,eH⟩:=q
      simp only[List.getElem_toArray,List.getElem_cons_zero,List.getElem_cons_succ];go_simp;try with_reducible rfl
     try simp only[List.getElem_toArray,List.getElem_cons_zero,List.getElem_cons_succ,Act.put,List.setIfInBounds_toArray,List.set_cons_zero,List.set_cons_succ]
     refine wpAnyX_take [14,15,16,17,19] (i:=13) (v := ?_) rfl (by kernel_rfl) (by kernel_rfl) (by kernel_rfl) (by kernel_rfl) (λ_ _ _ h=>h) (Or.inl ⟨by rfl,λw' q => ?_⟩) r ?_;rotate_left
     ·obtain ⟨q,eH⟩:=q
      simp only[List.getElem_toArray,List.getElem_cons_zero,List.getElem_cons_succ];go_simp;try with_reducible rfl
     try simp only[List.getElem_toArray,List.getElem_cons_zero,List.getElem_cons_succ,Act.put,List.setIfInBounds_toArray,List.set_cons_zero,List.set_cons_succ]
     refine wpAnyX_step (i:=14) rfl (by kernel_rfl) rfl (λK L => ?_);simp only[List.getElem_toArray,List.getElem_cons_zero,List.getElem_cons_succ];rw[if_pos (by rfl)];go_simp;go_at_call 241;refine Calls.mono (l10Pow_ok P G w4.drew _ _ (unitV P.orders.length i) c Any _ (E.out.2.1 _ (grown_trans am (grown_drew _ _))) (Ints.ext H4.out.2.2.1 (grown_drew _ _)) HS.out.1 (by omega)) ?_;rintro eX wX ⟨vX,rfl,b6,bp⟩;rw[HS.out.2.2.1] at bp;have bq:=bp.ints (by rw[HS.out.2.1.1];omega);obtain⟨aX,capX,j9,_,_⟩:=bq.shape;subst j9;have O:Ext w4 wX:=grown_trans (grown_drew _ _) b6;have b7:Ext u wX/\wX.cell? ⟨u.heap.size,1,none⟩=some (.slice a2 n2 c2):=⟨grown_trans aa O,(H4.out.1.box.ext O).2.2.1⟩;try dsimp only
     refine L.out _ _ b7 ?_;clear L K;try simp only[List.getElem_toArray,List.getElem_cons_zero,List.getElem_cons_succ,Act.put,List.setIfInBounds_toArray,List.set_cons_zero,List.set_cons_succ]
     refine wpAnyX_step (i:=15) rfl (by kernel_rfl) rfl (λK L => ?_);simp only[List.getElem_toArray,List.getElem_cons_zero,List.getElem_cons_succ];rw[if_pos (by rfl)];go_simp;go_at_call 148;refine Calls.mono (l15Project_ok P hr wX _ _ _ U X Any Su _ (E.out.2.1 _ (grown_trans am O)) (E.out.2.2.1 _ (grown_trans am O)) bq E.out.2.2.2.1 HS.out.2.1) ?_;rintro eR wR ⟨vR,rfl,jU,aS⟩;rw[<-HS.out.2.2.2.1] at aS;obtain⟨aR,aZ,ji,_,_⟩:=(aS.ints (by omega)).shape;subst ji;have ai:Ext w4 wR:=grown_trans O jU;have br:Ext u wR/\wR.cell? ⟨u.heap.size,1,none⟩=some (.slice a2 n2 c2):=⟨grown_trans aa ai,(H4.out.1.box.ext ai).2.2.1⟩;have b8:Ext u (wR.alloc (.cells #[.slice aR R.length aZ] 24))/\(wR.alloc (.cells #[.slice aR R.length aZ] 24)).cell? ⟨u.heap.size,1,none⟩=some (.slice a2 n2 c2):=⟨grown_trans br.1 (World.grownBy_alloc _ _ _),(H4.out.1.box.ext (grown_trans ai (World.grownBy_alloc _ _ _))).2.2.1⟩;try dsimp only
     refine L.out _ _ br ?_;clear L K;try simp only[List.getElem_toArray,List.getElem_cons_zero,List.getElem_cons_succ,Act.put,List.setIfInBounds_toArray,List.set_cons_zero,List.set_cons_succ]
     refine wpAnyX_step (i:=16) rfl (by kernel_rfl) rfl (λK L => ?_);simp only[List.getElem_toArray,List.getElem_cons_zero,List.getElem_cons_succ];go_simp;refine L.out _ _ b8 ?_;clear L K;try simp only[List.getElem_toArray,List.getElem_cons_zero,List.getElem_cons_succ,Act.put,List.setIfInBounds_toArray,List.set_cons_zero,List.set_cons_succ]
     refine wpAnyX_step (i:=17) rfl (by kernel_rfl) rfl (λK L => ?_);simp only[List.getElem_toArray,List.getElem_cons_zero,List.getElem_cons_succ];refine step_app_I (a:=⟨_,[]⟩) rdOwn 25 (.slice none 0 0) 24 und_rows Tryz.infoRow rfl (by decide) (by rfl) _ _ (by rfl) Fp w4 wR _ _ ((quoP P U).powers.take k) R (by rfl) H4.out.2.1.p ai (OwnIn.of aS (by omega) (λk h _=>by have:=O.size;show w4.heap.size<=k;omega)) (by rfl) (by rfl) HS.out.2.2.2.2.2.1 ?_;intro v8 w8 M D bt;obtain⟨h8,m9,k9,rfl,fU⟩:=SlI.sl M;clear fU;have Q:=H4.out.1.boxed H4.out.2.2.2.2.1 D;have S:Ext u w8:=grown_own aa D (λj hj H=>by have:=(H4.out.2.2.2.2.1 j hj).1;omega);refine L.out _ _ ⟨S,Q.2.2.1⟩ ?_;clear L K;try simp only[List.getElem_toArray,List.getElem_cons_zero,List.getElem_cons_succ,Act.put,List.setIfInBounds_toArray,List.set_cons_zero,List.set_cons_succ]
     refine wpAnyX_take [19] (i:=18) (v := ?_) rfl (by kernel_rfl) (by kernel_rfl) (by kernel_rfl) (by kernel_rfl) (λ_ _ _ h=>h) (Or.inl ⟨by rfl,λw' q => ?_⟩) ⟨S,Q.2.2.1⟩ ?_;rotate_left
     ·obtain ⟨q,eH⟩:=q
      simp only[List.getElem_toArray,List.getElem_cons_zero,List.getElem_cons_succ];go_simp;try with_reducible rfl
     try simp only[List.getElem_toArray,List.getElem_cons_zero,List.getElem_cons_succ,Act.put,List.setIfInBounds_toArray,List.set_cons_zero,List.set_cons_succ]
     refine wpAnyX_last (n:=19) rfl (by kernel_rfl) rfl (λK L => ?_);simp only[List.getElem_toArray,List.getElem_cons_zero,List.getElem_cons_succ];obtain⟨f80,f81,f82,f83,f84⟩:=id Q;go_simp;refine L.out _ _ ?_;clear L K;refine wpAnyX_done (by kernel_rfl) ?_ _;try simp only[List.getElem_toArray,List.getElem_cons_zero,List.getElem_cons_succ,Act.put,List.setIfInBounds_toArray,List.set_cons_zero,List.set_cons_succ]
     clear r b7 br b8;have y:=H4.out.1.putP H4.out.2.1 M D;rw[<-HS.out.2.2.2.2.1] at y;have av:Ext u (w8.setCell ⟨u.heap.size,1,none⟩ (.slice h8 m9 k9)):=grown_own S (grown_set1 _ _ _ _) (λj hj H=>by have:=Option.some.inj hj;omega)
     have aG:Ints (λb=>(Value.slice ag ng cg).ownBlock=some b) (w8.setCell ⟨u.heap.size,1,none⟩ (.slice h8 m9 k9)) (.slice ag ng cg) (unitV P.orders.length i):=
      Ints.mono (Ints.mono H4.out.2.2.1 (frame_of D (λb Z _=>⟨Z,λe=>(H4.out.2.2.2.2.1 b e).2.2 Z⟩))) (frame_of (grown_set1 w8 u.heap.size 1 (.slice h8 m9 k9)) (λb Z _=>⟨Z,λe=>by have:=Option.some.inj e;have:=H4.out.2.2.2.1 b Z;omega⟩))
     obtain⟨F,bu⟩:∃F,F=w8.setCell ⟨u.heap.size,1,none⟩ (.slice h8 m9 k9):=⟨_,rfl⟩;rw[<-bu] at y av aG;have H6:=Lib.hid (And.intro y aG);clear y aG H4 M D bt S Q aS bq bp b6 O jU ai am aa;rw[<-bu];clear bu;have al:=av;have da:Ext w0 F:=grown_trans z al;obtain⟨C,hC⟩:∃C,C=((frI P U).drop (k+1)).map (λj=>prjV P U (rConj P (unitV P.orders.length j) (unitV P.orders.length i))):=⟨_,rfl⟩;obtain⟨N,hN⟩:∃N,N=m-(k+1):=⟨_,rfl⟩;have b':C.length=N:=by rw[hC,List.length_map,List.length_drop,hN,E.out.2.2.2.2.1]
     have ca:∀l,l<N->gt C l=prjV P U (rConj P (unitV P.orders.length (gt (frI P U) (k+1+l))) (unitV P.orders.length i))/\k+1+l<(frI P U).length:=λl hl=>by
      have aw:k+1+l<(frI P U).length:=by rw[<-E.out.2.2.2.2.1];omega
      refine⟨?_,aw⟩;rw[hC,gt_map _ _ _ (by rw[List.length_drop];omega)];congr 3
      simp[gt,List.getElem?_drop]
     have a0:(quoP P U).conj.take (k+1)=(quoP P U).conj.take k++[C]:=by rw[HS.out.2.2.2.2.2.2.1,hC]
     have a5:((quoP P U).conj.take k).length<=1000000:=by rw[List.length_take];omega
     have H7:=Lib.hid (And.intro b' (And.intro ca (And.intro a0 a5)));clear b' ca a0 a5 hC;have aH:Ext F (F.alloc (.cells #[] 24)):=World.grownBy_alloc _ _ _;have a6:RowsI (From F.heap.size) (F.alloc (.cells #[] 24)) (.slice (some ⟨F.heap.size,0,none⟩) 0 0) (C.take 0):=SlI.of (B:=F.heap.size) ⟨[],λ_ _=>False,rfl,World.ownsRow_lit F #[] 0 (Nat.le_refl _) (by decide) rfl,by simp,by simp,by simp⟩ (by simp) (λk h _=>h);have dx:N<=6:=by omega
     go_wp2;go_loopw [11,12] (λlv jv wr=>∃(l:Nat) (v7:Value),v7=lv/\jv=.int .i64 ((k+1+l:Nat):Int)/\l<=N/\Ext F wr/\RowsI (From F.heap.size) wr v7 (C.take l)) (λ_ jv _=>m-(intOf jv).toNat)
     case atStart=>exact⟨0,_,rfl,by go_num,by omega,aH,a6⟩
     case round=>
      clear aH a6;obtain⟨l,v7,rfl,rfl,hl,V,hO⟩:=hrel;obtain⟨wj,rfl⟩:∃wj:World,wj=wr:=⟨_,rfl⟩;have cc:Ext u wj:=grown_trans al V;have aJ:Ext w0 wj:=grown_trans z cc;obtain⟨jj,aT⟩:∃jj:Nat,jj=k+1+l:=⟨_,rfl⟩;by_cases a7:l<N
      ·have bv:((k+1+l:Nat):Int)<m:=by omega
       obtain⟨bw,aw⟩:=H7.out.2.1 l a7;have hj:=(fr_at aw).1;obtain⟨cO,nJ,hab,_,_,aK⟩:=Ints.at HF.out.1 (k+1+l) (by rw[natI_len];exact aw);obtain⟨rfl,rfl⟩:bi=cO/\oi=nJ:=by cases hab;exact⟨rfl,rfl⟩
       have ae:gt (natI (frI P U)) (k+1+l)=((gt (frI P U) (k+1+l):Nat):Int):=gt_map _ _ _ aw;rw[ae] at aK;obtain⟨j,ce⟩:∃j,j=gt (frI P U) (k+1+l):=⟨_,rfl⟩;rw[<-ce] at aK hj bw;rw[<-aT] at aK bv;have e6:∀w',Ext F w'->w'.cell? ⟨bi,oi+jj,none⟩=some (.int .i64 (j:Int)):=λw' h=>(grown_trans al h).cell aK (by simp);have e7:∀w',Ext F w'->w'.cell? ⟨w.heap.size,0,none⟩=some (.slice (some ⟨bo,oo,none⟩) P.orders.length co):=λw' h=>e0 w' (grown_trans al h);have e8:∀w',Ext F w'->w'.cell? ⟨w.heap.size,1,none⟩=some eo:=λw' h=>e4 w' (grown_trans al h);have e9:∀w',Ext F w'->w'.cell? ⟨w.heap.size,2,none⟩=some dQ:=λw' h=>e5 w' (grown_trans al h);have bx:Vec P.orders (unitV P.orders.length j):=unitV_vec G.v j;obtain⟨Y,hY⟩:∃Y,Y=rConj P (unitV P.orders.length j) (unitV P.orders.length i):=⟨_,rfl⟩;have cf:Vec P.orders Y:=by rw[hY];exact G.conjV bx HS.out.1
       obtain⟨T,hT⟩:∃T,T=prjV P U Y:=⟨_,rfl⟩;have dE:T.length<=6:=by rw[hT];unfold prjV;rw[List.length_map,<-E.out.2.2.2.2.1];omega
       have aL:C.take (l+1)=C.take l++[T]:=by rw[take_succ_gt _ l (by rw[H7.out.1];exact a7),bw,hT,hY]
       have a9:(C.take l).length<=1000000:=by rw[List.length_take];omega
       have HR:=Lib.hid (And.intro bx (And.intro cf (And.intro hY (And.intro hT (And.intro aL (And.intro a9 hj))))));clear bx cf hY hT aL a9 hj ce bw aw ae aK;have cP:(∀b,v7.ownBlock=some b->F.heap.size<=b):=by obtain⟨_,_,_,_,_,hF,_⟩:=id hO;exact hF
       rw[<-aT];have HJ:=Lib.hid aT;clear aT;go_wp2
       go_region_held3 (λw'=>Ext F w') (first|exact grown_trans V (grown_drew _ _)|assumption|exact grown_trans (by assumption) (World.grownBy_alloc _ _ _))
        (first
         | (refine step_app_I rdOwn 25 (.slice none 0 0) 24 und_rows Tryz.infoRow rfl (by decide) (by rfl) _ _ (by rfl) (From F.heap.size) wj wD _ _ (C.take l) T (by rfl) hO a' (OwnIn.of bz (by omega) (λk h _=>by have:=aj.size;show wj.heap.size<=k;omega)) (by rfl) (by rfl) HR.out.2.2.2.2.2.1 ?_;intro v8 w8 M D bt;have S:Ext F w8:=grown_own V D (λb Z H=>by have:=cP b Z;omega))
         | (go_at_call 149;refine Calls.mono (l07Unit_ok P.orders.length j wj.drew HR.out.2.2.2.2.2.2 (by omega)) ?_;rintro eA wA ⟨cS,rfl,cT,fE⟩;have ch:=fE.ints (by rw[HR.out.1.1];omega);obtain⟨aA,nA,cA,huv⟩:∃a n c,cS=Value.slice a n c:=(by obtain⟨a,c,e,_⟩:=ch.shape;exact⟨_,_,_,e⟩);subst huv;have ap:Ext wj wA:=grown_trans (grown_drew _ _) cT;have db:Ext F wA:=grown_trans V ap)
         | (go_at_call 218;refine Calls.mono (l10Conj_ok P G.v wA _ _ _ (unitV P.orders.length j) (unitV P.orders.length i) Any _ _ (E.out.2.1 _ (grown_trans aJ ap)) ch (Ints.ext H6.out.2 (grown_trans V ap)) HR.out.1 HS.out.1) ?_;rintro eB wB ⟨cV,rfl,aN,ci⟩;rw[<-HR.out.2.2.1] at ci;have cj:=ci.ints (by rw[HR.out.2.1.1];omega);obtain⟨aB,nB,cB,hcv⟩:∃a n c,cV=Value.slice a n c:=(by obtain⟨a,c,e,_⟩:=cj.shape;exact⟨_,_,_,e⟩);subst hcv;have aj:Ext wj wB:=grown_trans ap aN;have dc:Ext F wB:=grown_trans V aj)
         | (go_at_call 148;refine Calls.mono (l15Project_ok P hr wB _ _ _ U Y Any Su _ (E.out.2.1 _ (grown_trans aJ aj)) (E.out.2.2.1 _ (grown_trans aJ aj)) cj E.out.2.2.2.1 HR.out.2.1) ?_;rintro eD wD ⟨rv,rfl,gD,bz⟩;rw[<-HR.out.2.2.2.1] at bz;obtain⟨aD,cD,jg,_,_⟩:=(bz.ints (by omega)).shape;subst jg;have a':Ext wj wD:=grown_trans aj gD;have dd:Ext F wD:=grown_trans V a'))
       clear e6 e7 e8 e9
       have cW:RowsI (From F.heap.size) w8 v8 (C.take (l+1)):=by
        rw[HR.out.2.2.2.2.1]
        exact SlI.wide M (λb Z=>by
         rcases Z with Z|Z
         ·exact Z
         ·have:=V.size;show F.heap.size<=b;omega)
       go_wp2;go_roundw
       case rel=>exact⟨l+1,v8,rfl,by rw[HJ.out];go_num,by omega,S,cW⟩
       case measure=>simp[intOf];omega
      ·have cX:l=N:=by omega
       have dG:¬((k+1+l:Nat):Int)<m:=by omega
       subst cX;rw[List.take_of_length_le (by rw[H7.out.1];exact Nat.le_refl _)] at hO;obtain⟨a4,n4,c4,rfl,jh⟩:=SlI.sl hO;obtain⟨Fo,Fp,Fc,af,o1,o2,o3⟩:=H6.out.1.parts;have cY:=H6.out.1.box.ext V;have HN:=Lib.hid jh;clear jh;obtain⟨f0,f1,f2,f3,f4⟩:=id cY;go_wp2_with (first|(at_builtin;refine wp_app_I (rdI rdOwn) 26 (.slice none 0 0) 24 und_rows3 Tryz.infoRows rfl (by decide) rfl _ _ rfl Fc F wj _ _ ((quoP P U).conj.take k) C rfl af.c V hO rfl rfl H7.out.2.2.2 ?_;intro v8 w8 M D bt;obtain⟨g9,cZ,c0,rfl,fU⟩:=SlI.sl M;clear fU;have Q:=H6.out.1.boxed o3 D;clear f0 f1 f2 f3 f4;obtain⟨f0,f1,f2,f3,f4⟩:=id Q)|fail)
       have y:=H6.out.1.putC af M D;rw[<-H7.out.2.2.1] at y;have bA:=y.away (G':=λ_=>False) (Ext.refl _) (λ_ h=>h.elim) (λ_ h=>h.elim);have av:=grown_own (grown_own al D (λj hj H=>by have:=(o3 j hj).1;omega)) (grown_set1 w8 u.heap.size 2 (.slice g9 cZ c0)) (λj hj H=>by have:=Option.some.inj hj;omega);clear f0 f1 f2 f3 f4;go_roundw
       case rel=>exact⟨k+1,_,_,_,_,_,_,by go_num,by omega,av,bA⟩
       case measure=>simp[intOf];omega
    ·have bj:k=m:=by omega
     have ba:(quoP P U).powers.take k=(quoP P U).powers:=List.take_of_length_le (by show((frI P U).map _).length<=k;rw[List.length_map,<-E.out.2.2.2.2.1];omega);have bb:(quoP P U).conj.take k=(quoP P U).conj:=List.take_of_length_le (by show((List.range _).map _).length<=k;rw[List.length_map,List.length_range,<-E.out.2.2.2.2.1];omega);rw[ba,bb] at A;have hz:=HF.out.2.1.ext hg;have dI:=z.size;obtain⟨h0,h1,h2,h3',h4⟩:=id A.box;obtain⟨k0,k1,k2,k3,k4⟩:=id hz;have hZ:=hz.all (.slice a1 n1 c1) (.slice a2 n2 c2) (.slice a3 n3 c3);have hT:=grown_set3 wo (w.heap.size+1) (.slice a1 n1 c1) (.slice a2 n2 c2) (.slice a3 n3 c3);obtain⟨_,z0,z1,z2,_⟩:=id hZ
     have bc:Ret w (PresR w.heap.size (quoP P U)) (.returned (.agg #[.slice a1 n1 c1,.slice a2 n2 c2,.slice a3 n3 c3])) (((wo.setCell ⟨w.heap.size+1,0,none⟩ (.slice a1 n1 c1)).setCell ⟨w.heap.size+1,1,none⟩ (.slice a2 n2 c2)).setCell ⟨w.heap.size+1,2,none⟩ (.slice a3 n3 c3)):=
      ⟨_,rfl,grown_own (grown_trans aN (grown_trans z hg)) hT (λj hj H=>by cases hj;omega),A.ret (by omega) (by omega) hT⟩
     have HE:=Lib.hid bc;clear bc hT hZ ba bb;go_wp2;refine bodyPost_ret (v := .agg #[.slice a1 n1 c1,.slice a2 n2 c2,.slice a3 n3 c3]) (by simp[results,Tryz.results151,go_sem,z0,z1,z2]) rfl ?_;exact HE.out
theorem l15Code_ok (P:Pr) (w:World) (pv M:Value) (U:List (List Int)) (N H:Nat->Prop) (I:PresV N w pv P) (J:Rows2 H w M U) :
  Calls Tryz.prog 117 #[pv,M] w (Ret w λ_ v=>v=.int .i64 (cpnC P U)):=by
 obtain⟨vo,vp,vc,rfl,h3⟩:=I;have r:=PresP.box h3 28;have k:Ext w (w.alloc (.cells #[vo,vp,vc] 28)):=World.grownBy_alloc _ _ _;obtain⟨q,eo,dQ,_,_,l,b,i,ew⟩:=r.at;simp only[Nat.zero_add] at b i;have u:∀w',Ext (w.alloc (.cells #[vo,vp,vc] 28)) w'->w'.cell? ⟨w.heap.size,0,none⟩=some q/\w'.cell? ⟨w.heap.size,1,none⟩=some eo/\w'.cell? ⟨w.heap.size,2,none⟩=some dQ:=λw' h=>⟨h.cell l (by simp),h.cell b (by simp),h.cell i (by simp)⟩;have O:=Lib.hid u;clear u r;have y:=Rows2.ext J k;obtain⟨Q,z,rfl,_,_⟩:=Sl.shape J;have A:=sIsSubgroup_ok P _ (.agg #[q,eo,dQ]) _ U Any H ⟨_,_,_,rfl,ew⟩ y;clear J;go_enter Tryz.func117,Tryz.ntmps117;go_wp2_with fail
 clear l b i;generalize K:w.alloc (.cells #[vo,vp,vc] 28)=w0 at *;clear K;refine Calls.mono A ?_;rintro R L ⟨v1,rfl,a,r1,rfl,hr1⟩;clear A;cases r1 with
 | false=>
  have p:=cpn_bad (P:=P) (U:=U) (λh=>by have:=hr1.2 h;cases this);have B:=Lib.hid p;clear p hr1;go_wp2;go_ret;exact⟨_,rfl,grown_trans k a,by rw[B.out];rfl⟩
 | true=>
  have j:=hr1.1 rfl;have G:=grp_of_r j.1;have hU:=j.2.2
  have C:Rows2 H L (.slice Q U.length z) (cseq P (gU P U)):=by
   have e:cseq P (gU P U)=U:=hU.symm;rw[e];exact Rows2.ext y a
  have D:=l13Normal_ok P G L (.agg #[q,eo,dQ]) _ (gU P U) Any H (G.subB j.2) ⟨_,_,_,rfl,Pres3.ext ew a⟩ C;have E:=Lib.hid j;clear hr1 j hU C;obtain⟨l,b,i⟩:=O.out L a;go_wp2_with fail
  clear l b i;refine Calls.mono D ?_;rintro S V ⟨v2,rfl,F,r2,rfl,m⟩;clear D;cases r2 with
  | false=>
   have p:=cpn_not E.out (λh=>by have:=m.2 h;cases this);have B:=Lib.hid p;clear p m;go_wp2;go_ret;exact⟨_,rfl,grown_trans k (grown_trans a F),by rw[B.out];rfl⟩
  | true=>
   have p:=cpn_ok E.out (m.1 rfl);have B:=Lib.hid p;clear p m;go_wp2;go_ret;exact⟨_,rfl,grown_trans k (grown_trans a F),by rw[B.out];rfl⟩
end Go.Proofs.YtldheeicjnncoaaGreat
namespace Go.Proofs.YtldheeicjnncoaaGreat
open Go.RowKit
attribute [local go_sem ↓] Go.wp_at_zero Go.wp_at_succ
set_option linter.unusedSimpArgs false in
theorem sNat_ok (P:Pr) (w:World) (pv uv:Value) (U:List (List Int)) (Sp Su:Nat->Prop) (aV:PresV Sp w pv P) (hu:Rows2 Su w uv U) :
  Calls Tryz.prog 51 #[pv,uv] w (Ret w (NatV P U)):=by
 obtain⟨vo,vp,vc,rfl,h3⟩:=aV;obtain⟨H,co,ez⟩:∃a c,vo=.slice a P.orders.length c:=by obtain⟨a,c,e,_⟩:=h3.o.shape;exact⟨_,_,e⟩
 obtain⟨ap,I,J,hvp⟩:∃a n c,vp=.slice a n c:=by obtain⟨a,c,e,_⟩:=Sl.shape h3.p;exact⟨_,_,_,e⟩
 obtain⟨K,L,M,ey⟩:∃a n c,vc=.slice a n c:=by obtain⟨a,c,e,_⟩:=Sl.shape h3.c;exact⟨_,_,_,e⟩
 subst ez hvp ey;have S:Ext w ((w.alloc (.cells #[.slice H P.orders.length co,.slice ap I J,.slice K L M] 28)).alloc (.cells #[.slice none 0 0,.slice none 0 0,.slice none 0 0,.slice none 0 0,.slice none 0 0,.slice none 0 0,.slice none 0 0] 62)):=grown_trans (World.grownBy_alloc _ _ _) (World.grownBy_alloc _ _ _);have hA:=(Box3.made w 28 (.slice H P.orders.length co) (.slice ap I J) (.slice K L M)).ext (World.grownBy_alloc _ (.cells #[.slice none 0 0,.slice none 0 0,.slice none 0 0,.slice none 0 0,.slice none 0 0,.slice none 0 0,.slice none 0 0] 62) none);have W:=Box7.made (w.alloc (.cells #[.slice H P.orders.length co,.slice ap I J,.slice K L M] 28)) 62 (.slice none 0 0) (.slice none 0 0) (.slice none 0 0) (.slice none 0 0) (.slice none 0 0) (.slice none 0 0) (.slice none 0 0);have ay:(w.alloc (.cells #[.slice H P.orders.length co,.slice ap I J,.slice K L M] 28)).heap.size=w.heap.size+1:=by simp
 have bw:((w.alloc (.cells #[.slice H P.orders.length co,.slice ap I J,.slice K L M] 28)).alloc (.cells #[.slice none 0 0,.slice none 0 0,.slice none 0 0,.slice none 0 0,.slice none 0 0,.slice none 0 0,.slice none 0 0] 62)).heap.size=w.heap.size+2:=by simp
 rw[ay] at W;have az:∀w',Ext ((w.alloc (.cells #[.slice H P.orders.length co,.slice ap I J,.slice K L M] 28)).alloc (.cells #[.slice none 0 0,.slice none 0 0,.slice none 0 0,.slice none 0 0,.slice none 0 0,.slice none 0 0,.slice none 0 0] 62)) w'->PresV Any w' (.agg #[.slice H P.orders.length co,.slice ap I J,.slice K L M]) P:=λw' h=>⟨_,_,_,rfl,(h3.ext (grown_trans S h)).mono (λ_ _ hk=>⟨trivial,hk,rfl⟩)⟩;have aB:∀w',Ext ((w.alloc (.cells #[.slice H P.orders.length co,.slice ap I J,.slice K L M] 28)).alloc (.cells #[.slice none 0 0,.slice none 0 0,.slice none 0 0,.slice none 0 0,.slice none 0 0,.slice none 0 0,.slice none 0 0] 62)) w'->Rows2 Su w' uv U:=λw' h=>Rows2.ext hu (grown_trans S h);obtain⟨au,capu,rfl,_,_⟩:=Sl.shape hu;have u:=Lib.hid (And.intro hA (And.intro W (And.intro az aB)));clear hA W ay az aB hu h3;go_enter Tryz.func51,Tryz.ntmps51;go_wp2_with fail
 generalize ((w.alloc (.cells #[.slice H P.orders.length co,.slice ap I J,.slice K L M] 28)).alloc (.cells #[.slice none 0 0,.slice none 0 0,.slice none 0 0,.slice none 0 0,.slice none 0 0,.slice none 0 0,.slice none 0 0] 62))=w0 at *;have aC:=u.out.1;obtain⟨b0,b1,b2,b3,b4⟩:=id aC;clear aC;go_wp2_with fail
 clear b0 b1 b2 b3 b4;refine Calls.mono (l15Code_ok P w0 _ _ U Any Su (u.out.2.2.1 _ (Ext.refl _)) (u.out.2.2.2 _ (Ext.refl _))) ?_;rintro e1 m ⟨v1,rfl,E,rfl⟩;by_cases hz:cpnC P U=0
 case neg=>
  have aX:(cpnC P U != 0)=true:=by simpa using hz
  obtain⟨N,O,Q⟩:=nh_no hz;have HN:=Lib.hid (And.intro N (And.intro O Q));clear N O Q hz;have z:=u.out.2.1.ext E;obtain⟨k0,⟨k1,k2,k3,k4,k5,k6,k7⟩,k8⟩:=id z;have hT:=grown_set7 m (w.heap.size+1) (.slice none 0 0) (.slice none 0 0) (.slice none 0 0) (.slice none 0 0) (.slice none 0 0) (.slice none 0 0) (.slice none 0 0);have ab:=Lib.hid (z.2.1.all (.slice none 0 0) (.slice none 0 0) (.slice none 0 0) (.slice none 0 0) (.slice none 0 0) (.slice none 0 0) (.slice none 0 0))
  have r:∀c:Int,c=cpnC P U->Ret w (NatV P U) (.returned (.tuple #[.agg #[.slice none 0 0,.slice none 0 0,.slice none 0 0,.slice none 0 0,.slice none 0 0,.slice none 0 0,.slice none 0 0],.int .i64 c])) (((((((m.setCell ⟨(w.heap.size+1),0,none⟩ (.slice none 0 0)).setCell ⟨(w.heap.size+1),1,none⟩ (.slice none 0 0)).setCell ⟨(w.heap.size+1),2,none⟩ (.slice none 0 0)).setCell ⟨(w.heap.size+1),3,none⟩ (.slice none 0 0)).setCell ⟨(w.heap.size+1),4,none⟩ (.slice none 0 0)).setCell ⟨(w.heap.size+1),5,none⟩ (.slice none 0 0)).setCell ⟨(w.heap.size+1),6,none⟩ (.slice none 0 0)):=λc hc=>
   ⟨_,rfl,grown_own (grown_trans S E) hT (λj hj A=>by have:=Option.some.inj hj;omega),none,0,0,none,0,0,none,0,0,none,0,0,none,0,0,none,0,0,none,0,0,by rw[hc],by rw[HN.out.1,HN.out.2.1,HN.out.2.2];exact hom_nil _⟩
  have HE:=Lib.hid r;clear r hT z;obtain⟨c,hc⟩:∃c,c=cpnC P U:=⟨_,rfl⟩;rw[<-hc] at aX ⊢;go_wp2;obtain⟨z0,z1,z2,z3,z4,z5,z6⟩:=ab.out;refine bodyPost_ret (v := .tuple #[.agg #[.slice none 0 0,.slice none 0 0,.slice none 0 0,.slice none 0 0,.slice none 0 0,.slice none 0 0,.slice none 0 0],.int .i64 c]) (by simp[results,Tryz.results51,go_sem,z0,z1,z2,z3,z4,z5,z6,hc]) rfl ?_;exact HE.out c hc
 obtain⟨hr,hU,hn,hN⟩:=nh_facts hz;have G:=grp_of_r hr;have bz:=G.v.n6;have aF:Shp 6 (quoP P U):=(quo_valid G hr hU).shp;have ad:=qIm_len P U;have bA:=fr_len P U;have ae:∀X,(prjV P U X).length<=6:=λX=>by unfold prjV;rw[List.length_map];omega
 have aG:∀x∈qIm P U,x.length<=1000000:=λx hx=>by
  unfold qIm at hx;obtain⟨y,_,rfl⟩:=List.mem_map.1 hx;have:=ae y;omega
 have HH:=Lib.hid (And.intro hr (And.intro hU (And.intro hz (And.intro ae (And.intro aF aG)))));clear hU hn hN ae aF aG;rw[hz];clear hz;have aH:RowsI (From m.heap.size) (m.alloc (.cells #[] 24)) (.slice (some ⟨m.heap.size,0,none⟩) 0 0) ((qIm P U).take 0):=SlI.of (B:=m.heap.size) ⟨[],λ_ _=>False,rfl,World.ownsRow_lit m #[] 0 (Nat.le_refl _) (by decide) rfl,by simp,by simp,by simp⟩ (by simp) (λk h _=>h);have aI:Ext m (m.alloc (.cells #[] 24)):=World.grownBy_alloc _ _ _;go_wp2;go_loopw [7,8] (λiv kv wr=>∃(k:Nat) (v7:Value),v7=iv/\kv=.int .i64 (k:Int)/\k<=P.orders.length/\Ext m wr/\RowsI (From m.heap.size) wr v7 ((qIm P U).take k)) (λ_ kv _=>P.orders.length-(intOf kv).toNat)
 case atStart=>exact⟨0,_,rfl,rfl,by omega,aI,aH⟩
 case round=>
  clear aH aI;obtain⟨k,v7,rfl,rfl,hk,F,hO⟩:=hrel;obtain⟨q,rfl⟩:∃q:World,q=wr:=⟨_,rfl⟩;have i:Ext w0 q:=grown_trans E F;obtain⟨b0,b1,b2,b3,b4⟩:=id (u.out.1.ext i);by_cases A:k<P.orders.length
  ·have bo:(k:Int)<P.orders.length:=by omega
   have C:(qIm P U).take (k+1)=(qIm P U).take k++[prjV P U (unitV P.orders.length k)]:=by
    rw[take_succ_gt _ k (by rw[ad];exact A)];unfold qIm;rw[gt_imgs A]
   have Y:((qIm P U).take k).length<=1000000:=by rw[List.length_take];omega
   have aK:Vec P.orders (unitV P.orders.length k):=unitV_vec G.v k;obtain⟨R,W⟩:∃R,R=prjV P U (unitV P.orders.length k):=⟨_,rfl⟩;have bC:R.length<=6:=by rw[W];exact HH.out.2.2.2.1 _
   rw[<-W] at C;have HX:=Lib.hid (And.intro aK (And.intro C (And.intro Y (And.intro W A))));clear aK C Y W;have a':∀b,v7.ownBlock=some b->m.heap.size<=b:=by obtain⟨_,_,_,_,_,hF,_⟩:=id hO;exact hF
   have e0:∀w',Ext m w'->w'.cell? ⟨w.heap.size,0,none⟩=some (.slice H P.orders.length co):=λw' h=>(u.out.1.ext (grown_trans E h)).2.1;have e1:∀w',Ext m w'->w'.cell? ⟨w.heap.size,1,none⟩=some (.slice ap I J):=λw' h=>(u.out.1.ext (grown_trans E h)).2.2.1;have e2:∀w',Ext m w'->w'.cell? ⟨w.heap.size,2,none⟩=some (.slice K L M):=λw' h=>(u.out.1.ext (grown_trans E h)).2.2.2.1;go_wp2;clear b0 b1 b2 b3 b4
   go_region_held3 (λw'=>Ext m w') (with_reducible first|assumption|exact grown_trans F (grown_drew _ _)|exact grown_trans (by assumption) (World.grownBy_alloc _ _ _))
    (first
     | (refine step_app_I rdOwn 25 (.slice none 0 0) 24 und_rows Tryz.infoRow rfl (by decide) (by rfl) _ _ (by rfl) (From m.heap.size) q wD _ _ ((qIm P U).take k) R (by rfl) hO Z (OwnIn.of ag (by omega) (λk h _=>by have:=l.size;show q.heap.size<=k;omega)) (by rfl) (by rfl) HX.out.2.2.1 ?_;intro v8 w8 bd be bD;have bf:Ext m w8:=grown_own F be (λb hb A=>by have:=a' b hb;omega))
     | (go_at_call 149;refine Calls.mono (l07Unit_ok P.orders.length k q.drew A (by omega)) ?_;rintro eA wA ⟨bg,rfl,D,fE⟩;have aM:=fE.ints (by rw[HX.out.1.1];omega);obtain⟨aA,nA,cA,huv⟩:∃a n c,bg=Value.slice a n c:=(by obtain⟨a,c,e,_⟩:=aM.shape;exact⟨_,_,_,e⟩);subst huv;have l:Ext q wA:=grown_trans (grown_drew _ _) D;have br:Ext m wA:=grown_trans F l)
     | (go_at_call 148;refine Calls.mono (l15Project_ok P hr wA _ _ _ U _ Any Su _ (u.out.2.2.1 _ (grown_trans i l)) (u.out.2.2.2 _ (grown_trans i l)) aM HH.out.2.1 HX.out.1) ?_;rintro eD wD ⟨rv,rfl,gD,ag⟩;rw[<-HX.out.2.2.2.1] at ag;obtain⟨aD,cD,jg,_,_⟩:=(ag.ints (by omega)).shape;subst jg;have Z:Ext q wD:=grown_trans l gD;have bt:Ext m wD:=grown_trans F Z))
   clear e0 e1 e2
   have bh:RowsI (From m.heap.size) w8 v8 ((qIm P U).take (k+1)):=by
    rw[HX.out.2.1]
    exact SlI.wide bd (λb hb=>by
     rcases hb with hb|hb
     ·exact hb
     ·have:=F.size;show m.heap.size<=b;omega)
   go_wp2;go_roundw
   case rel=>exact⟨k+1,v8,rfl,by go_num,by omega,bf,bh⟩
   case measure=>simp[intOf];omega
  ·have bF:k=P.orders.length:=by omega
   have bi:¬(k:Int)<P.orders.length:=by omega
   have aN:(qIm P U).take k=qIm P U:=List.take_of_length_le (by rw[ad];omega);rw[aN] at hO;have aO:Rows2 Any q v7 (qIm P U):=Rows2.sub (RowsI.rows hO) (λ_ _ _=>trivial);clear aN hO;have n0:some (w.heap.size+1)≠some w.heap.size:=λe=>by have:=Option.some.inj e;omega
   have x0:∀w',q.grownBy w' (some (w.heap.size+1))->Box3 w' w.heap.size (.slice H P.orders.length co) (.slice ap I J) (.slice K L M):=λw' h=>(u.out.1.ext i).keep h.size (h.block _ (u.out.1.ext i).1 n0.symm);have e0:∀w',q.grownBy w' (some (w.heap.size+1))->w'.cell? ⟨w.heap.size,0,none⟩=some (.slice H P.orders.length co):=λw' h=>(x0 w' h).2.1;have e1:∀w',q.grownBy w' (some (w.heap.size+1))->w'.cell? ⟨w.heap.size,1,none⟩=some (.slice ap I J):=λw' h=>(x0 w' h).2.2.1;have e2:∀w',q.grownBy w' (some (w.heap.size+1))->w'.cell? ⟨w.heap.size,2,none⟩=some (.slice K L M):=λw' h=>(x0 w' h).2.2.2.1;clear x0 n0;have HR:=Lib.hid aO;clear aO;have V:Ext q q.drew:=grown_drew _ _;have bj:q.grownBy q.drew (some (w.heap.size+1)):=grown_of_ext _ V;go_wp2;clear b0 b1 b2 b3 b4 bi
   go_region_held3 (λw'=>q.grownBy w' (some (w.heap.size+1))) (with_reducible assumption)
    (first
     | (go_at_call 151;refine Calls.mono (l15Quo_ok P hr q.drew _ _ U Any Su (u.out.2.2.1 _ (grown_trans i V)) (u.out.2.2.2 _ (grown_trans i V)) HH.out.2.1) ?_;rintro eA wA ⟨vA,rfl,l,x1,x2,x3,rfl,lJ⟩;have D:=grown_trans V l;have bk:q.grownBy wA (some (w.heap.size+1)):=grown_of_ext _ D;obtain⟨d1,m1,f1,d2,m2,f2,d3,m3,f3,rfl,rfl,rfl⟩:=lJ.sl)
     | (go_at_call 150;refine Calls.mono (l16Make_ok wA _ _ _ P (quoP P U) (qIm P U) Any _ Any (u.out.2.2.1 _ (grown_trans i D)) ⟨_,_,_,rfl,lJ.p3⟩ (Rows2.ext HR.out D) G.v.shp HH.out.2.2.2.2.1 HH.out.2.2.2.2.2 (by rw[ad];omega)) ?_;rintro eB wB ⟨vB,rfl,nK,a1,N,c1,a2,O,c2,a3,Q,c3,a4,n4,c4,a5,n5,c5,a6,n6,c6,a7,n7,c7,rfl,nL⟩;have aq:=grown_trans D nK;have aQ:q.grownBy wB (some (w.heap.size+1)):=grown_of_ext _ aq;have z:=u.out.2.1.ext (grown_trans i aq);obtain⟨k0,⟨k1,k2,k3,k4,k5,k6,k7⟩,k8⟩:=id z;have bm:=grown_trans aQ (grown_set7 wB (w.heap.size+1) (.slice a1 N c1) (.slice a2 O c2) (.slice a3 Q c3) (.slice a4 n4 c4) (.slice a5 n5 c5) (.slice a6 n6 c6) (.slice a7 n7 c7))))
   clear bj bk aQ bm;clear e0 e1 e2 k1 k2 k3 k4 k5 k6 k7 k8;have hT:=grown_set7 wB (w.heap.size+1) (.slice a1 N c1) (.slice a2 O c2) (.slice a3 Q c3) (.slice a4 n4 c4) (.slice a5 n5 c5) (.slice a6 n6 c6) (.slice a7 n7 c7);have ab:=Lib.hid (z.2.1.all (.slice a1 N c1) (.slice a2 O c2) (.slice a3 Q c3) (.slice a4 n4 c4) (.slice a5 n5 c5) (.slice a6 n6 c6) (.slice a7 n7 c7));obtain⟨m1,m2,m3⟩:=nh_ok HH.out.2.2.1;have bH:=i.size
   have r:Ret w (NatV P U) (.returned (.tuple #[.agg #[.slice a1 N c1,.slice a2 O c2,.slice a3 Q c3,.slice a4 n4 c4,.slice a5 n5 c5,.slice a6 n6 c6,.slice a7 n7 c7],.int .i64 0])) (((((((wB.setCell ⟨(w.heap.size+1),0,none⟩ (.slice a1 N c1)).setCell ⟨(w.heap.size+1),1,none⟩ (.slice a2 O c2)).setCell ⟨(w.heap.size+1),2,none⟩ (.slice a3 Q c3)).setCell ⟨(w.heap.size+1),3,none⟩ (.slice a4 n4 c4)).setCell ⟨(w.heap.size+1),4,none⟩ (.slice a5 n5 c5)).setCell ⟨(w.heap.size+1),5,none⟩ (.slice a6 n6 c6)).setCell ⟨(w.heap.size+1),6,none⟩ (.slice a7 n7 c7)):=
    ⟨_, rfl,grown_own (grown_trans S (grown_trans i aq)) hT (λj hj A=>by have:=Option.some.inj hj;omega),a1,N,c1,a2,O,c2,a3,Q,c3,a4,n4,c4,a5,n5,c5,a6,n6,c6,a7,n7,c7,by rw[HH.out.2.2.1],by
     rw[m1,m2,m3];exact nL.mono (frame_of hT (λk h _=>⟨trivial,λe=>by have:=Option.some.inj e;have h:wA.heap.size<=k:=h;have:=D.size;omega⟩))⟩
   have HE:=Lib.hid r;clear r hT z m1 m2 m3;go_wp2;obtain⟨z0,z1,z2,z3,z4,z5,z6⟩:=ab.out;refine bodyPost_ret (v := .tuple #[.agg #[.slice a1 N c1,.slice a2 O c2,.slice a3 Q c3,.slice a4 n4 c4,.slice a5 n5 c5,.slice a6 n6 c6,.slice a7 n7 c7],.int .i64 0]) (by simp[results,Tryz.results51,go_sem,z0,z1,z2,z3,z4,z5,z6]) rfl ?_;exact HE.out
def PresA (M B:Nat) (w':World) (v:Value):Prop:=∃(vo vp vc:Value) (Q:Pr),v=.agg #[vo,vp,vc]/\Q.orders.length<=M/\Pres3 (From B) w' vo vp vc Q
theorem PresX.moved {F:Nat->Prop}{w w':World}{vo vp vc:Value}{P:Pr}(h:PresX F w vo vp vc P) {r:Nat}(b:w.grownBy w' (some r)) (hr:¬F r):PresX F w' vo vp vc P:=
 h.mono (λk hk a=>⟨hk,Nat.lt_of_lt_of_le a b.size,b.block k a (λe=>hr (by have:=Option.some.inj e;subst this;exact hk))⟩)
theorem Box3.moved {w w':World}{b r:Nat}{x y z:Value}(h:Box3 w b x y z) (a:w.grownBy w' (some r)) (hr:b≠r):Box3 w' b x y z:=h.keep a.size (a.block _ h.1 (λe=>hr (Option.some.inj e)))
def PresAL (M:Nat) (C:Pr->Prop) (B:Nat) (w':World) (v:Value):Prop:=∃(vo vp vc:Value) (Q:Pr),v=.agg #[vo,vp,vc]/\Q.orders.length<=M/\Pres3 (From B) w' vo vp vc Q/\C Q
def OrdLe (P Q:Pr):Prop:=Valid Q->ordP Q<=ordP P
theorem OrdLe.same {P Q:Pr}(h:Q.orders=P.orders):OrdLe P Q:=λ_=>by unfold ordP;rw[h];exact Int.le_refl _
theorem LimOk.le {a:Int}{P Q:Pr}(h:LimOk a P) (hV:Valid P) (e:OrdLe P Q):LimOk a Q:=λi=>by
 have b:=e i;rcases h hV with h|h
 ·exact .inl (Int.le_trans b h)
 ·exact .inr (Int.le_trans b h)
theorem a_ret {w b:World}{sb m M br:Nat}{x y z:Value}{Q:Pr}{F:Nat->Prop}(p:w.grownBy b (some sb)) (q:w.heap.size<=br) (hF:∀k,F k->k<b.heap.size->w.heap.size<=k/\k≠br) (i:Src m b sb) (r:m<=w.heap.size) {C:Pr->Prop}(u:Q.orders.length<=M) (hP:Pres3 F b x y z Q) (A:C Q) :
  Mut w (some sb) (DrawR m sb (PresAL M C w.heap.size)) (.returned (.agg #[x,y,z])) (((b.setCell ⟨br,0,none⟩ x).setCell ⟨br,1,none⟩ y).setCell ⟨br,2,none⟩ z):=by
 have l:=grown_set3 b br x y z;exact⟨_,rfl,grown_own p l (λj B a=>by cases B;omega),⟨x,y,z,Q,rfl,u,hP.mono (λk hk a=>⟨(hF k hk a).1,Nat.lt_of_lt_of_le a l.size,l.block k a (λe=>(hF k hk a).2 (Option.some.inj e))⟩),A⟩,i.own l (λk hk=>by cases hk;omega)⟩
theorem PresX.openPIm {F:Nat->Prop}{m:World}{vo vp vc:Value}{P:Pr}{r:Nat}(h:PresX F m vo vp vc P) (i j:Nat) (hi:i<P.powers.length) (q:j<(gt P.powers i).length) (hr:¬F r) :
  ∃ g cap b a,vp=.slice (some ⟨g,0,none⟩) P.powers.length cap/\F g/\g<m.heap.size/\m.cell? ⟨g,i,none⟩=some (.slice (some ⟨b,0,none⟩) (gt P.powers i).length a)/\F b/\b≠g/\b<m.heap.size /\
   m.cell? ⟨b,j,none⟩=some (.int .i64 (gt (gt P.powers i) j)) /\
   ∀l,m.grownBy l (some r)->l.frozen? ⟨b,j,none⟩=false/\∀x,PresX (λk=>F k\/l.heap.size<=k) (l.setCell ⟨b,j,none⟩ (.int .i64 x)) vo vp vc { P with powers:=P.powers.set i ((gt P.powers i).set j x) } :=by
 obtain⟨g,cap,b,a,rfl,h1,h2,h3,h4,h5,h6,h7,_,_⟩:=h.openPI i j hi q;refine⟨g,cap,b,a,rfl,h1,h2,h3,h4,h5,h6,h7,λl u => ?_⟩;have y:=h.moved u hr;obtain⟨z,cap',b',nO,e1,k1,k2,w,k4,k5,k6,k7,k8,k9⟩:=y.openPI i j hi q;cases e1
 have p:=u.cell h3 (by simp;intro e;subst e;exact hr h1);rw[p] at w;cases w
 exact⟨k8 l (Ext.refl _),λx=>k9 l x (Ext.refl _)⟩
theorem PresX.ordNe {F:Nat->Prop}{w:World}{vo vp vc:Value}{P:Pr}(h:PresX F w vo vp vc P) (i:Nat) (hi:i<P.powers.length) {g n cap b m c:Nat}(l:vp=.slice (some ⟨g,0,none⟩) n cap) (p:w.cell? ⟨g,i,none⟩=some (.slice (some ⟨b,0,none⟩) m c)):vo.ownBlock≠some b:=by
 obtain⟨Fo,Fp,Fc,h1,h2,h3,q,h5,h6⟩:=h;subst l;obtain⟨v,Gj,a,j,k,_⟩:=SlI.turn rdOwn h2 i hi;rw[p] at a;cases a
 exact λe=>(q b (h1.2.1 b e)).2.1 (k b (j.2.1 b rfl)).1
theorem PresX.ordNeC {F:Nat->Prop}{w:World}{vo vp vc:Value}{P:Pr}(h:PresX F w vo vp vc P) (i k:Nat) (hi:i<P.conj.length) (hk:k<(gt P.conj i).length) {g n cap e m c b u c2:Nat}(y:vc=.slice (some ⟨g,0,none⟩) n cap) (z:w.cell? ⟨g,i,none⟩=some (.slice (some ⟨e,0,none⟩) m c)) (j:w.cell? ⟨e,k,none⟩=some (.slice (some ⟨b,0,none⟩) u c2)):vo.ownBlock≠some b:=by
 obtain⟨Fo,Fp,Fc,h1,h2,A,B,h5,h6⟩:=h;subst y;obtain⟨v,Gj,q,hEl,l,_⟩:=SlI.turn (rdI rdOwn) A i hi;rw[z] at q;cases q
 obtain⟨v,Hj,r,a,p,_⟩:=SlI.turn rdOwn hEl k hk;rw[j] at r;cases r
 exact λe=>(B b (h1.2.1 b e)).2.2 (l b (p b (a.2.1 b rfl)).1).1
theorem PresX.openCIm {F:Nat->Prop}{m:World}{vo vp vc:Value}{P:Pr}{r:Nat}(h:PresX F m vo vp vc P) (i k j:Nat) (hi:i<P.conj.length) (hk:k<(gt P.conj i).length) (y:j<(gt (gt P.conj i) k).length) (hr:¬F r) :
  ∃ g cap e a b l,vc=.slice (some ⟨g,0,none⟩) P.conj.length cap/\F g/\g<m.heap.size/\m.cell? ⟨g,i,none⟩=some (.slice (some ⟨e,0,none⟩) (gt P.conj i).length a)/\F e/\e<m.heap.size /\
   m.cell? ⟨e,k,none⟩=some (.slice (some ⟨b,0,none⟩) (gt (gt P.conj i) k).length l)/\F b/\b≠g/\b≠e/\b<m.heap.size/\m.cell? ⟨b,j,none⟩=some (.int .i64 (gt (gt (gt P.conj i) k) j)) /\
   ∀p,m.grownBy p (some r)->p.frozen? ⟨b,j,none⟩=false/\∀x,PresX (λk=>F k\/p.heap.size<=k) (p.setCell ⟨b,j,none⟩ (.int .i64 x)) vo vp vc { P with conj:=P.conj.set i ((gt P.conj i).set k ((gt (gt P.conj i) k).set j x)) } :=by
 obtain⟨g,cap,e,a,b,l,rfl,h1,h2,h3,h4,h5,h6,h7,h8,h9,h10,h11,_,_⟩:=h.openCI i k j hi hk y;refine⟨g,cap,e,a,b,l,rfl,h1,h2,h3,h4,h5,h6,h7,h8,h9,h10,h11,λp q => ?_⟩;have B:=h.moved q hr;obtain⟨C,cap',e',qz,b',nO,e1,k1,k2,z,k4,k5,A,k7,k8,k9,kY,qA,nP,nQ⟩:=B.openCI i k j hi hk y;cases e1
 have u:=q.cell h3 (by simp;intro e;subst e;exact hr h1);rw[u] at z;cases z
 have w:=q.cell h6 (by simp;intro e;subst e;exact hr h4);rw[w] at A;cases A
 exact⟨nP p (Ext.refl _),λx=>nQ p x (Ext.refl _)⟩
set_option maxHeartbeats 16000000 in
theorem l07TurnL_ok (B0:Nat) (w:World) (sb:Nat) (pv:Value) (P:Pr) (F:Nat->Prop) (aS:B0<=w.heap.size) (hs:Src B0 w sb) (hp:PresV F w pv P) (hV:Valid P) :
  Calls Tryz.prog 181 #[.pointer (some ⟨sb,0,none⟩),pv] w (Mut w (some sb) (DrawR B0 sb (PresAL 7 (OrdLe P) w.heap.size))):=by
 have bW:=hs.lt;have hS:=hV.shp;obtain⟨vo,vp,vc,rfl,h3⟩:=hp;obtain⟨ao,co,ez,_,_⟩:=h3.o.shape;obtain⟨ap,cp,ad,_,_⟩:=Sl.shape h3.p;obtain⟨ac,cc,ae,_,_⟩:=Sl.shape h3.c;rw[hS.p] at ad;rw[hS.c] at ae;subst ez ad ae;obtain⟨n,hn⟩:∃n,n=P.orders.length:=⟨_,rfl⟩;rw[<-hn] at h3;rw[<-hn];have bX:n<=6:=by rw[hn];exact hS.n
 have a6:Ext w (w.alloc (.cells #[.slice ao n co,.slice ap n cp,.slice ac n cc] 28)):=World.grownBy_alloc _ _ _;have aT:(w.alloc (.cells #[.slice ao n co,.slice ap n cp,.slice ac n cc] 28)).heap.size=w.heap.size+1:=by simp
 have bx:=Box3.made w 28 (.slice ao n co) (.slice ap n cp) (.slice ac n cc);have HH:=Lib.hid (And.intro hS (And.intro hV (And.intro hn hs)));clear hS hV hn hs;go_enter Tryz.func181,Tryz.ntmps181;go_wp2_with fail
 generalize w.alloc (.cells #[.slice ao n co,.slice ap n cp,.slice ac n cc] 28)=wA at *;have az:Ext wA (wA.alloc (.cells #[.slice none 0 0,.slice none 0 0,.slice none 0 0] 28)):=World.grownBy_alloc _ _ _;have af:=Box3.made wA 28 (.slice none 0 0) (.slice none 0 0) (.slice none 0 0);have aU:=grown_trans a6 az;have bz:(wA.alloc (.cells #[.slice none 0 0,.slice none 0 0,.slice none 0 0] 28)).heap.size=w.heap.size+2:=by simp[aT]
 rw[aT] at af;generalize wA.alloc (.cells #[.slice none 0 0,.slice none 0 0,.slice none 0 0] 28)=w0 at *;have bJ:w.heap.size+2<=w0.heap.size:=by omega
 clear az a6 bx aT bz;refine Calls.mono (l07Own_ok w0 _ P F 6 ⟨_,_,_,rfl,h3.mono (frame_of aU (λk hk _=>⟨hk,by simp⟩))⟩ HH.out.1 (by omega)) ?_;rintro e1 w1 ⟨v1,rfl,hg1,qo,qp,qc,rfl,hX1⟩;obtain⟨R,i,B,l,C,q,e1,e2,e3⟩:=hX1.shape;rw[HH.out.1.p] at e2;rw[HH.out.1.c] at e3;rw[<-HH.out.2.2.1] at e1 e2 e3;subst e1 e2 e3;obtain⟨qb,aX⟩:∃qb,qb=w1.heap.size:=⟨_,rfl⟩;have ab:Ext w1 (w1.alloc (.cells #[.slice R n i,.slice B n l,.slice C n q] 28)):=World.grownBy_alloc _ _ _;have aY:=Box3.made w1 28 (.slice R n i) (.slice B n l) (.slice C n q);rw[<-aX] at aY;have bA:=hg1.size;have a8:PresX (λk=>w0.heap.size<=k/\k≠qb) (w1.alloc (.cells #[.slice R n i,.slice B n l,.slice C n q] 28)) (.slice R n i) (.slice B n l) (.slice C n q) P:=hX1.mono (λk hk aA=>⟨⟨hk,by omega⟩,Nat.lt_of_lt_of_le aA ab.size,ab.block k aA (by simp)⟩);have ag:=grown_trans hg1 ab;have a9:=Lib.hid aX;go_wp2_with fail
 rw[<-a9.out];generalize w1.alloc (.cells #[.slice R n i,.slice B n l,.slice C n q] 28)=w2 at *;have bZ:w0.heap.size<=qb:=by omega
 clear hX1 hg1 ab aX a9 bA;have a':=af.ext ag;have ah:=grown_trans aU ag;have ba:=HH.out.2.2.2.ext ah;clear af ag aU h3;-- i
 refine Calls.mono (l01Next_ok B0 w2 sb n ba) ?_;rintro e3 w3 ⟨v3,rfl,ai,x,rfl,hx0,hx1,bb⟩;have bc:=a8.moved ai (λh=>by omega);have aG:=aY.moved ai (by omega);have aH:=a'.moved ai (by omega);have aI:=grown_trans (grown_of_ext (some sb) ah) ai
 have bB:0<=x/\x<=6:=by
  by_cases h:(1:Int)<n
  ·have:=hx1 h;omega
  ·have:=hx0 (by omega);omega
 have aZ:=Lib.hid (And.intro bc bb);clear a8 aY a' ah ba ai bc bb;obtain⟨I,rfl⟩:=Int.eq_ofNat_of_zero_le bB.1;-- j
 go_wp2_with fail
 refine Calls.mono (l01Next_ok B0 w3 sb _ aZ.out.2) ?_;rintro e4 w4 ⟨v4,rfl,hg4,y,rfl,hy0,hy1,bd⟩;have be:=aZ.out.1.moved hg4 (λh=>by omega);have V:=aG.moved hg4 (by omega);have H:=aH.moved hg4 (by omega);have W:=grown_trans aI hg4
 have b7:0<=y/\y<=6:=by
  by_cases h:1<(n:Int)-1-(I:Int)
  ·have:=hy1 h;omega
  ·have:=hy0 (by omega);omega
 have aj:=Lib.hid (And.intro be bd);clear hg4 be bd aZ aG aH aI hy0 hy1 hx0 hx1;obtain⟨q0,q1,q2,q3,q4⟩:=id V;by_cases b8:(n:Int)<=(I:Int)+1+y
 ·obtain ⟨b0,b1,b2,b3,b4⟩:=id H
  have hZ:=H.all (.slice R n i) (.slice B n l) (.slice C n q);obtain⟨-,z0,z1,z2,-⟩:=id hZ;have HF:=Lib.hid W;clear hZ W H V;go_wp2_with fail
  refine bodyPost_ret (v := .agg #[.slice R n i,.slice B n l,.slice C n q]) (by simp[results,Tryz.results181,go_sem,z0,z1,z2]) rfl ?_;exact a_ret HF.out (by omega) (λk hk _=>⟨by omega,by omega⟩) aj.out.2 aS (by rw[<-HH.out.2.2.1];omega) aj.out.1.p3 (OrdLe.same rfl)
 obtain⟨J,hJ⟩:∃J:Nat,(I:Int)+1+y=J:=⟨((I:Int)+1+y).toNat,by omega⟩;have b9:I<n:=by omega
 have b':J<n:=by omega
 have bM:(I:Int)<n:=by omega
 have bN:(J:Int)<n:=by omega
 have HJ:=Lib.hid hJ;go_wp2_with fail
 refine Calls.mono (l01Next_ok B0 w4 sb 3 aj.out.2) ?_;rintro e5 w5 ⟨v5,rfl,hg5,z,rfl,_,_,bf⟩;have bg:=aj.out.1.moved hg5 (λh=>by omega);have E:=V.moved hg5 (by omega);have X:=H.moved hg5 (by omega);have Y:=grown_trans W hg5;have S:=Lib.hid (And.intro bg bf);clear hg5 bg bf aj V H W q0 q1 q2 q3 q4;have L:=HH.out.2.2.1;have aB:(gt P.powers I).length=n:=by rw[L];exact(HH.out.2.1.pv I (by omega)).1.1
 have ak:=HH.out.2.1.pl;have al:=HH.out.2.1.cl;by_cases hz:z=0
 ·have bD:(z == 0)=true:=by simp[hz]
  clear hz;obtain⟨g,capg,b,capb,ad,⟨az,ab⟩,hgl,D,⟨af,hbq⟩,hbg,hbl,am,an⟩:=S.out.1.openPIm (r:=sb) I J (by omega) (by omega) (λh=>by omega);obtain⟨rfl,rfl⟩:B=some ⟨g,0,none⟩/\l=capg:=by cases ad;exact⟨rfl,rfl⟩
  clear ad;obtain⟨bo,oo,rfl,⟨hboB,hboq⟩,hbol,U⟩:=Ints.at S.out.1.p3.o J (by omega);rw[aB] at D;have bE:bo≠b:=λe=>S.out.1.ordNe I (by omega) rfl D (by rw[<-e];rfl);generalize gt P.orders J=oj at U;generalize gt (gt P.powers I) J=bF at am;have e0:∀w',NearS w5 sb b w'->w'.cell? ⟨qb,0,none⟩=some (.slice (some ⟨bo,oo,none⟩) n i):=λw' h=>h.cell E.2.1 (by simp;omega) (by simp;omega);have e1:∀w',NearS w5 sb b w'->w'.cell? ⟨qb,1,none⟩=some (.slice (some ⟨g,0,none⟩) n l):=λw' h=>h.cell E.2.2.1 (by simp;omega) (by simp;omega);have e2:∀w',NearS w5 sb b w'->w'.cell? ⟨g,I,none⟩=some (.slice (some ⟨b,0,none⟩) n capb):=λw' h=>h.cell D (by simp;omega) (by simp;omega);have e3:∀w',NearS w5 sb b w'->w'.cell? ⟨bo,oo+J,none⟩=some (.int .i64 oj):=λw' h=>h.cell U (by simp;omega) (by simp;omega);have ar:=Lib.hid (And.intro an aB);clear an aB ak al L HJ hJ;clear D U;go_wp2_with fail
  go_region_held3 (λw'=>NearS w5 sb b w') (first|exact NearS.ext (grown_drew _ _)|exact NearS.of (by assumption)|exact NearS.two a (grown_set1 _ _ _ _)|assumption)
   (first
    | (go_at_call 111;refine Calls.mono (l01Next_ok B0 w5.drew sb oj (S.out.2.ext (grown_drew _ _))) ?_;rintro e6 Z ⟨v6,rfl,aL,u,rfl,hu0,hu1,au⟩;have a:w5.grownBy Z (some sb):=grown_trans (grown_of_ext (some sb) (grown_drew _ _)) aL;have bi:=a.cell am (by simp;omega);have bj:=(ar.out.1 Z a).1))
  have av:=(ar.out.1 Z a).2 u;have hT:=grown_set1 Z b J (.int .i64 u);have bQ:=a.size;have A:=(E.moved a (by omega)).moved hT (by omega);have G:=(X.moved a (by omega)).moved hT (by omega);have N:=grown_own (grown_trans Y a) hT (λj hj aA=>by have:=Option.some.inj hj;omega);have aM:=au.own hT (λk hk=>by have:=Option.some.inj hk;omega);clear bi bj e0 e1 e2 e3 hT E X Y hu0 hu1 au aL;have O:=Lib.hid (And.intro av (And.intro aM N));clear av aM N;generalize Z.setCell ⟨b,J,none⟩ (.int .i64 u)=w7 at *;obtain⟨q0,q1,q2,q3,q4⟩:=id A;obtain⟨b0,b1,b2,b3,b4⟩:=id G;have hZ:=G.all (.slice (some ⟨bo,oo,none⟩) n i) (.slice (some ⟨g,0,none⟩) n l) (.slice C n q);obtain⟨-,z0,z1,z2,-⟩:=id hZ;clear hZ G A;go_wp2_with fail
  refine bodyPost_ret (v := .agg #[.slice (some ⟨bo,oo,none⟩) n i,.slice (some ⟨g,0,none⟩) n l,.slice C n q]) (by simp[results,Tryz.results181,go_sem,z0,z1,z2]) rfl ?_;exact a_ret O.out.2.2 (by omega) (λk hk _=>⟨by rcases hk with hk|hk<;>omega,by rcases hk with hk|hk<;>omega⟩) O.out.2.1 aS (by show P.orders.length<=7;rw[<-HH.out.2.2.1];omega) O.out.1.p3 (OrdLe.same rfl)
 ·have bD:(z == 0)=false:=by simp[hz]
  clear hz;have bk:=Lib.hid L;clear L;have bI:=Lib.hid (And.intro ak al);clear ak al aB;go_wp2_with fail
  have L:=bk.out;obtain⟨ak,al⟩:=bI.out;refine Calls.mono (l01Next_ok B0 w5 sb _ S.out.2) ?_;rintro e6 Z ⟨v6,rfl,a,y2,rfl,hy0,hy1,au⟩;have av:=S.out.1.moved a (λh=>by omega);have A:=E.moved a (by omega);have G:=X.moved a (by omega);have N:=grown_trans Y a;have bR:(I:Int)+1<n:=by omega
  have hy2:0<=y2/\(I:Int)+1+y2<n:=by
   by_cases h:1<(n:Int)-1-(I:Int)
   ·have:=hy1 h;omega
   ·have:=hy0 (by omega);omega
  obtain⟨K,hK⟩:∃K:Nat,(I:Int)+1+y2=K:=⟨((I:Int)+1+y2).toNat,by omega⟩;obtain⟨M,hM⟩:∃M:Nat,(K:Int)-(I:Int)=(M:Int)+1:=⟨((K:Int)-(I:Int)-1).toNat,by omega⟩;have aC:IntKind.i64.wrap ((K:Int)-(I:Int))=(M:Int)+1:=by rw[hM];exact IntWalk.i64_in _ (by omega)
  have aD:IntKind.i64.wrap (M:Int)=(M:Int):=IntWalk.i64_in _ (by omega);have O:=Lib.hid (And.intro av au);clear a av au S E X Y hy0 hy1;have aE:=(HH.out.2.1.cv I (by omega)).1;have a0:=((HH.out.2.1.cv I (by omega)).2 M (by omega)).1.1;obtain⟨g,capg,e,cap1,b,capb,ae,⟨az,ab⟩,hgl,D,⟨heB,heq⟩,hel,hce,⟨af,hbq⟩,hbg,hbe,hbl,am,an⟩:=O.out.1.openCIm (r:=sb) I M J (by omega) (by rw[aE];omega) (by rw[a0];omega) (λh=>by omega);obtain⟨rfl,rfl⟩:C=some ⟨g,0,none⟩/\q=capg:=by cases ae;exact⟨rfl,rfl⟩
  clear ae;obtain⟨bo,oo,rfl,⟨hboB,hboq⟩,hbol,U⟩:=Ints.at O.out.1.p3.o J (by omega);have bE:bo≠b:=λe=>O.out.1.ordNeC I M (by omega) (by rw[aE];omega) rfl D hce (by rw[<-e];rfl);rw[aE,<-L] at D;rw[a0,<-L] at hce;obtain⟨m,hm⟩:∃m,m=n-1-I:=⟨_,rfl⟩;rw[<-hm] at D;have cb:(M:Int)<m:=by omega
  generalize gt P.orders J=oj at U;generalize gt (gt (gt P.conj I) M) J=bF at am;have e0:∀w',NearS Z sb b w'->w'.cell? ⟨qb,0,none⟩=some (.slice (some ⟨bo,oo,none⟩) n i):=λw' h=>h.cell A.2.1 (by simp;omega) (by simp;omega);have e1:∀w',NearS Z sb b w'->w'.cell? ⟨qb,2,none⟩=some (.slice (some ⟨g,0,none⟩) n q):=λw' h=>h.cell A.2.2.2.1 (by simp;omega) (by simp;omega);have e2:∀w',NearS Z sb b w'->w'.cell? ⟨g,I,none⟩=some (.slice (some ⟨e,0,none⟩) m cap1):=λw' h=>h.cell D (by simp;omega) (by simp;omega);have e3:∀w',NearS Z sb b w'->w'.cell? ⟨bo,oo+J,none⟩=some (.int .i64 oj):=λw' h=>h.cell U (by simp;omega) (by simp;omega);have e4:∀w',NearS Z sb b w'->w'.cell? ⟨e,M,none⟩=some (.slice (some ⟨b,0,none⟩) n capb):=λw' h=>h.cell hce (by simp;omega) (by simp;omega);have ar:=Lib.hid an;clear an ak al HJ hJ hm hM aE a0;clear D U hce L;have bl:=Lib.hid (And.intro aC aD);clear aC aD;go_wp2_with fail
  have aC:=bl.out.1;have aD:=bl.out.2
  go_region_held3 (λw'=>NearS Z sb b w') (first|exact NearS.ext (grown_drew _ _)|exact NearS.of (by assumption)|exact NearS.two Q (grown_set1 _ _ _ _)|assumption)
   (first
    | (go_at_call 111;refine Calls.mono (l01Next_ok B0 Z.drew sb oj (O.out.2.ext (grown_drew _ _))) ?_;rintro e7 w7 ⟨v7,rfl,aN,u,rfl,hu0,hu1,lK⟩;have Q:Z.grownBy w7 (some sb):=grown_trans (grown_of_ext (some sb) (grown_drew _ _)) aN;have bm:=Q.cell am (by simp;omega);have bn:=(ar.out w7 Q).1))
  clear aC aD;have bp:=(ar.out w7 Q).2 u;have hT:=grown_set1 w7 b J (.int .i64 u);have bU:=Q.size;have aO:=(A.moved Q (by omega)).moved hT (by omega);have ax:=(G.moved Q (by omega)).moved hT (by omega);have aQ:=grown_own (grown_trans N Q) hT (λj hj aA=>by have:=Option.some.inj hj;omega);have aR:=lK.own hT (λk hk=>by have:=Option.some.inj hk;omega);clear bm bn e0 e1 e2 e3 e4 hT A G N hu0 hu1 lK aN;have a1:=Lib.hid (And.intro bp (And.intro aR aQ));clear bp aR aQ;generalize w7.setCell ⟨b,J,none⟩ (.int .i64 u)=w8 at *;obtain⟨q0,q1,q2,q3,q4⟩:=id aO;obtain⟨b0,b1,b2,b3,b4⟩:=id ax;have hZ:=ax.all (.slice (some ⟨bo,oo,none⟩) n i) (.slice B n l) (.slice (some ⟨g,0,none⟩) n q);obtain⟨-,z0,z1,z2,-⟩:=id hZ;clear hZ ax aO;go_wp2_with fail
  refine bodyPost_ret (v := .agg #[.slice (some ⟨bo,oo,none⟩) n i,.slice B n l,.slice (some ⟨g,0,none⟩) n q]) (by simp[results,Tryz.results181,go_sem,z0,z1,z2]) rfl ?_;exact a_ret a1.out.2.2 (by omega) (λk hk _=>⟨by rcases hk with hk|hk<;>omega,by rcases hk with hk|hk<;>omega⟩) a1.out.2.1 aS (by show P.orders.length<=7;rw[<-bk.out];omega) a1.out.1.p3 (OrdLe.same rfl)
end Go.Proofs.YtldheeicjnncoaaGreat
