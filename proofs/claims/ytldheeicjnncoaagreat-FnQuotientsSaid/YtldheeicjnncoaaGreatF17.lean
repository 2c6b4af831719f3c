/- Merged from templates. -/
import Derived.Test.YtldheeicjnncoaaGreatF16
import Derived.Laws.BitsAllLaws
import Derived.Carry
import Derived.Deep.Slices
import Derived.ChangeSame
import Derived.ChangeSlices
import Derived.JoinedOf
import Derived.JoinedAt
import Derived.JoinedCond
import Derived.ReadAgain
set_option maxRecDepth 100000
set_option maxHeartbeats 8000000
namespace Go.Proofs.YtldheeicjnncoaaGreat
open Go.RowKit
attribute [local go_sem ↓] Go.wp_at_zero Go.wp_at_succ
theorem big_ok (w:World) (cv:Value) (bs:List Int) (S:Nat->Prop) (b:Bytes S w cv bs) :
  Calls Tryz.prog 11 #[cv] w λe w'=>e=.returned (.bool (decide (4096<bs.length)))/\w=w':=by
 obtain⟨a,cap,rfl,_,hlen⟩:=Sl.shape b;go_enter Tryz.func11,Tryz.ntmps11;by_cases h:4096<bs.length
 ·have hi:(4096:Int)<(bs.length:Nat):=by omega
  go_wp2;go_ret;exact⟨ret_b (by simp[h]),rfl⟩
 ·have hi:¬(4096:Int)<(bs.length:Nat):=by omega
  go_wp2;go_ret;exact⟨ret_b (by simp),rfl⟩
end Go.Proofs.YtldheeicjnncoaaGreat
namespace Go.Proofs.YtldheeicjnncoaaGreat
open Go.RowKit
theorem Ints.extA {S:Nat->Prop}{w w':World}{v:Value}{xs:List Int}(h:Ints S w v xs) (a:Ext w w'):Ints Any w' v xs:=Ints.sub (Ints.ext h a) (λ_ _ _=>trivial)
theorem Rows2.extA {S:Nat->Prop}{w w':World}{v:Value}{xs:List (List Int)}(h:Rows2 S w v xs) (a:Ext w w'):Rows2 Any w' v xs:=Rows2.sub (Rows2.ext h a) (λ_ _ _=>trivial)
theorem likeInts_ok (v1 v2:Value) (e j:List Int) (w:World) (z A:Nat->Prop) (h1:Ints z w v1 e) (u:Ints A w v2 j) :
  Calls Tryz.prog 59 #[v1,v2] w (Ret w λ_ v=>v=.bool (eqB e j)):=by
 obtain⟨a,cap,rfl,_,_⟩:=h1.shape;obtain⟨a2,cap2,rfl,_,_⟩:=u.shape;by_cases m:e.length=j.length
 ·have B:((e.length:Int) != (j.length:Int))=false:=by simp[m]
  have C:e.length<=j.length/\j.length<=e.length:=by omega
  have q:=Lib.hid m;clear m;go_enter Tryz.func59,Tryz.ntmps59;go_wp2;go_loopw [5] (λi wr=>∃k:Nat,i=.int .i64 k/\k<=e.length/\Ext w wr/\∀i,i<k->gt e i=gt j i) (λi _=>e.length-(intOf i).toNat)
  case atStart=>exact⟨0,rfl,by omega,Ext.refl _,λi hi=>by omega⟩
  case round=>
   obtain⟨k,rfl,hk,p,hz⟩:=hrel;have y:=Lib.hid hz;clear hz;by_cases r:k<e.length
   ·obtain ⟨b,off,rfl,_,_,hc⟩:=Ints.at (h1.ext p) k r
    obtain⟨b2,off2,rfl,_,_,hc2⟩:=Ints.at (u.ext p) k (by omega);by_cases hx:gt e k=gt j k
    ·have D:(gt e k != gt j k)=false:=by simp[hx]
     have l:=Lib.hid hx;clear hx;go_wp2;go_quiet (fail)
     go_wp2;go_roundw
     case rel=>exact⟨k+1,by go_num,by omega,grown_trans p (grown_drewN _ _ _),λi hi=>by
      rcases Nat.lt_or_ge i k with h1|h1
      ·exact y.out i h1
      ·have:i=k:=by omega
       rw[this,l.out]⟩
     case measure=>simp[intOf];omega
    ·have D:(gt e k != gt j k)=true:=by simp[hx]
     have l:=Lib.hid hx;clear hx;go_wp2;go_quiet (fail)
     go_wp2;go_ret;exact ret_bool (grown_trans p (grown_drewN _ _ _)) (by rw[eqB_false_at (hx:=l.out)])
   ·go_wp2
    go_ret;exact ret_bool p (by rw[eqB_true.2 (ext_gt q.out (λi hi=>y.out i (by omega)))])
 ·have B:((e.length:Int) != (j.length:Int))=true:=by simp;omega
  have q:=Lib.hid m;clear m;go_enter Tryz.func59,Tryz.ntmps59;go_wp2;go_ret;exact ret_bool (Ext.refl _) (by rw[eqB_false.2 (λh=>q.out (by rw[h]))])
theorem like29_ok (v1 v2:Value) (j l:List (List Int)) (w:World) (G H:Nat->Prop) (h1:Rows2 G w v1 j) (B:Rows2 H w v2 l) :
  Calls Tryz.prog 27 #[v1,v2] w (Ret w λ_ v=>v=.bool (eqB j l)):=by
 obtain⟨a,cap,rfl,_,_⟩:=Sl.shape h1;obtain⟨a2,cap2,rfl,_,_⟩:=Sl.shape B;by_cases q:j.length=l.length
 ·have I:((j.length:Int) != (l.length:Int))=false:=by simp[q]
  have J:j.length<=l.length/\l.length<=j.length:=by omega
  have z:=Lib.hid q;clear q;go_enter Tryz.func27,Tryz.ntmps27;go_wp2;go_loopw [5] (λi wr=>∃k:Nat,i=.int .i64 k/\k<=j.length/\Ext w wr/\∀i,i<k->gt j i=gt l i) (λi _=>j.length-(intOf i).toNat)
  case atStart=>exact⟨0,rfl,by omega,Ext.refl _,λi hi=>by omega⟩
  case round=>
   obtain⟨k,rfl,hk,r,hz⟩:=hrel;have C:=Lib.hid hz;clear hz;by_cases A:k<j.length
   ·obtain ⟨b,off,x1,c1,rfl,_,_,hc,u⟩:=Rows2.at (Rows2.ext h1 r) k A
    obtain⟨b2,off2,x2,c2,rfl,_,_,hc2,y⟩:=Rows2.at (Rows2.ext B r) k (by omega);have D:∀w',Ext wr w'->w'.cell? ⟨b,off+k,none⟩=some (.slice x1 (gt j k).length c1):=λw' h=>h.cell hc (by simp);have E:∀w',Ext wr w'->w'.cell? ⟨b2,off2+k,none⟩=some (.slice x2 (gt l k).length c2):=λw' h=>h.cell hc2 (by simp);clear hc hc2;have F:k<l.length:=by omega
    go_wp2;cases hx:eqB (gt j k) (gt l k) with
    | true=>
     have m:=Lib.hid hx
     go_region_held3 (λw'=>Ext wr w') (first|exact grown_drew _ _|assumption)
      (first
       | (go_at_call 59;refine Calls.mono (Calls.rel (w0:=wr) (by assumption) (likeInts_ok _ _ _ _ _ Any Any ((Ints.extA u (by assumption))) (Ints.extA y (by assumption)))) ?_;rintro K L ⟨M,rfl,p,hsA,rfl⟩))
     clear D E;go_wp2;go_roundw
     case rel=>exact⟨k+1,by go_num,by omega,grown_trans r p,λi hi=>by
      rcases Nat.lt_or_ge i k with h1|h1
      ·exact C.out i h1
      ·have:i=k:=by omega
       rw[this];exact eqB_true.1 m.out⟩
     case measure=>simp[intOf];omega
    | false=>
     have m:=Lib.hid hx
     go_region_held3 (λw'=>Ext wr w') (first|exact grown_drew _ _|assumption)
      (first
       | (go_at_call 59;refine Calls.mono (Calls.rel (w0:=wr) (by assumption) (likeInts_ok _ _ _ _ _ Any Any (Ints.extA u (by assumption)) (Ints.extA y (by assumption)))) ?_;rintro K L ⟨M,rfl,p,hsA,rfl⟩))
     clear D E;go_wp2;go_ret;exact ret_bool (grown_trans r p) (by rw[eqB_false_at (hx:=eqB_false.1 m.out)])
   ·go_wp2
    go_ret;exact ret_bool r (by rw[eqB_true.2 (ext_gt z.out (λi hi=>C.out i (by omega)))])
 ·have I:((j.length:Int) != (l.length:Int))=true:=by simp;omega
  have z:=Lib.hid q;clear q;go_enter Tryz.func27,Tryz.ntmps27;go_wp2;go_ret;exact ret_bool (Ext.refl _) (by rw[eqB_false.2 (λe=>z.out (by rw[e]))])
theorem like39_ok (v1 v2:Value) (j l:List (List (List Int))) (w:World) (G H:Nat->Prop) (h1:Rows3 G w v1 j) (B:Rows3 H w v2 l) :
  Calls Tryz.prog 35 #[v1,v2] w (Ret w λ_ v=>v=.bool (eqB j l)):=by
 obtain⟨a,cap,rfl,_,_⟩:=Sl.shape h1;obtain⟨a2,cap2,rfl,_,_⟩:=Sl.shape B;by_cases q:j.length=l.length
 ·have I:((j.length:Int) != (l.length:Int))=false:=by simp[q]
  have J:j.length<=l.length/\l.length<=j.length:=by omega
  have z:=Lib.hid q;clear q;go_enter Tryz.func35,Tryz.ntmps35;go_wp2;go_loopw [5] (λi wr=>∃k:Nat,i=.int .i64 k/\k<=j.length/\Ext w wr/\∀i,i<k->gt j i=gt l i) (λi _=>j.length-(intOf i).toNat)
  case atStart=>exact⟨0,rfl,by omega,Ext.refl _,λi hi=>by omega⟩
  case round=>
   obtain⟨k,rfl,hk,r,hz⟩:=hrel;have C:=Lib.hid hz;clear hz;by_cases A:k<j.length
   ·obtain ⟨b,off,x1,c1,rfl,_,_,hc,u⟩:=Rows3.at (Rows3.ext h1 r) k A
    obtain⟨b2,off2,x2,c2,rfl,_,_,hc2,y⟩:=Rows3.at (Rows3.ext B r) k (by omega);have D:∀w',Ext wr w'->w'.cell? ⟨b,off+k,none⟩=some (.slice x1 (gt j k).length c1):=λw' h=>h.cell hc (by simp);have E:∀w',Ext wr w'->w'.cell? ⟨b2,off2+k,none⟩=some (.slice x2 (gt l k).length c2):=λw' h=>h.cell hc2 (by simp);clear hc hc2;have F:k<l.length:=by omega
    go_wp2;cases hx:eqB (gt j k) (gt l k) with
    | true=>
     have m:=Lib.hid hx
     go_region_held3 (λw'=>Ext wr w') (first|exact grown_drew _ _|assumption)
      (first
       | (go_at_call 27;refine Calls.mono (Calls.rel (w0:=wr) (by assumption) (like29_ok _ _ _ _ _ Any Any ((Rows2.extA u (by assumption))) (Rows2.extA y (by assumption)))) ?_;rintro K L ⟨M,rfl,p,hsA,rfl⟩))
     clear D E;go_wp2;go_roundw
     case rel=>exact⟨k+1,by go_num,by omega,grown_trans r p,λi hi=>by
      rcases Nat.lt_or_ge i k with h1|h1
      ·exact C.out i h1
      ·have:i=k:=by omega
       rw[this];exact eqB_true.1 m.out⟩
     case measure=>simp[intOf];omega
    | false=>
     have m:=Lib.hid hx
     go_region_held3 (λw'=>Ext wr w') (first|exact grown_drew _ _|assumption)
      (first
       | (go_at_call 27;refine Calls.mono (Calls.rel (w0:=wr) (by assumption) (like29_ok _ _ _ _ _ Any Any (Rows2.extA u (by assumption)) (Rows2.extA y (by assumption)))) ?_;rintro K L ⟨M,rfl,p,hsA,rfl⟩))
     clear D E;go_wp2;go_ret;exact ret_bool (grown_trans r p) (by rw[eqB_false_at (hx:=eqB_false.1 m.out)])
   ·go_wp2
    go_ret;exact ret_bool r (by rw[eqB_true.2 (ext_gt z.out (λi hi=>C.out i (by omega)))])
 ·have I:((j.length:Int) != (l.length:Int))=true:=by simp;omega
  have z:=Lib.hid q;clear q;go_enter Tryz.func35,Tryz.ntmps35;go_wp2;go_ret;exact ret_bool (Ext.refl _) (by rw[eqB_false.2 (λe=>z.out (by rw[e]))])
theorem likeP9_ok (v1 v2:Value) (P:Pr) (w:World) (l m:Nat->Prop) (h1:PresV l w v1 P) (A:PresV m w v2 P) :
  Calls Tryz.prog 15 #[v1,v2] w (Ret w λ_ v=>v=.bool true):=by
 obtain⟨vo,vp,vc,rfl,y⟩:=h1;obtain⟨q,up,uc,rfl,z⟩:=A;have i:Ext w ((w.alloc (.cells #[vo,vp,vc] 28)).alloc (.cells #[q,up,uc] 28)):=grown_trans (World.grownBy_alloc _ _ _) (World.grownBy_alloc _ _ _);have k:(w.alloc (.cells #[vo,vp,vc] 28)).heap.size=w.heap.size+1:=by simp
 have b1:=(Box3.made w 28 vo vp vc).ext (World.grownBy_alloc _ (.cells #[q,up,uc] 28) none);have b2:=Box3.made (w.alloc (.cells #[vo,vp,vc] 28)) 28 q up uc;rw[k] at b2;have r:=Lib.hid (And.intro b1 b2);clear b1 b2 k;go_enter Tryz.func15,Tryz.ntmps15;go_wp2_with fail
 generalize (w.alloc (.cells #[vo,vp,vc] 28)).alloc (.cells #[q,up,uc] 28)=w0 at *;refine Calls.mono (likeInts_ok _ _ _ _ _ l m (y.o.ext i) (z.o.ext i)) ?_;rintro B C ⟨D,rfl,a,rfl⟩;have b:=grown_trans i a;obtain⟨_,a0,a1,a2,_⟩:=r.out.1.ext a;obtain⟨_,c0,c1,c2,_⟩:=r.out.2.ext a;have u:eqB P.orders P.orders=true:=eqB_true.2 rfl;go_wp2_with fail
 clear a0 a1 a2 c0 c1 c2 u;refine Calls.mono (like29_ok _ _ _ _ _ l m (Rows2.ext y.p b) (Rows2.ext z.p b)) ?_;rintro E F ⟨G,rfl,j,rfl⟩;have e:=grown_trans b j;obtain⟨_,a0,a1,a2,_⟩:=r.out.1.ext (grown_trans a j);obtain⟨_,c0,c1,c2,_⟩:=r.out.2.ext (grown_trans a j);have u:eqB P.powers P.powers=true:=eqB_true.2 rfl;go_wp2_with fail
 clear a0 a1 a2 c0 c1 c2 u;refine Calls.mono (like39_ok _ _ _ _ _ l m (Rows3.ext y.c e) (Rows3.ext z.c e)) ?_;rintro H I ⟨J,rfl,gm,rfl⟩;have u:eqB P.conj P.conj=true:=eqB_true.2 rfl;go_wp2;go_ret;exact⟨_,rfl,grown_trans e gm,rfl⟩
end Go.Proofs.YtldheeicjnncoaaGreat
namespace Go.Proofs.YtldheeicjnncoaaGreat
open Go.RowKit
attribute [local go_sem ↓] Go.wp_at_zero Go.wp_at_succ
theorem iQuoP_ok (P:Pr) (hr:rconsB P=true) (w:World) (pv M:Value) (U:List (List Int)) (Q D:Nat->Prop) (E:PresV Q w pv P) (F:Rows2 D w M U) (hU:SubB P U) (hn:NormG P (gU P U) U) :
  Calls Tryz.prog 22 #[pv,M] w (Ret w (PC (quoP P U) 0)):=by
 have m:cpnC P U=0:=cpn_ok ⟨hr,hU⟩ (by rw[<-hU.2];exact hn);obtain⟨vo,vp,vc,rfl,R⟩:=E;have q:=(PresP.box R 28).ext (World.grownBy_alloc _ (.cells #[.slice none 0 0,.slice none 0 0,.slice none 0 0] 28) none);have l:Ext w ((w.alloc (.cells #[vo,vp,vc] 28)).alloc (.cells #[.slice none 0 0,.slice none 0 0,.slice none 0 0] 28)):=grown_trans (World.grownBy_alloc _ _ _) (World.grownBy_alloc _ _ _);have G:=Box3.made (w.alloc (.cells #[vo,vp,vc] 28)) 28 (.slice none 0 0) (.slice none 0 0) (.slice none 0 0);have r:(w.alloc (.cells #[vo,vp,vc] 28)).heap.size=w.heap.size+1:=by simp
 have S:((w.alloc (.cells #[vo,vp,vc] 28)).alloc (.cells #[.slice none 0 0,.slice none 0 0,.slice none 0 0] 28)).heap.size=w.heap.size+2:=by simp
 rw[r] at G;have H:=Lib.hid G;clear G r;have u:=Lib.hid (And.intro m hU);clear m hU hn;obtain⟨Z,capu,rfl,_,_⟩:=Sl.shape F;go_enter Tryz.func22,Tryz.ntmps22;go_wp2_with fail
 generalize ((w.alloc (.cells #[vo,vp,vc] 28)).alloc (.cells #[.slice none 0 0,.slice none 0 0,.slice none 0 0] 28))=w0 at *;refine Calls.mono (normalCode_ok P w0 _ _ U Any D q (Rows2.ext F l)) ?_;rintro e1 I ⟨v1,rfl,b,rfl⟩;rw[u.out.1];go_wp2_with fail
 refine Calls.mono (quoPres_ok P hr I _ _ U Any D (q.ext b) (Rows2.ext F (grown_trans l b)) u.out.2) ?_;rintro e9 J ⟨v9,rfl,K,x9,y9,z9,rfl,jX⟩;obtain⟨a1,y,c1,hy1⟩:∃a n c,x9=.slice a n c:=by obtain⟨a,c,e,_⟩:=jX.p3.o.shape;exact⟨_,_,_,e⟩
 obtain⟨a2,z,c2,hy2⟩:∃a n c,y9=.slice a n c:=by obtain⟨a,c,e,_⟩:=Sl.shape jX.p3.p;exact⟨_,_,_,e⟩
 obtain⟨A,B,c3,fV⟩:∃a n c,z9=.slice a n c:=by obtain⟨a,c,e,_⟩:=Sl.shape jX.p3.c;exact⟨_,_,_,e⟩
 subst hy1 hy2 fV;have C:Ext w0 J:=grown_trans (b) K;have V:w0.heap.size<=I.heap.size:=(b).size;have N:=H.out.ext (C);obtain⟨k0,k1,k2,k3,k4⟩:=id N;have O:=N.all (.slice a1 y c1) (.slice a2 z c2) (.slice A B c3);have L:=grown_set3 J (w.heap.size+1) (.slice a1 y c1) (.slice a2 z c2) (.slice A B c3);obtain⟨_,z0,z1,z2,_⟩:=id O
 have i:Ret w (PC (quoP P U) 0) (.returned (.tuple #[.agg #[.slice a1 y c1,.slice a2 z c2,.slice A B c3],.int .i64 0])) (((J.setCell ⟨w.heap.size+1,0,none⟩ (.slice a1 y c1)).setCell ⟨w.heap.size+1,1,none⟩ (.slice a2 z c2)).setCell ⟨w.heap.size+1,2,none⟩ (.slice A B c3)):=
  ⟨_,rfl,grown_own (grown_trans l (C)) L (λj W X=>by cases W;omega),_,_,_,_,_,_,_,_,_,rfl,jX.p3.mono (frame_of L (λk hk _=>⟨trivial,λe=>by have:=Option.some.inj e;have hk:I.heap.size<=k:=hk;omega⟩))⟩
 have Y:=Lib.hid i;clear i L O;go_wp2;refine bodyPost_ret (v := .tuple #[.agg #[.slice a1 y c1,.slice a2 z c2,.slice A B c3],.int .i64 0]) (by simp[results,Tryz.results22,go_sem,z0,z1,z2]) rfl ?_;exact Y.out
end Go.Proofs.YtldheeicjnncoaaGreat
namespace Go.Proofs.YtldheeicjnncoaaGreat
open Go.RowKit
theorem isSubset_ok (P:Pr) (G:Grp P) (w:World) (p D E:Value) (U:List (List Int)) (H:List Int->Prop) (F I J:Nat->Prop) (S:Sub P H) (K:PresP F w p P) (L:Rows2 I w D U) (M:Rows2 J w E (cseq P H)) (hU:∀x∈U,Vec P.orders x) :
  Calls Tryz.prog 106 #[p,D,E] w (Ret w λ_ v=>∃r:Bool,v=.bool r/\(r=true↔∀x∈U,H x)):=by
 obtain⟨pb,po,rfl⟩:=K.shape;obtain⟨W,capu,rfl,_,hul⟩:=Sl.shape L;obtain⟨X,capv,j,_,_⟩:=Sl.shape M;obtain⟨N,a⟩:∃N,N=(cseq P H).length:=⟨_,rfl⟩;rw[<-a] at j;subst j;have R:=Lib.hid hU;clear hU;have Y:=Lib.hid a;clear a;go_enter Tryz.func106,Tryz.ntmps106;go_wp2;go_loopw [8,11] (λ_ u wr=>∃(i:Nat),u=.int .i64 i/\i<=U.length/\Ext w wr/\Hid (∀k,k<i->H (gt U k))) (λ_ u _=>U.length-(intOf u).toNat)
 case atStart=>exact⟨0,rfl,by omega,grown_refl _ _,Lib.hid (λk hk=>by omega)⟩
 case round=>
  obtain⟨i,rfl,hi,hg,hH⟩:=hrel;by_cases e:i<U.length
  ·obtain ⟨b,off,ax,capx,rfl,j7,hbl,hcb,lS⟩:=Rows2.at L i e
   have z:=hg.cell hcb (by simp);have l:=Ints.ext lS hg;have A:=K.ext hg;have B:=Rows2.ext M hg;have q:Vec P.orders (gt U i):=R.out _ (gt_mem e);have C:(i:Int)<(U.length:Nat):=by omega
   clear hcb lS;obtain⟨x,hx⟩:∃x,x=gt U i:=⟨_,rfl⟩;rw[<-hx] at z l q;have O:=Lib.hid hx;clear hx;go_wp2_with fail
   refine Calls.mono (isMember_ok P G wr _ _ _ H x F J I S A B l q) ?_;rintro Z w1 ⟨v1,rfl,hg1,r,rfl,hr⟩;have Q:=Lib.hid hr;clear hr;cases r with
   | true=>
    go_wp2;go_roundw
    case rel=>exact⟨i+1,by go_num,by omega,grown_trans hg hg1,Lib.hid (λk hk=>by
     rcases Nat.lt_or_ge k i with h|h
     ·exact hH.out k h
     ·have:k=i:=by omega
      subst this;rw[<-O.out];have:=Q.out;simpa using this)⟩
    case measure=>simp[intOf];omega
   | false=>
    go_wp2;go_ret
    exact ⟨_,rfl,grown_trans hg hg1,false,rfl,by
     constructor
     ·intro h;cases h
     ·intro h
      have:=Q.out.2 (by rw[O.out];exact h _ (gt_mem e));cases this⟩
  ·have V:i=U.length:=by omega
   have C:¬(i:Int)<(U.length:Nat):=by omega
   go_wp2;go_ret
   exact ⟨_,rfl,hg,.inr ⟨rfl,λy hy=>by
    obtain⟨m,hm,rfl⟩:=mem_gt hy;exact hH.out m (by omega)⟩⟩
theorem iSubset_ok (P:Pr) (hr:rconsB P=true) (w:World) (pv M N:Value) (U V:List (List Int)) (Z O C:Nat->Prop) (D:PresV Z w pv P) (l:Rows2 O w M U) (E:Rows2 C w N V) (hU:SubB P U) (hV:SubB P V) :
  Calls Tryz.prog 30 #[pv,M,N] w (Ret w λ_ v=>∃r:Bool,v=.tuple #[.bool r,.int .i64 0]/\(r=true↔∀x∈U,gU P V x)):=by
 have G:=grp_of_r hr;have aa:=G.v.n6;obtain⟨vo,vp,vc,rfl,h3⟩:=D;have m:=PresP.box h3 28;have i:Ext w (w.alloc (.cells #[vo,vp,vc] 28)):=World.grownBy_alloc _ _ _;have j:(w.alloc (.cells #[vo,vp,vc] 28)).heap.size=w.heap.size+1:=by simp
 have p:=Rows2.ext l i;have q:=Rows2.ext E i;obtain⟨au,y,rfl,_,_⟩:=Sl.shape l;obtain⟨Q,e,rfl,_,_⟩:=Sl.shape E;have k:Ext (w.alloc (.cells #[vo,vp,vc] 28)) ((w.alloc (.cells #[vo,vp,vc] 28)).alloc (.cells #[.slice au U.length y,.slice Q V.length e] 25)):=World.grownBy_alloc _ _ _;have R:=rows3Two p q;have b:=areSubgroups_ok P _ _ _ [U,V] Any Any (m.ext k) R;rw[j] at b;clear R l E;have S:U.length<=P.orders.length:=G.sub_len hU;have W:V.length<=P.orders.length:=G.sub_len hV;have B:=Lib.hid (And.intro hr (And.intro hU ( And.intro hV ((trivial:True)))));clear hr hU hV;go_enter Tryz.func30,Tryz.ntmps30;go_wp2_with fail
 refine Calls.mono b ?_;rintro e1 X ⟨v1,rfl,eu,r1,rfl,hr1⟩;clear b;obtain rfl:r1=true:=hr1.2 (by have:=B.out;simp only[List.mem_cons,List.mem_nil_iff,or_false];exact⟨this.1,λu l=>by rcases l with rfl|rfl;exact this.2.1;exact this.2.2.1⟩);clear hr1;have a:=grown_trans k eu;have HS:=Lib.hid j;clear j;generalize F:(w.alloc (.cells #[vo,vp,vc] 28))=w0 at *;clear F k eu;have H:=m.ext a;have I:=Rows2.ext p a;have J:=Rows2.ext q a;have z:Rows2 C X (.slice Q V.length e) (cseq P (gU P V)):=by rw[<-B.out.2.2.1.2];exact J
 have A:=isSubset_ok P G X _ _ _ U (gU P V) Any O C (G.subB B.out.2.2.1) H I z B.out.2.1.1;have Y:=Lib.hid A;clear A z;go_wp2_with fail
 refine Calls.mono Y.out ?_;rintro e2 w2 ⟨v2,rfl,K,r,rfl,iN⟩;have L:=Lib.hid iN;clear iN Y;go_wp2;go_ret2
 exact⟨_,rfl,grown_trans i (grown_trans a K),r,rfl,L.out⟩
theorem iIsHom_ok (P Q:Pr) (Is:List (List Int)) (w:World) (b:Value) (e:Nat->Prop) (i:HomV e w b P Q Is) :
  Calls Tryz.prog 52 #[b] w (Ret w λ_ v=>∃r:Bool,v=.bool r/\(r=true↔HomB P Q Is)):=by
 obtain⟨vo,vp,vc,uo,up,uc,vi,rfl,h1,h2,h3⟩:=i;have hB:=HomP.box h1 h2 h3 62;have a:Ext w (w.alloc (.cells #[vo,vp,vc,uo,up,uc,vi] 62)):=World.grownBy_alloc _ _ _;go_enter Tryz.func52,Tryz.ntmps52;go_wp2_with fail
 refine Calls.mono (isHom_ok P Q Is _ w.heap.size hB) ?_;rintro k l ⟨v1,rfl,hg1,r,rfl,hr⟩;have j:=Lib.hid hr;clear hr;go_wp2;go_ret;exact⟨_,rfl,grown_trans a hg1,r,rfl,j.out⟩
theorem iApply_ok (P Q:Pr) (Is:List (List Int)) (w:World) (F G:Value) (X:List Int) (I B:Nat->Prop) (J:HomV I w F P Q Is) (hH:HomB P Q Is) (hx:Ints B w G X) (C:Vec P.orders X) :
  Calls Tryz.prog 57 #[F,G] w (Ret w λw' v=>∃a n c,v=.tuple #[.slice a n c,.int .i64 0]/\Own w.heap.size w' (.slice a n c) (homV Q Is X)):=by
 obtain⟨vo,vp,vc,uo,up,uc,vi,rfl,h1,h2,h3⟩:=J;have D:=grp_of_r hH.1;have GQ:=grp_of_r hH.2.1;have K:=D.v.n6;have L:=GQ.v.n6;have hB:=HomP.box h1 h2 h3 62;have p:Ext w (w.alloc (.cells #[vo,vp,vc,uo,up,uc,vi] 62)):=World.grownBy_alloc _ _ _;have q:=Ints.ext hx p;obtain⟨O,capx,rfl,_,_⟩:=hx.shape;have u:Vec Q.orders (homV Q Is X):=(homF_of hH).vec X C;have y:=u.1;have e:=Lib.hid (And.intro hH (And.intro C y));clear hH C y u hx h1 h2 h3;go_enter Tryz.func57,Tryz.ntmps57;go_wp2_with fail
 refine Calls.mono (isHom_ok P Q Is _ w.heap.size hB) ?_;rintro R E ⟨v1,rfl,hg1,r,rfl,hr⟩;obtain rfl:r=true:=hr.2 e.out.1;clear hr;have z:=hB.ext hg1;have j:=Ints.ext q hg1;have b:=grown_trans p hg1;clear hB hg1 q;have hex:=isExponents_ok E _ _ P X Any B z.1 j (λi hi=>by have:=D.v.ord7 i hi;omega);rw[expB_vec.2 e.out.2.1] at hex;go_wp2_with fail
 refine Calls.mono hex ?_;rintro _ _ ⟨rfl,rfl⟩;clear hex;have k:=e.out.1.2.2.1;have l:=e.out.2.1.1;have m:=applyHom_ok P Q GQ Is E w.heap.size z e.out.1.2.2.2.1 _ X B j (by omega) (by omega) (λi hi=>by have:=e.out.2.1.2 i (by omega);have:=D.v.ord7 i (by omega);omega);rw[show X.length=Is.length by omega] at m;have H:=Lib.hid m;clear m;rw[l,<-k];rw[l,<-k] at j;clear k l;go_wp2_with fail
 refine Calls.mono H.out ?_;rintro S M ⟨v2,rfl,hg2,hO⟩;have hO:Own E.heap.size M v2 (homV Q Is X):=hO;obtain⟨U,capz,fR,_,_⟩:=(hO.ints (by have:=e.out.2.2;omega)).shape;subst fR;have A:=hO.weak b.size;have N:=Lib.hid A;clear hO A H;go_wp2;go_ret2
 exact⟨_,rfl,grown_trans b hg2,_,_,_,rfl,N.out⟩
theorem iImg_ok (P Q:Pr) (Is:List (List Int)) (w:World) (l:Value) (m:Nat->Prop) (p:HomV m w l P Q Is) (hH:HomB P Q Is) :
  Calls Tryz.prog 54 #[l] w (Ret w λw' v=>∃a n c,v=.tuple #[.slice a n c,.int .i64 0]/\RowsO w.heap.size w' (.slice a n c) (cseq Q (gU Q Is))):=by
 obtain⟨vo,vp,vc,uo,up,uc,vi,rfl,h1,h2,h3⟩:=p;have q:=grp_of_r hH.1;have GQ:=grp_of_r hH.2.1;have u:=q.v.n6;have y:=GQ.v.n6;have hB:=HomP.box h1 h2 h3 62;have j:Ext w (w.alloc (.cells #[vo,vp,vc,uo,up,uc,vi] 62)):=World.grownBy_alloc _ _ _;have e:(cseq Q (gU Q Is)).length<=Q.orders.length:=GQ.cseq_len (GQ.genP_sub hH.2.2.2.1);have i:=Lib.hid (And.intro hH e);clear hH e h1 h2 h3;go_enter Tryz.func54,Tryz.ntmps54;go_wp2_with fail
 refine Calls.mono (isHom_ok P Q Is _ w.heap.size hB) ?_;rintro C z ⟨v1,rfl,hg1,r,rfl,hr⟩;obtain rfl:r=true:=hr.2 i.out.1;clear hr;have k:=hB.ext hg1;have b:=grown_trans j hg1;clear hB hg1;obtain⟨D,A,ai,ci,fk,iN⟩:=id k;have B:=Lib.hid iN;clear iN;go_wp2_with fail
 refine Calls.mono (generated_ok Q GQ z _ _ Is Any Any A B.out i.out.1.2.2.2.1 (by rw[i.out.1.2.2.1];omega)) ?_;rintro E F ⟨v2,rfl,hg2,hO⟩
 obtain ⟨G,nd,lT,jB⟩:∃a n c,v2=.slice a n c:=by
  obtain⟨a,c,h⟩:=RowsO.shapeC hO (by show(cseq Q (gU Q Is)).length<=_;have:=i.out.2;omega);exact⟨a,_,c,h⟩
 subst jB;go_wp2;go_ret2
 exact⟨_,rfl,grown_trans b hg2,_,_,_,rfl,hO.weak b.size⟩
def Dice (B:Nat) (w:World) (a:Nat):Prop:=∃(cv:Value) (i:Nat) (h:Int) (bs:List Int),Box3 w a cv (.int .i64 i) (.int .u64 h)/\Bytes (λk=>k≠a/\k<B) w cv bs/\i<=bs.length/\bs.length<=4096/\a<B/\0<=h/\h<18446744073709551616
theorem Dice.keep {B:Nat}{w w':World}{b:Nat}(h:Dice B w b) (e:w.heap.size<=w'.heap.size) (j:∀k,k<B->k<w.heap.size->w'.heap[k]? = w.heap[k]?):Dice B w' b:=by
 obtain⟨cv,i,x,bs,h1,h2,h3,h4,l,h6⟩:=h;exact⟨cv,i,x,bs,h1.keep e (j b l h1.1),Sl.mono h2 (λk hk a=>⟨hk,Nat.lt_of_lt_of_le a e,j k hk.2 a⟩) (λ_ _ h=>h),h3,h4,l,h6⟩
theorem Dice.ext {B:Nat}{w w':World}{b:Nat}(h:Dice B w b) (e:Ext w w'):Dice B w' b:=h.keep e.size (λk _ a=>e.block k a (by simp))
theorem Dice.own {B:Nat}{w w':World}{b:Nat}{r:Option Nat}(h:Dice B w b) (i:w.grownBy w' r) (hr:∀k,r=some k->B<=k):Dice B w' b:=
 h.keep i.size (λk hk a=>i.block k a (λe=>by have:=hr k e.symm;omega))
theorem Dice.lt {B:Nat}{w:World}{a:Nat}(h:Dice B w a):a<B/\a<w.heap.size:=by
 obtain⟨cv,i,x,bs,h1,h2,h3,h4,h5,h6⟩:=h;exact⟨h5,h1.1⟩
theorem u64_bd (z:Int):0<=IntKind.u64.wrap z/\IntKind.u64.wrap z<18446744073709551616:=by
 have h:IntKind.u64.wrap z=z%18446744073709551616:=by simp[IntKind.wrap,IntKind.signed,IntKind.bits]
 rw[h];exact⟨Int.emod_nonneg _ (by decide),Int.emod_lt_of_pos _ (by decide)⟩
theorem roll_ok (w:World) (cv:Value) (bs:List Int) (S:Nat->Prop) (e:Int) (N:bs.length<=4096) (C:Bytes S w cv bs) :
  Calls Tryz.prog 55 #[cv,.int .u64 e] w (Ret w λw' v=>∃M,v=.pointer (some ⟨M,0,none⟩)/\w.heap.size<=M/\Dice (M+1) w' M):=by
 obtain⟨a,cap,rfl,_,hlen⟩:=Sl.shape C;obtain⟨B,p⟩:∃B,B=IntKind.u64.wrap (IntKind.u64.wrap (e*7607)+(bs.length:Nat)):=⟨_,rfl⟩;have u:=u64_bd (IntKind.u64.wrap (e*7607)+(bs.length:Nat));rw[<-p] at u;have D:=Box3.made w 146 (.slice a bs.length cap) (.int .i64 0) (.int .u64 B);have E:Ext w (w.alloc (.cells #[.slice a bs.length cap,.int .i64 0,.int .u64 B] 146)):=World.grownBy_alloc _ _ _;go_enter Tryz.func55,Tryz.ntmps55;go_wp2_with fail
 rw[<-p];have Y:=Lib.hid p;clear p;generalize w.alloc (.cells #[.slice a bs.length cap,.int .i64 0,.int .u64 B] 146)=w0 at *;go_loopw [6] (λO wr=>∃(i:Nat) (h:Int),O=.int .i64 i/\i<=bs.length/\(0<=h/\h<18446744073709551616)/\Ext w wr/\Box3 wr w.heap.size (.slice a bs.length cap) (.int .i64 0) (.int .u64 h)) (λO _=>bs.length-(intOf O).toNat)
 case atStart=>exact⟨0,B,rfl,by omega,u,E,D⟩
 case round=>
  clear D E u;obtain⟨i,h,rfl,hi,nX,F,hB⟩:=hrel;by_cases l:i<bs.length
  ·obtain ⟨b,off,rfl,j7,nY,y,Q,R⟩:=Bytes.at C i l
   have z:=F.cell y (by simp);generalize gt bs i=x at y z Q R;have U:(i:Int)<(bs.length:Nat):=by omega
   obtain⟨q,A⟩:∃q,q=IntKind.u64.wrap (IntKind.u64.wrap (IntKind.u64.wrap (h*1099511628211)+x)+5):=⟨_,rfl⟩;have m:=u64_bd (IntKind.u64.wrap (IntKind.u64.wrap (h*1099511628211)+x)+5);rw[<-A] at m;have G:=(hB.put (.int .u64 q)).2.2;have H:=grown_set wr w.heap.size 2 (.int .u64 q);have I:Ext w (wr.setCell ⟨w.heap.size,2,none⟩ (.int .u64 q)):=grown_own F H (λj W l=>by have:=Option.some.inj W;omega);have J:=G.ext (grown_drew (wr.setCell ⟨w.heap.size,2,none⟩ (.int .u64 q)) none);have K:=grown_trans I (grown_drew (wr.setCell ⟨w.heap.size,2,none⟩ (.int .u64 q)) none);have X:IntKind.u64.wrap x=x:=IntWalk.u64_in _ (by omega);obtain⟨L,h1,h2,h3,h4⟩:=id hB;have c0:wr.drew.cell? ⟨w.heap.size,2,none⟩=some (.int .u64 h):=h3;have c1:wr.drew.cell? ⟨b,off+i,none⟩=some (.int .u8 x):=z;have c2:w.heap.size<wr.drew.heap.size:=L;have c3:=h4;have V:=A.symm;have r:=Lib.hid (And.intro K (And.intro J (And.intro m C)));clear K J A m C I H G hB F L h1 h2 h3 y z;go_wp2;go_still_tail 15,(by kernel_rfl)
   change wpList _ _ _ _ _ wr.drew;go_wp2;go_roundw
   case rel=>exact⟨i+1,q,by go_num,by omega,r.out.2.2.1,r.out.1,r.out.2.1⟩
   case measure=>simp[intOf];omega
  ·have U:¬(i:Int)<(bs.length:Nat):=by omega
   have r:=Lib.hid (And.intro F hB);clear F hB;go_wp2;go_ret;exact⟨_,rfl,r.out.1,w.heap.size,rfl,Nat.le_refl _,_,0,h,bs,r.out.2,Bytes.mono C (λk _ l=>⟨⟨by omega,by omega⟩,Nat.lt_of_lt_of_le l r.out.1.size,r.out.1.block k l (by simp)⟩),by omega,N,by omega,nX⟩
theorem below_bits (h:Int) (b:0<=h) (h1:h<18446744073709551616):∃x:Int,0<=x/\x<16777216/\bits .and .u64 (h/8589934592) 16777215=x:=by
 obtain⟨n,rfl⟩:∃n:Nat,h=n:=⟨h.toNat,by omega⟩;have a:n/8589934592<2 ^ 64:=by omega
 have e:=u64_and_nat (n/8589934592) 16777215 a (by decide);refine⟨((n/8589934592 &&& 16777215:Nat):Int),by omega,?_,?_⟩
 ·have:=Nat.and_lt_two_pow (n:=24) (n/8589934592) (y:=16777215) (by decide)
  have i:(2:Nat) ^ 24=16777216:=by decide
  omega
 ·rw[<-e];rfl
theorem below_ok (B:Nat) (w:World) (j:Nat) (n:Int) (Y:Dice B w j) (hn:1<=n) (Z:n<=1000000000) :
  Calls Tryz.prog 154 #[.pointer (some ⟨j,0,none⟩),.int .i64 n] w (Mut w (some j) λw' v=>∃x:Int,v=.int .i64 x/\0<=x/\x<n/\Dice B w' j):=by
 obtain⟨cv,pos,h,bs,hB,hby,hpos,hbl,lU,hh0,qH⟩:=Y;obtain⟨a,cap,rfl,_,hlen⟩:=hby.shape;obtain⟨A,D⟩:∃A,A=IntKind.u64.wrap (IntKind.u64.wrap (h*6364136223846793005)+1442695040888963407):=⟨_,rfl⟩;have l:=u64_bd (IntKind.u64.wrap (h*6364136223846793005)+1442695040888963407);rw[<-D] at l;obtain⟨y,hy0,hy1,hand⟩:=below_bits A l.1 l.2;have q:=(hB.put (.int .u64 A)).2.2;obtain⟨H,h1,h2,h3,h4⟩:=id hB;have I:=D.symm;clear D;go_enter Tryz.func154,Tryz.ntmps154;have r:w.grownBy (w.setCell ⟨j,2,none⟩ (.int .u64 A)) (some j):=grown_set _ _ _ _;have m:Bytes (λk=>k≠j/\k<B) (w.setCell ⟨j,2,none⟩ (.int .u64 A)) (.slice a bs.length cap) bs:=Bytes.mono hby (frame_of r (λk hk _=>⟨hk,λe=>hk.1 (by cases e;rfl)⟩));have J:=Lib.hid (And.intro q (And.intro r m));clear q hB hby r m;go_wp2;clear H h1 h2 h3 h4 I hand;obtain⟨q,r,m⟩:=J.out;clear J;generalize w.setCell ⟨j,2,none⟩ (.int .u64 A)=G at *;obtain⟨H,h1,h2,h3,h4⟩:=id q;have i:=Lib.hid (And.intro q (And.intro r m));clear q r m;by_cases hp:pos<bs.length
 ·obtain ⟨b,off,rfl,⟨j6,hbB⟩,nY,E,Q,R⟩:=Bytes.at i.out.2.2 pos hp
  obtain⟨x,hx⟩:∃x,x=gt bs pos:=⟨_,rfl⟩;rw[<-hx] at E Q R;have HX:=Lib.hid hx;clear hx;have S:(pos:Int)<bs.length:=by omega
  have ab:(0:Int)<=pos:=by omega
  have U:IntKind.i64.wrap (y+x)=y+x:=IntWalk.i64_in _ (by omega);go_quiet (fail)
  go_wp2;have p:Ext G (G.drewN nq):=grown_drewN _ _ _;have K:=p.cell E (by simp);have L:j<(G.drewN nq).heap.size:=Nat.lt_of_lt_of_le H p.size;have u:=And.intro (i.out.1.ext p) (And.intro (grown_trans i.out.2.1 (grown_of_ext (some j) p)) (Bytes.ext i.out.2.2 p));have i:=Lib.hid u;clear u p E H h1 h2 h3 h4;obtain⟨h1,h2,h3,h4⟩:=i.out.1.2;generalize G.drewN nq=O at *;go_quiet (fail)
  have p:Ext O (O.drewN nq):=grown_drewN _ _ _;have H:j<(O.drewN nq).heap.size:=Nat.lt_of_lt_of_le L p.size;have u:=And.intro (i.out.1.ext p) (And.intro (grown_trans i.out.2.1 (grown_of_ext (some j) p)) (Bytes.ext i.out.2.2 p));have i:=Lib.hid u;clear u p K L h1 h2 h3 h4;obtain⟨h1,h2,h3,h4⟩:=i.out.1.2;generalize O.drewN nq=V at *;have M:=(i.out.1.put (.int .i64 ((pos:Int)+1))).2.1;have F:V.grownBy (V.setCell ⟨j,1,none⟩ (.int .i64 ((pos:Int)+1))) (some j):=grown_set _ _ _ _;have C:Bytes (λk=>k≠j/\k<B) (V.setCell ⟨j,1,none⟩ (.int .i64 ((pos:Int)+1))) (.slice (some ⟨b,off,none⟩) bs.length cap) bs:=Bytes.mono i.out.2.2 (frame_of F (λk hk _=>⟨hk,λe=>hk.1 (by cases e;rfl)⟩));have N:0<=(y+x)%n/\(y+x)%n<n:=⟨Int.emod_nonneg _ (by omega),Int.emod_lt_of_pos _ (by omega)⟩;have z:=Lib.hid (And.intro M (And.intro (grown_trans i.out.2.1 F) (And.intro C N)));clear M F C i U N;have ac:IntKind.i64.wrap ((pos:Int)+1)=(pos:Int)+1:=IntWalk.i64_in _ (by omega);have W:n≠0:=by omega
  go_wp2;go_ret;exact⟨_,rfl,z.out.2.1,_,rfl,z.out.2.2.2.1,z.out.2.2.2.2,_,pos+1,A,bs,z.out.1,z.out.2.2.1,by omega,hbl,lU,l⟩
 ·have S:¬(pos:Int)<bs.length:=by omega
  have W:n≠0:=by omega
  go_quiet (fail)
  have p:Ext G (G.drewN nq):=grown_drewN _ _ _;have N:0<=y%n/\y%n<n:=⟨Int.emod_nonneg _ (by omega),Int.emod_lt_of_pos _ (by omega)⟩;have X:=Lib.hid N;clear N;go_wp2;go_ret;exact⟨_,rfl,grown_trans i.out.2.1 (grown_of_ext _ p),_,rfl,X.out.1,X.out.2,_,pos,A,bs,i.out.1.ext p,Bytes.ext i.out.2.2 p,hpos,hbl,lU,l⟩
theorem PresV.off {S:Nat->Prop}{w w':World}{v:Value}{P:Pr}{b:Nat}(h:PresV S w v P) (e:Ext w w') (i:w.heap.size<=b):PresV (λk=>k≠b) w' v P:=by
 obtain⟨vo,vp,vc,rfl,h3⟩:=h;exact⟨_,_,_,rfl,h3.mono (λk _ a=>⟨by omega,Nat.lt_of_lt_of_le a e.size,e.block k a (by simp)⟩)⟩
theorem draw9_ok (P:Pr) (hP:Valid P) (B:Nat) (w:World) (a:Nat) (pv:Value) (av:B<=w.heap.size) (Y:Dice B w a) (Z:PresV (λk=>k≠a) w pv P) :
  Calls Tryz.prog 56 #[.pointer (some ⟨a,0,none⟩),pv] w (Mut w (some a) λw' v=>∃X,Own w.heap.size w' v X/\Vec P.orders X/\Dice B w' a):=by
 have aw:=hP.n6;have ax:=Y.lt.2;obtain⟨vo,vp,vc,rfl,h3⟩:=Z;obtain⟨R,co,ez,_,_⟩:=h3.o.shape;obtain⟨ap,S,hvp,_,_⟩:=Sl.shape h3.p;obtain⟨U,V,ey,_,_⟩:=Sl.shape h3.c;subst ez hvp ey;have E:=Box3.made w 28 (.slice R P.orders.length co) (.slice ap P.powers.length S) (.slice U P.conj.length V);have u:Ext w (w.alloc (.cells #[.slice R P.orders.length co,.slice ap P.powers.length S,.slice U P.conj.length V] 28)):=World.grownBy_alloc _ _ _;have aa:=h3.o.ext u;have F:=Y.ext u;have b:(w.alloc (.cells #[.slice R P.orders.length co,.slice ap P.powers.length S,.slice U P.conj.length V] 28)).heap.size=w.heap.size+1:=by simp
 have HZ:=Lib.hid (And.intro b F);clear b F Y h3;go_enter Tryz.func56,Tryz.ntmps56;go_wp2_with fail
 generalize w.alloc (.cells #[.slice R P.orders.length co,.slice ap P.powers.length S,.slice U P.conj.length V] 28)=w0 at *;have b:w0.heap.size=w.heap.size+1:=HZ.out.1;have z:=World.grownBy_alloc w0 (.cells #[] 2) none;have m:Own w0.heap.size (w0.alloc (.cells #[] 2)) (.slice (some ⟨w0.heap.size,0,none⟩) 0 0) []:=World.ownsRow_lit w0 #[] 0 (Nat.le_refl _) (by decide) rfl;have HS:=Lib.hid (HZ.out.2.ext z);have G:=grown_of_ext (some a) z;clear z;have HW:=Lib.hid b;rw[b] at m;have ay:w.heap.size+1<=w0.heap.size:=by omega
 clear b HZ;generalize w0.alloc (.cells #[] 2)=w1 at *;rw[<-HW.out] at m;rw[<-HW.out];go_loopw [5,6] (λov iv wr=>∃(i:Nat) (l:List Int) (v4:Value),v4=ov/\iv=.int .i64 i/\i<=P.orders.length/\Hid (l.length=i/\∀j,j<i->0<=gt l j/\gt l j<gt P.orders j)/\w0.grownBy wr (some a)/\Own w0.heap.size wr v4 l/\Hid (Dice B wr a)) (λ_ iv _=>P.orders.length-(intOf iv).toNat)
 case atStart=>exact⟨0,[],_,rfl,rfl,by omega,Lib.hid ⟨rfl,λj q=>by omega⟩,G,m,HS⟩
 case round=>
  clear G m HS;obtain⟨i,l,v4,rfl,rfl,hi,hli,H,hO,I⟩:=hrel;have ae:=E.keep H.size (H.block _ E.1 (λe=>by have:=Option.some.inj e;omega));obtain⟨b0,b1,b2,b3,b4⟩:=id ae;have J:∀j,v4.ownBlock=some j->w0.heap.size<=j:=λj q=>(hO.lt j q).1;have HO:=Lib.hid J;clear J;by_cases A:i<P.orders.length
  ·have K:(i:Int)<P.orders.length:=by omega
   obtain⟨bo,oo,rfl,iM,_,C⟩:=Ints.at aa i A;have hc:=H.cell C (by simp;exact iM);have ag:=hP.ord7 i A;obtain⟨x,hx⟩:∃x,x=gt P.orders i:=⟨_,rfl⟩;rw[<-hx] at hc C ag;have HX:=Lib.hid hx;clear hx C;have ah:max 1 x=x:=by omega
   go_wp2_with fail
   refine Calls.mono (below_ok B wr a x I.out (by omega) (by omega)) ?_;rintro e3 w3 ⟨v3,rfl,hg3,y,rfl,hy0,hy1,L⟩;have r:=grown_trans H hg3;have ai:Own w0.heap.size w3 _ l:=hO.kept hg3 (.inr (λe=>by have:=HO.out a e;omega));have D:l.length<=1000000:=by have:=hli.out.1;omega
   have M:=Lib.hid (And.intro L D);clear L hc D hO ah;go_wp2_with (first|(at_builtin;refine wp_app_int rfl _ _ rfl w0.heap.size v4 l y rfl w3 ai rfl rfl M.out.2 r.size ?_;intro v5 w5 aj N)|fail)
   have ak:=M.out.1.own N (λj q=>by have:=HO.out j q;omega);have O:w0.grownBy w5 (some a):=grown_own r N (λj q A=>by have:=HO.out j q;omega);have D:(l++[y]).length=l.length+1:=by simp
   go_roundw
   case rel=>exact⟨i+1,l++[y],v5,rfl,by go_num,by omega,Lib.hid ⟨by have:=hli.out.1;omega,λj q=>by
    have hl:=hli.out.1;rcases Nat.lt_succ_iff_lt_or_eq.1 q with W|W
    ·have e:gt (l++[y]) j=gt l j:=gt_append_left _ _ _ (by omega)
     rw[e];exact hli.out.2 j W
    ·have e:gt (l++[y]) j=y:=by rw[W,<-hl];exact gt_concat _ _
     rw[e,W,<-HX.out];exact⟨hy0,hy1⟩⟩,O,aj,Lib.hid ak⟩
   case measure=>simp[intOf];omega
  ·have K:¬((i:Int)<P.orders.length):=by omega
   have am:i=P.orders.length:=by omega
   subst am;obtain⟨al,cl,rfl,_⟩:=(hO.ints (by have:=hli.out.1;omega)).shape;have Q:w.grownBy wr (some a):=grown_trans (grown_of_ext (some a) u) H;have HF:=Lib.hid (And.intro Q hO);clear Q hO;go_wp2;go_ret;exact⟨_,rfl,HF.out.1,l,HF.out.2.weak (by omega),⟨hli.out.1,λj q=>hli.out.2 j (by have:=hli.out.1;omega)⟩,I.out⟩
theorem iPrj_ok (P:Pr) (hr:rconsB P=true) (w:World) (pv O Q:Value) (U:List (List Int)) (X:List Int) (Z F H:Nat->Prop) (I:PresV Z w pv P) (z:Rows2 F w O U) (hx:Ints H w Q X) (hU:SubB P U) (hn:NormG P (gU P U) U) (R:Vec P.orders X) :
  Calls Tryz.prog 39 #[pv,O,Q] w (Ret w λw' v=>∃a n c,v=.tuple #[.slice a n c,.int .i64 0]/\Own w.heap.size w' (.slice a n c) (prjV P U X)):=by
 have G:=grp_of_r hr;have aa:=G.v.n6;obtain⟨vo,vp,vc,rfl,h3⟩:=I;have l:=PresP.box h3 28;have m:Ext w (w.alloc (.cells #[vo,vp,vc] 28)):=World.grownBy_alloc _ _ _;have q:(w.alloc (.cells #[vo,vp,vc] 28)).heap.size=w.heap.size+1:=by simp
 have r:=Rows2.ext z m;have A:=Ints.ext hx m;obtain⟨S,p,rfl,_,_⟩:=Sl.shape z;obtain⟨ax,capx,rfl,_,_⟩:=hx.shape;have y:Ext (w.alloc (.cells #[vo,vp,vc] 28)) ((w.alloc (.cells #[vo,vp,vc] 28)).alloc (.cells #[.slice S U.length p] 25)):=World.grownBy_alloc _ _ _;have V:=rows3One r;have j:=areSubgroups_ok P _ _ _ [U] Any Any (l.ext y) V;rw[q] at j;clear V z hx;have B:(prjV P U X).length<=6:=by have:=fr_len P U;unfold prjV;rw[List.length_map];omega
 have k:=Lib.hid (And.intro hr (And.intro hU (And.intro hn (And.intro R B))));clear hr hU hn R B;go_enter Tryz.func39,Tryz.ntmps39;go_wp2_with fail
 refine Calls.mono j ?_;rintro e1 J ⟨v1,rfl,eu,r1,rfl,hr1⟩;clear j;obtain rfl:r1=true:=hr1.2 (by have:=k.out;simp only[List.mem_cons,List.mem_nil_iff,or_false];exact⟨this.1,λu z=>by subst z;exact this.2.1⟩);clear hr1;have b:=grown_trans y eu;have HS:=Lib.hid q;clear q;generalize K:(w.alloc (.cells #[vo,vp,vc] 28))=w0 at *;clear K y eu;have L:=Ints.ext A b;have M:=Rows2.ext r b;have hex:=isExponents_ok J _ _ P X Any H (l.ext b) L (λi hi=>by have:=G.v.ord7 i hi;omega);rw[expB_vec.2 k.out.2.2.2.1] at hex;go_wp2_with fail
 refine Calls.mono hex ?_;rintro _ _ ⟨rfl,rfl⟩;clear hex;have C:Rows2 F J (.slice S U.length p) (cseq P (gU P U)):=by rw[<-k.out.2.1.2];exact M
 have D:=isNormal_ok P G J _ _ (gU P U) Any F (G.subB k.out.2.1) (l.ext b) C;have W:=Lib.hid D;clear D C;go_wp2_with fail
 refine Calls.mono W.out ?_;rintro e2 Y ⟨v2,rfl,hg2,r2,rfl,hr2⟩;obtain rfl:r2=true:=hr2.2 (by rw[<-k.out.2.1.2];exact k.out.2.2.1);clear hr2 W;have e:=grown_trans b hg2;go_wp2_with fail
 refine Calls.mono (project_ok P k.out.1 Y _ _ _ U X Any F H (l.ext e) (Rows2.ext r e) k.out.2.1 (Ints.ext A e) k.out.2.2.2.1) ?_;rintro e3 w3 ⟨v3,rfl,N,hO⟩;obtain⟨a3,c3,hv3,_,_⟩:=(hO.ints (by have:=k.out.2.2.2.2;omega)).shape;subst hv3;have E:=hO.weak (show w.heap.size<=Y.heap.size by have:=m.size;have:=e.size;omega);have HO:=Lib.hid E;clear hO E;go_wp2;go_ret2
 exact⟨_,rfl,grown_trans m (grown_trans e N),_,_,_,rfl,HO.out⟩
theorem lift_ok (P:Pr) (hr:rconsB P=true) (w:World) (p uv yv:Value) (U:List (List Int)) (Y:List Int) (Sp Su Sy:Nat->Prop) (hp:PresP Sp w p P) (hu:Rows2 Su w uv U) (hU:SubB P U) (hy:Ints Sy w yv Y) (hY:Y.length=(frI P U).length) :
  Calls Tryz.prog 156 #[p,uv,yv] w (Ret w λw' v=>Own w.heap.size w' v (liftV P U Y)):=by
 have G:=grp_of_r hr;have I:=G.v.n6;obtain⟨r,ac,J⟩:=sub_dep G hU;have ad:=fr_len P U;obtain⟨pb,po,rfl⟩:=hp.shape;obtain⟨ao,co,dM,hoi⟩:=hp.ordAt;obtain⟨au,capu,rfl,_,_⟩:=Sl.shape hu;obtain⟨ay,K,rfl,_,_⟩:=hy.shape;have HU:=Lib.hid (And.intro hU (And.intro J hY));clear hU J hY r hoi;go_enter Tryz.func156,Tryz.ntmps156;go_wp2_with (first|(at_make;refine wp_make_ints rfl _ _ rfl w.heap.size P.orders.length w.heap.size rfl _ rfl rfl rfl (by omega) (Nat.le_refl _) ?_;intro w1 C A aw)|fail)
 clear dM;obtain⟨n,hn⟩:∃n,n=P.orders.length:=⟨_,rfl⟩;rw[<-hn] at C;rw[<-hn];refine Calls.mono (otherIndices_ok P I w1 _ _ U Sp Su (hp.ext A) (Rows2.ext hu A) HU.out.2.1 ac) ?_;rintro e3 w3 ⟨iv,rfl,hg3,gB⟩;obtain⟨ai,ci,rfl,hI⟩:=idx_ints gB (by omega);obtain⟨m,hm⟩:∃m,m=(frI P U).length:=⟨_,rfl⟩;have L:=C.ext0 hg3;have q:=grown_trans A hg3;have aD:m<=n:=by omega
 have az:n<=6:=by omega
 have M:Y.length=m:=by rw[hm];exact HU.out.2.2
 have aE:=hg3.size;have N:∀k,(From w1.heap.size) k->k≠w.heap.size:=λk hk=>by have aF:w1.heap.size<=k:=hk;omega
 have O:Ints (λk=>k<w.heap.size) w3 (.slice ay Y.length K) Y:=Ints.sub (Ints.mono (Ints.sub hy (λk _ a=>a)) (λk hk a=>⟨hk,Nat.lt_of_lt_of_le a q.size,q.block k a (by simp)⟩)) (λk hk _=>hk);have u:=Lib.hid (And.intro hI (And.intro hm (And.intro hn (And.intro O (And.intro M N)))));clear hI hm gB C A hg3 ad I M N O hn;rw[<-u.out.2.1];rw[u.out.2.2.2.2.1];go_wp2;go_loopw [20] (λkv wr=>∃(k:Nat) (l:List Int),kv=.int .i64 (k:Int)/\k<=m/\w3.grownBy wr (some w.heap.size)/\Own w.heap.size wr (.slice (some ⟨w.heap.size,0,none⟩) n n) l/\Hid (l.length=n/\(∀s,s<k->gt l (gt (frI P U) s)=gt Y s)/\∀i,¬i∈frI P U->gt l i=0)) (λkv _=>m-(intOf kv).toNat)
 case atStart=>exact⟨0,_,rfl,by omega,grown_refl _ _,L,Lib.hid ⟨List.length_replicate,λs Q=>by omega,λi _=>by simp[gt,List.getElem?_replicate];split<;>rfl⟩⟩
 case round=>
  clear L;obtain⟨k,l,rfl,hk,hg,hO,r⟩:=hrel;have R:Ext w wr:=grown_own q hg (λj hj a=>by have:=Option.some.inj hj;omega);by_cases a:k<m
  ·have aA:(k:Int)<m:=by omega
   have b:k<(frI P U).length:=by rw[<-u.out.2.1];exact a
   obtain⟨bi,oi,hai,_,_,S⟩:=Ints.at (Ints.mono u.out.1 (frame_of hg (λk hk _=>⟨hk,λe=>u.out.2.2.2.2.2 k hk (Option.some.inj e).symm⟩))) k (by rw[List.length_map];exact b);subst hai;rw[gt_map _ _ _ b] at S;have D:=(fr_at b).1;have E:=λs (h:s<k)=>fr_mono (P:=P) (U:=U) h b;obtain⟨aH,oy,jf,_,_,aj⟩:=Ints.at (Ints.mono u.out.2.2.2.1 (frame_of hg (λk hk _=>⟨hk,λe=>by have:=Option.some.inj e;have hk:k<w.heap.size:=hk;omega⟩))) k (by rw[u.out.2.2.2.2.1];exact a);subst jf;obtain⟨x,hx⟩:∃x,x=gt (frI P U) k:=⟨_,rfl⟩;have F:x∈frI P U:=by rw[hx];exact gtMem b
   rw[<-hx] at S D E;rw[<-u.out.2.2.1] at D;obtain⟨y,H⟩:∃y,y=gt Y k:=⟨_,rfl⟩;rw[<-H] at aj;have aI:(x:Int)<n:=by omega
   have V:=hO.cell x (by have:=r.out.1;omega);have aJ:=hO.frozen x;obtain⟨W,hgs⟩:=hO.store x y;have X:=grown_trans hg hgs
   have Z:(l.set x y).length=n/\(∀s,s<k+1->gt (l.set x y) (gt (frI P U) s)=gt Y s)/\∀i,¬i∈frI P U->gt (l.set x y) i=0:=by
    refine⟨by rw[List.length_set];exact r.out.1,λs Q => ?_,λi hi => ?_⟩
    ·rcases Nat.lt_succ_iff_lt_or_eq.1 Q with h1|h1
     ·have:=E s h1
      rw[gt_set_ne _ _ _ _ (by omega)];exact r.out.2.1 s h1
     ·rw[h1,<-hx,gt_set_eq _ _ _ (by have:=r.out.1;omega),H]
    ·rw[gt_set_ne _ _ _ _ (λe=>hi (by first|(rw[<-e];exact F)|(rw[e];exact F)))];exact r.out.2.2 i hi
   have HB:=Lib.hid (And.intro W (And.intro X Z));clear W X Z hgs hx E F H b D;generalize gt l x=z at V;go_wp2;go_roundw
   case rel=>exact⟨k+1,_,by go_num,by omega,HB.out.2.1,HB.out.1,Lib.hid HB.out.2.2⟩
   case measure=>simp[intOf];omega
  ·have al:k=m:=by omega
   subst al
   have B:l=liftV P U Y:=by
    apply ext_gt
    ·rw[r.out.1,u.out.2.2.1];unfold liftV;rw[List.length_map,List.length_range]
    ·intro i hi
     by_cases h:i∈frI P U
     ·obtain ⟨s,Q,rfl⟩:=fr_ex h
      rw[gt_lift Q];exact r.out.2.1 s (by rw[u.out.2.1];exact Q)
     ·rw[gt_lift0 HU.out.2.2 h];exact r.out.2.2 i h
   have HF:=Lib.hid B;clear B;go_wp2;go_ret;exact⟨_,rfl,R,by rw[<-HF.out];exact hO⟩
theorem iLift_ok (P:Pr) (hr:rconsB P=true) (w:World) (pv N O:Value) (U:List (List Int)) (Y:List Int) (R C D:Nat->Prop) (E:PresV R w pv P) (F:Rows2 C w N U) (hy:Ints D w O Y) (hU:SubB P U) (hn:NormG P (gU P U) U) (H:Vec (quoP P U).orders Y) :
  Calls Tryz.prog 58 #[pv,N,O] w (Ret w λw' v=>∃a n c,v=.tuple #[.slice a n c,.int .i64 0]/\Own w.heap.size w' (.slice a n c) (liftV P U Y)):=by
 have G:=grp_of_r hr;have S:=G.v.n6;have p:cpnC P U=0:=cpn_ok ⟨hr,hU⟩ (by rw[<-hU.2];exact hn);obtain⟨vo,vp,vc,rfl,h3⟩:=E;have j:=PresP.box h3 28;have e:Ext w (w.alloc (.cells #[vo,vp,vc] 28)):=World.grownBy_alloc _ _ _;have V:(w.alloc (.cells #[vo,vp,vc] 28)).heap.size=w.heap.size+1:=by simp
 have k:=Rows2.ext F e;have hy0:=Ints.ext hy e;obtain⟨Z,capu,rfl,_,_⟩:=Sl.shape F;obtain⟨ay,capy,rfl,_,_⟩:=hy.shape;have q:Y.length=(frI P U).length:=by rw[H.1,quo_n]
 have r:(liftV P U Y).length<=6:=by unfold liftV;rw[List.length_map,List.length_range];omega
 have u:∀i,i<(quoP P U).orders.length->0<=gt (quoP P U).orders i/\gt (quoP P U).orders i<=7:=λi hi=>by
  rw[quo_n] at hi;rw[gt_quoO hi];have:=G.v.ord7 _ (fr_at hi).1;omega
 have l:=Lib.hid (And.intro p (And.intro hU (And.intro H (And.intro q (And.intro r u)))));clear p hU hn H r u F hy q h3;go_enter Tryz.func58,Tryz.ntmps58;go_wp2_with fail
 generalize (w.alloc (.cells #[vo,vp,vc] 28))=w0 at *;refine Calls.mono (normalCode_ok P w0 _ _ U Any C j k) ?_;rintro e1 W ⟨v1,rfl,m,rfl⟩;rw[l.out.1];go_wp2_with fail
 refine Calls.mono (quoPres_ok P hr W _ _ U Any C (j.ext m) (Rows2.ext k m) l.out.2.1) ?_;rintro e2 I ⟨v2,rfl,J,qo,qp,qc,rfl,iU⟩;obtain⟨y,z,A,gT,gV,gW,gX,gY,gZ,rfl,rfl,rfl⟩:=iU.sl;have K:=PresP.box iU.p3 28;have L:Ext I (I.alloc (.cells #[.slice y z A,.slice gT gV gW,.slice gX gY gZ] 28)):=World.grownBy_alloc _ _ _;have b:=grown_trans (grown_trans m J) L;have hex:=isExponents_ok _ _ _ (quoP P U) Y Any D K (Ints.ext hy0 b) l.out.2.2.2.2.2;rw[expB_vec.2 l.out.2.2.1] at hex;go_wp2_with fail
 refine Calls.mono hex ?_;rintro _ _ ⟨rfl,rfl⟩;clear hex;generalize (I.alloc (.cells #[.slice y z A,.slice gT gV gW,.slice gX gY gZ] 28))=Q at *;go_wp2_with fail
 refine Calls.mono (lift_ok P hr Q _ _ _ U Y Any C D (j.ext b) (Rows2.ext k b) l.out.2.1 (Ints.ext hy0 b) l.out.2.2.2.1) ?_;rintro e4 w4 ⟨v4,rfl,M,hO⟩;obtain⟨a4,c4,hv4,_,_⟩:=(hO.ints (by have:=l.out.2.2.2.2.1;omega)).shape;subst hv4;have B:=hO.weak (show w.heap.size<=Q.heap.size by have:=e.size;have:=b.size;omega);have X:=Lib.hid B;clear hO B;go_wp2;go_ret2
 exact⟨_,rfl,grown_trans e (grown_trans b M),_,_,_,rfl,X.out⟩
end Go.Proofs.YtldheeicjnncoaaGreat
namespace Go.Proofs.YtldheeicjnncoaaGreat
open Go.RowKit
attribute [local go_sem ↓] Go.wp_at_zero Go.wp_at_succ
theorem iLiftS_ok (P:Pr) (hr:rconsB P=true) (w:World) (pv uv wv:Value) (U W:List (List Int)) (Sp Su Sw:Nat->Prop) (aA:PresV Sp w pv P) (Y:Rows2 Su w uv U) (hw:Rows2 Sw w wv W) (hU:SubB P U) (hn:NormG P (gU P U) U) (hN:NormP P (gU P U)) (hW:SubB (quoP P U) W) :
  Calls Tryz.prog 61 #[pv,uv,wv] w (Ret w λw' v=>∃a n c,v=.tuple #[.slice a n c,.int .i64 0]/\RowsO w.heap.size w' (.slice a n c) (cseq P (gU P (liL P U W)))):=by
 have G:=grp_of_r hr;have L:=quo_cons G hr hU hN;have GQ:=grp_of_r L;have aU:=G.v.n6;have aV:=G.sub_len hU;have aC:=GQ.sub_len hW;have aW:=fr_len P U;rw[quo_n] at aC;have Z:cpnC P U=0:=cpn_ok ⟨hr,hU⟩ (by rw[<-hU.2];exact hn);obtain⟨vo,vp,vc,rfl,h3⟩:=aA;have y:=PresP.box h3 28;have z:Ext w (w.alloc (.cells #[vo,vp,vc] 28)):=World.grownBy_alloc _ _ _;have A:=Rows2.ext Y z;have aa:=Rows2.ext hw z;obtain⟨au,capu,rfl,_,_⟩:=Sl.shape Y;obtain⟨aw,ab,rfl,_,_⟩:=Sl.shape hw;have M:=li_vec hr hU hW;have ac:(cseq P (gU P (liL P U W))).length<=P.orders.length:=G.cseq_len (G.genP_sub M);have N:=Lib.hid (And.intro Z (And.intro hU (And.intro hW (And.intro L (And.intro M ac)))));clear Z hU hn hN hW L Y hw h3 M ac;go_enter Tryz.func61,Tryz.ntmps61;go_wp2_with fail
 generalize (w.alloc (.cells #[vo,vp,vc] 28))=w0 at *;refine Calls.mono (normalCode_ok P w0 _ _ U Any Su y A) ?_;rintro e1 w1 ⟨v1,rfl,B,rfl⟩;rw[N.out.1];go_wp2_with fail
 refine Calls.mono (quoPres_ok P hr w1 _ _ U Any Su (y.ext B) (Rows2.ext A B) N.out.2.1) ?_;rintro e2 S ⟨v2,rfl,ae,qo,qp,qc,rfl,iU⟩;obtain⟨C,D,E,gT,gV,gW,gX,gY,gZ,rfl,rfl,rfl⟩:=iU.sl;have af:=PresP.box iU.p3 28;have ag:Ext S (S.alloc (.cells #[.slice C D E,.slice gT gV gW,.slice gX gY gZ] 28)):=World.grownBy_alloc _ _ _;have p:=grown_trans (grown_trans B ae) ag;have ah:(S.alloc (.cells #[.slice C D E,.slice gT gV gW,.slice gX gY gZ] 28)).heap.size=S.heap.size+1:=by simp
 have O:Ext (S.alloc (.cells #[.slice C D E,.slice gT gV gW,.slice gX gY gZ] 28)) ((S.alloc (.cells #[.slice C D E,.slice gT gV gW,.slice gX gY gZ] 28)).alloc (.cells #[.slice aw W.length ab] 25)):=World.grownBy_alloc _ _ _;have hl:=rows3One (Rows2.ext aa p);have q:=areSubgroups_ok (quoP P U) _ _ _ [W] Any Any (af.ext O) hl;rw[ah] at q;clear hl;go_wp2_with fail
 refine Calls.mono q ?_;rintro e4 H ⟨v4,rfl,ai,r4,rfl,hr4⟩;clear q af;obtain rfl:r4=true:=hr4.2 (by have:=N.out;simp only[List.mem_cons,List.mem_nil_iff,or_false];exact⟨this.2.2.2.1,λu Y=>by subst Y;exact this.2.2.1⟩);clear hr4;have r:=grown_trans p (grown_trans O ai);clear O ai ag p ah iU B ae;go_wp2_with fail
 refine Calls.mono (cloneRows_ok H _ U (λk=>k<H.heap.size) (λ_=>False) (Rows2.sub (Rows2.ext A r) (λk _ h=>h)) (λ_ _ _ h=>h) (by omega)) ?_;rintro e5 w5 ⟨v5,rfl,hg5,lV⟩;have aj:=Rows2.ext aa r;have I:ShQ (λ_=>False) H.heap.size w5 v5 (U++(W.map (liftV P U)).take 0):=by rw[List.take_zero,List.append_nil];exact lV
 have HW:=Lib.hid aj;clear aj lV;go_wp2;go_loopw [10,28] (λlv kv wr=>∃(k:Nat) (v7:Value),v7=lv/\kv=.int .i64 (k:Int)/\k<=W.length/\Ext H wr/\ShQ (λ_=>False) H.heap.size wr v7 (U++(W.map (liftV P U)).take k)) (λ_ kv _=>W.length-(intOf kv).toNat)
 case atStart=>exact⟨0,_,rfl,rfl,by omega,hg5,I⟩
 case round=>
  clear I;obtain⟨k,v7,rfl,rfl,hk,Q,hQ⟩:=hrel;obtain⟨wj,rfl⟩:∃wj:World,wj=wr:=⟨_,rfl⟩;have i:=grown_trans r Q;by_cases F:k<W.length
  ·have aQ:(k:Int)<W.length:=by omega
   obtain⟨bv,ov,ya,yc,hab,_,_,an,hz⟩:=Rows2.at (Rows2.ext HW.out Q) k F;subst hab;have ao:Vec (quoP P U).orders (gt W k):=N.out.2.2.1.1 _ (gtMem F);have R:(gt W k).length=(frI P U).length:=by rw[ao.1,quo_n]
   have l:(W.map (liftV P U)).take (k+1)=(W.map (liftV P U)).take k++[liftV P U (gt W k)]:=by
    rw[take_succ_gt _ k (by rw[List.length_map];exact F),gt_map _ _ _ F]
   have J:(U++(W.map (liftV P U)).take k).length<=1000000:=by rw[List.length_append,List.length_take];omega
   obtain⟨X,hX⟩:∃X,X=gt W k:=⟨_,rfl⟩;rw[<-hX] at R l an hz;have ap:(liftV P U X).length<=6:=by unfold liftV;rw[List.length_map,List.length_range];omega
   have V:=Lib.hid (And.intro R (And.intro l (And.intro J (And.intro hz ap))));clear R l J hz hX ao ap;go_wp2_with fail
   refine Calls.mono (lift_ok P hr wj _ _ _ U X Any Su Sw (y.ext i) (Rows2.ext A i) N.out.2.1 V.out.2.2.2.1 V.out.1) ?_;rintro e8 w8 ⟨v8,rfl,iq,m⟩;obtain⟨a8,c8,gj,_,_⟩:=(m.ints (by have:=V.out.2.2.2.2;omega)).shape;subst gj;have aF:Ints (λk=>¬False/\v7.ownBlock≠some k) w8 (.slice a8 (liftV P U X).length c8) (liftV P U X):=ints_of_own m (by have:=V.out.2.2.2.2;omega) (λb hb=>⟨id,λe=>by have:=(m.lt b hb).1;have:=(hQ.lt b e).2;omega⟩);have aq:=hQ.ext iq;have K:=grown_trans Q iq;have aG:H.heap.size<=w8.heap.size:=K.size;clear an hQ m;go_wp2_with (first|(at_builtin;refine wp_shq_app rfl _ _ rfl (λ_=>False) H.heap.size v7 _ (U++(W.map (liftV P U)).take k) (liftV P U X) rfl w8 aq rfl aF rfl V.out.2.2.1 aG ?_;intro v9 w9 aH aI a7)|fail)
   have ar:Ext H w9:=grown_own K aI (λj hj a'=>by have:=(aq.lt j hj).1;omega);go_roundw
   case rel=>exact⟨k+1,v9,rfl,by go_num,by omega,ar,by rw[V.out.2.1,<-List.append_assoc];exact aH⟩
   case measure=>simp[intOf];omega
  ·have aJ:k=W.length:=by omega
   subst aJ;rw[List.take_of_length_le (by rw[List.length_map];exact Nat.le_refl _)] at hQ;have av:=ShQ.rows hQ;obtain⟨al,cl,hlv,_,_⟩:=Sl.shape av;rw[List.length_append,List.length_map] at hlv;subst hlv;go_wp2_with fail
   refine Calls.mono (generated_ok P G wj _ _ (liL P U W) Any Any (y.ext i) av N.out.2.2.2.2.1 (by unfold liL;rw[List.length_append,List.length_map];omega)) ?_;rintro e8 w8 ⟨v8,rfl,iq,m⟩
   obtain ⟨ad,nd,lT,jB⟩:∃a n c,v8=.slice a n c:=by
    obtain⟨a,c,h⟩:=RowsO.shapeC m (by show(cseq P (gU P (liL P U W))).length<=_;have:=N.out.2.2.2.2.2;omega);exact⟨a,_,c,h⟩
   subst jB;have aK:=grown_trans i iq;go_wp2;go_ret2
   exact⟨_,rfl,grown_trans z aK,_,_,_,rfl,m.weak (by have:=i.size;have:=z.size;omega)⟩
theorem iPrjS_ok (P:Pr) (hr:rconsB P=true) (w:World) (pv uv vv:Value) (U V:List (List Int)) (Sp O Sv:Nat->Prop) (ap:PresV Sp w pv P) (Q:Rows2 O w uv U) (hv:Rows2 Sv w vv V) (hU:SubB P U) (hn:NormG P (gU P U) U) (hN:NormP P (gU P U)) (hV:SubB P V) :
  Calls Tryz.prog 62 #[pv,uv,vv] w (Ret w λw' v=>∃a n c,v=.tuple #[.slice a n c,.int .i64 0]/\RowsO w.heap.size w' (.slice a n c) (cseq (quoP P U) (gU (quoP P U) (V.map (prjV P U))))):=by
 have G:=grp_of_r hr;have R:=quo_cons G hr hU hN;have GQ:=grp_of_r R;have aU:=G.v.n6;have aV:=G.sub_len hU;have aW:=G.sub_len hV;have aX:=fr_len P U
 have H:∀x∈V.map (prjV P U),Vec (quoP P U).orders x:=λx hx=>by
  obtain⟨y,hy,rfl⟩:=List.mem_map.1 hx;exact prj_vec hr hU (hV.1 y hy)
 have I:(cseq (quoP P U) (gU (quoP P U) (V.map (prjV P U)))).length<=(quoP P U).orders.length:=GQ.cseq_len (GQ.genP_sub H);rw[quo_n] at I;have S:∀X,(prjV P U X).length<=6:=λX=>by unfold prjV;rw[List.length_map];omega
 obtain⟨vo,vp,vc,rfl,h3⟩:=ap;have r:=PresP.box h3 28;have z:Ext w (w.alloc (.cells #[vo,vp,vc] 28)):=World.grownBy_alloc _ _ _;have J:(w.alloc (.cells #[vo,vp,vc] 28)).heap.size=w.heap.size+1:=by simp
 have A:=Rows2.ext Q z;have W:=Rows2.ext hv z;obtain⟨au,C,rfl,_,_⟩:=Sl.shape Q;obtain⟨av,capv,rfl,_,_⟩:=Sl.shape hv;have K:Ext (w.alloc (.cells #[vo,vp,vc] 28)) ((w.alloc (.cells #[vo,vp,vc] 28)).alloc (.cells #[.slice au U.length C,.slice av V.length capv] 25)):=World.grownBy_alloc _ _ _;have hl:=rows3Two A W;have p:=areSubgroups_ok P _ _ _ [U,V] Any Any (r.ext K) hl;rw[J] at p;clear hl Q hv;have e:=Lib.hid (And.intro hr (And.intro hU (And.intro hV (And.intro hn (And.intro H (And.intro I S))))));clear hr hU hV hn hN H I S R;go_enter Tryz.func62,Tryz.ntmps62;go_wp2_with fail
 refine Calls.mono p ?_;rintro e1 w1 ⟨v1,rfl,eu,r1,rfl,hr1⟩;clear p;obtain rfl:r1=true:=hr1.2 (by have:=e.out;simp only[List.mem_cons,List.mem_nil_iff,or_false];exact⟨this.1,λu Q=>by rcases Q with rfl|rfl;exact this.2.1;exact this.2.2.1⟩);clear hr1;have i:=grown_trans K eu;have HS:=Lib.hid J;clear J;generalize ar:(w.alloc (.cells #[vo,vp,vc] 28))=w0 at *;clear ar K eu;have Y:Rows2 O w1 (.slice au U.length C) (cseq P (gU P U)):=by rw[<-e.out.2.1.2];exact Rows2.ext A i
 have Z:=isNormal_ok P G w1 _ _ (gU P U) Any O (G.subB e.out.2.1) (r.ext i) Y;have HC:=Lib.hid Z;clear Z Y;go_wp2_with fail
 refine Calls.mono HC.out ?_;rintro e2 w2 ⟨v2,rfl,hg2,r2,rfl,hr2⟩;obtain rfl:r2=true:=hr2.2 (by rw[<-e.out.2.1.2];exact e.out.2.2.2.1);clear hr2 HC;have j:=grown_trans i hg2;go_wp2_with fail
 refine Calls.mono (quoPres_ok P e.out.1 w2 _ _ U Any O (r.ext j) (Rows2.ext A j) e.out.2.1) ?_;rintro e3 w3 ⟨v3,rfl,aa,qo,qp,qc,rfl,fS⟩;obtain⟨ab,ac,ae,gT,gV,gW,gX,gY,gZ,rfl,rfl,rfl⟩:=fS.sl;have af:=PresP.box fS.p3 28;have ag:Ext w3 (w3.alloc (.cells #[.slice ab ac ae,.slice gT gV gW,.slice gX gY gZ] 28)):=World.grownBy_alloc _ _ _;have D:=grown_trans (grown_trans j aa) ag;have ah:=Rows2.ext W D;have HW:=Lib.hid (And.intro ah af);clear ah af fS;clear i hg2 aa ag j;go_wp2;generalize (w3.alloc (.cells #[.slice ab ac ae,.slice gT gV gW,.slice gX gY gZ] 28))=w5 at *;go_loopw [9,24] (λlv kv wr=>∃(k:Nat) (v7:Value),v7=lv/\kv=.int .i64 (k:Int)/\k<=V.length/\Ext w5 wr/\RowsO w5.heap.size wr v7 ((V.map (prjV P U)).take k)) (λ_ kv _=>V.length-(intOf kv).toNat)
 case atStart=>exact⟨0,_,rfl,rfl,by omega,Ext.refl _,SlO.nil _ _ _ _⟩
 case round=>
  obtain⟨k,v7,rfl,rfl,hk,q,hO⟩:=hrel;obtain⟨L,rfl⟩:∃L:World,L=wr:=⟨_,rfl⟩;have l:=grown_trans D q;by_cases B:k<V.length
  ·have aN:(k:Int)<V.length:=by omega
   obtain⟨bv,ov,ya,yc,hab,_,_,aj,hz⟩:=Rows2.at (Rows2.ext HW.out.1 q) k B;subst hab;have M:Vec P.orders (gt V k):=e.out.2.2.1.1 _ (gtMem B)
   have b:(V.map (prjV P U)).take (k+1)=(V.map (prjV P U)).take k++[prjV P U (gt V k)]:=by
    rw[take_succ_gt _ k (by rw[List.length_map];exact B),gt_map _ _ _ B]
   have E:((V.map (prjV P U)).take k).length<=1000000:=by rw[List.length_take];omega
   obtain⟨X,hX⟩:∃X,X=gt V k:=⟨_,rfl⟩;rw[<-hX] at M b aj hz;have HX:=Lib.hid (And.intro M (And.intro b (And.intro E hz)));clear M b E hz hX;go_wp2_with fail
   refine Calls.mono (project_ok P e.out.1 L _ _ _ U X Any O Sv (r.ext l) (Rows2.ext A l) e.out.2.1 HX.out.2.2.2 HX.out.1) ?_;rintro e8 w8 ⟨v8,rfl,N,m⟩;obtain⟨a8,c8,gj,_,_⟩:=(m.ints (by have:=e.out.2.2.2.2.2.2 X;omega)).shape;subst gj;have az:=OwnIn.of (F:=From L.heap.size) m (by have:=e.out.2.2.2.2.2.2 X;omega) (λk h _=>h);clear aj m;go_wp2_with (first|(at_builtin;refine wp_app_row rfl _ _ rfl w5.heap.size L w8 v7 _ ((V.map (prjV P U)).take k) (prjV P U X) rfl hO N az rfl rfl HX.out.2.2.1 q.size ?_;intro v9 w9 aA aB aS;have ak:=hO.extw q (Nat.le_refl _) aB)|fail)
   go_roundw
   case rel=>exact⟨k+1,v9,rfl,by go_num,by omega,ak,by rw[HX.out.2.1];exact aA⟩
   case measure=>simp[intOf];omega
  ·have aC:k=V.length:=by omega
   subst aC;rw[List.take_of_length_le (by rw[List.length_map];exact Nat.le_refl _)] at hO;have am:Rows2 Any L v7 (V.map (prjV P U)):=Rows2.sub (RowsD.rows (SlO.toD hO (by rw[List.length_map];omega))) (λ_ _ _=>trivial);obtain⟨al,cl,an,_,_⟩:=Sl.shape am;rw[List.length_map] at an;subst an;clear hO;go_wp2_with fail
   refine Calls.mono (generated_ok (quoP P U) GQ L _ _ (V.map (prjV P U)) Any Any (HW.out.2.ext q) am e.out.2.2.2.2.1 (by rw[List.length_map];omega)) ?_;rintro e8 w8 ⟨v8,rfl,N,m⟩
   obtain ⟨ad,nd,lT,jB⟩:∃a n c,v8=.slice a n c:=by
    obtain⟨a,c,h⟩:=RowsO.shapeC m (by show(cseq (quoP P U) (gU (quoP P U) (V.map (prjV P U)))).length<=_;have:=e.out.2.2.2.2.2.1;omega);exact⟨a,_,c,h⟩
   subst jB;have aD:=grown_trans l N;go_wp2;go_ret2
   exact⟨_,rfl,grown_trans z aD,_,_,_,rfl,m.weak (by have:=l.size;have:=z.size;omega)⟩
end Go.Proofs.YtldheeicjnncoaaGreat
namespace Go.Proofs.YtldheeicjnncoaaGreat
open Go.RowKit
def gsOk (P:Pr) (L:List (List Int)):Prop:=rconsB P=true/\∀x∈L,Vec P.orders x
open Classical in
noncomputable def gsC (P:Pr) (L:List (List Int)):Int:=if gsOk P L then (if 24<L.length then 3 else 0) else 1
open Classical in
noncomputable def gsL (P:Pr) (L:List (List Int)):List (List Int):=if gsOk P L/\¬ 24<L.length then cseq P (gU P L) else []
theorem gs_bad {P:Pr}{L:List (List Int)}(h:¬gsOk P L):gsC P L=1/\gsL P L=[]:=by
 unfold gsC gsL;rw[if_neg h,if_neg (λa=>h a.1)];exact⟨rfl,rfl⟩
theorem gs_big {P:Pr}{L:List (List Int)}(h:gsOk P L) (a:24<L.length):gsC P L=3/\gsL P L=[]:=by
 unfold gsC gsL;rw[if_pos h,if_pos a,if_neg (λb=>b.2 a)];exact⟨rfl,rfl⟩
theorem gs_ok {P:Pr}{L:List (List Int)}(h:gsOk P L) (a:¬ 24<L.length):gsC P L=0/\gsL P L=cseq P (gU P L):=by
 unfold gsC gsL;rw[if_pos h,if_neg a,if_pos ⟨h,a⟩];exact⟨rfl,rfl⟩
theorem iGenSub_ok (P:Pr) (w:World) (pv C:Value) (L:List (List Int)) (F r:Nat->Prop) (u:PresV F w pv P) (y:Rows2 r w C L) :
  Calls Tryz.prog 60 #[pv,C] w (Ret w λw' v=>∃a n c,v=.tuple #[.slice a n c,.int .i64 (gsC P L)]/\RowsO w.heap.size w' (.slice a n c) (gsL P L)):=by
 obtain⟨vo,vp,vc,rfl,h3⟩:=u;have m:=PresP.box h3 28;have j:Ext w (w.alloc (.cells #[vo,vp,vc] 28)):=World.grownBy_alloc _ _ _;have p:(w.alloc (.cells #[vo,vp,vc] 28)).heap.size=w.heap.size+1:=by simp
 have q:=Rows2.ext y j;obtain⟨O,cl,rfl,_,_⟩:=Sl.shape y;have hE:=areElements_ok P _ _ _ L Any r m q;have H:=Lib.hid p;clear p y;go_enter Tryz.func60,Tryz.ntmps60;go_wp2_with fail
 generalize z:w.alloc (.cells #[vo,vp,vc] 28)=w0 at *;clear z;refine Calls.mono hE ?_;rintro Q I ⟨v1,rfl,b,r1,rfl,hr1⟩;clear hE;cases r1 with
 | false=>
  have k:¬gsOk P L:=λh=>by have:=hr1.2 h;cases this
  have l:=Lib.hid (gs_bad k);clear k hr1;go_wp2;go_ret2
  exact⟨_,rfl,grown_trans j b,none,0,0,by rw[l.out.1];rfl,by rw[l.out.2];exact SlO.nil _ _ _ _⟩
 | true=>
  have i:gsOk P L:=hr1.1 rfl;clear hr1;by_cases D:24<L.length
  ·have l:=Lib.hid (gs_big i D);clear i
   go_wp2;go_ret2
   exact⟨_,rfl,grown_trans j b,none,0,0,by rw[l.out.1];rfl,by rw[l.out.2];exact SlO.nil _ _ _ _⟩
  ·have l:=Lib.hid (gs_ok i D)
   have G:=grp_of_r i.1;have E:=Lib.hid i.2;clear i;have J:L.length<=24:=by omega
   go_wp2_with fail
   refine Calls.mono (generated_ok P G I _ _ L Any r (m.ext b) (Rows2.ext q b) E.out (by omega)) ?_;rintro R S ⟨v2,rfl,A,hO⟩;have B:(cseq P (gU P L)).length<=P.orders.length:=G.cseq_len (G.genP_sub E.out);have K:=G.v.n6;obtain⟨U,nc,cc,ey⟩:∃a n c,v2=Value.slice a n c:=by obtain⟨a,c,e,_⟩:=Sl.shape (RowsD.rows (SlO.toD hO (by show(cseq P (gU P L)).length<=_;omega)));exact⟨_,_,_,e⟩
   subst ey;have M:=Lib.hid hO;clear hO B;have N:=b.size;go_wp2;go_ret2
   exact⟨_,rfl,grown_trans j (grown_trans b A),_,_,_,by rw[l.out.1];rfl,by rw[l.out.2];exact M.out.weak (by have:=H.out;omega)⟩
end Go.Proofs.YtldheeicjnncoaaGreat
namespace Go.Proofs.YtldheeicjnncoaaGreat
open Go.RowKit
attribute [local go_sem ↓] Go.wp_at_zero Go.wp_at_succ
theorem lawQn_ok (w:World) (cv:Value) (bs:List Int) (S:Nat->Prop) (hb:Bytes S w cv bs) :
  Calls Tryz.prog 7 #[cv] w (Ret w λ_ v=>v=.bool true):=by
 obtain⟨ca,cc,rfl,_,_⟩:=Sl.shape hb;go_enter Tryz.func7,Tryz.ntmps7;go_wp2_with fail
 refine Calls.mono (big_ok w _ bs S hb) ?_;rintro _ _ ⟨rfl,rfl⟩;by_cases b5:4096<bs.length
 ·have hd:decide (4096<bs.length)=true:=by simp[b5]
  rw[hd];go_wp2;go_ret;exact⟨_,rfl,grown_refl _ _,rfl⟩
 have dN:bs.length<=4096:=by omega
 have hd:decide (4096<bs.length)=false:=by simp[b5]
 rw[hd];clear hd b5;go_wp2_with fail
 refine Calls.mono (DrawNaturalHom_ok w _ bs S hb) ?_;rintro e1 w1 ⟨v1,rfl,hg1,vo,vp,vc,rv,P,rfl,hPl,hP,⟨U,_,_,hU⟩⟩;obtain⟨a1,n1,c1,hy1⟩:∃a n c,vo=.slice a n c:=by obtain⟨a,c,e,_⟩:=hP.o.shape;exact⟨_,_,_,e⟩
 obtain⟨a2,n2,c2,hy2⟩:∃a n c,vp=.slice a n c:=by obtain⟨a,c,e,_⟩:=Sl.shape hP.p;exact⟨_,_,_,e⟩
 obtain⟨a3,n3,c3,fV⟩:∃a n c,vc=.slice a n c:=by obtain⟨a,c,e,_⟩:=Sl.shape hP.c;exact⟨_,_,_,e⟩
 subst hy1 hy2 fV;obtain⟨ra,rn,rc,hrr⟩:∃a n c,rv=.slice a n c:=by obtain⟨a,c,e,_⟩:=Sl.shape hU;exact⟨_,_,_,e⟩
 subst hrr;have a0:Ext w1 (w1.alloc (.cells #[.slice a1 n1 c1,.slice a2 n2 c2,.slice a3 n3 c3] 28)):=World.grownBy_alloc _ _ _;have hX:=Box3.made w1 28 (.slice a1 n1 c1) (.slice a2 n2 c2) (.slice a3 n3 c3);have cS:=hP.ext a0;have cT:=Rows2.ext hU a0;have i:=grown_trans hg1 a0;have cU:=Bytes.ext hb i;have bo:=Lib.hid (And.intro cS (And.intro cT (And.intro i cU)));clear cS cT i cU a0 hP hU hg1 hb;obtain⟨pb,b'⟩:∃pb,pb=w1.heap.size:=⟨_,rfl⟩;rw[<-b'] at hX;have HP:=Lib.hid b';clear b';go_wp2_with fail
 rw[<-HP.out];generalize w1.alloc (.cells #[.slice a1 n1 c1,.slice a2 n2 c2,.slice a3 n3 c3] 28)=w2 at *;clear HP
 have bN:∀w',Ext w2 w'->Box3 w' pb (.slice a1 n1 c1) (.slice a2 n2 c2) (.slice a3 n3 c3)/\PresV (From w.heap.size) w' (.agg #[.slice a1 n1 c1,.slice a2 n2 c2,.slice a3 n3 c3]) P/\Rows2 (From w.heap.size) w' (.slice ra rn rc) U/\Bytes S w' (.slice ca bs.length cc) bs:=
  λw' h=>⟨hX.ext h,⟨_,_,_,rfl,bo.out.1.ext h⟩,Rows2.ext bo.out.2.1 h,Bytes.ext bo.out.2.2.2 h⟩
 have B:=Lib.hid bN;clear bN hX;have i:=grown_refl w2 none
 obtain rfl:rn=U.length:=by
  obtain⟨a,c,e,_⟩:=Sl.shape (B.out w2 i).2.2.1;cases e;rfl
 obtain⟨ce,jw,jx,kF,_⟩:=id (B.out w2 i).1;go_wp2_with fail
 clear ce jw jx kF;refine Calls.mono (iNat_ok P w2 _ _ U _ _ (B.out w2 i).2.1 (B.out w2 i).2.2.1) ?_;rintro e3 w3 ⟨v3,rfl,dg,ad,ae,af,ag,ah,ai,aj,ak,al,am,an,ao,ap,aq,ar,au,av,aw,ax,ay,az,rfl,a4⟩;replace i:=grown_trans i dg
 clear dg;have m:Ext w3 (w3.alloc (.cells #[.slice ad ae af,.slice ag ah ai,.slice aj ak al,.slice am an ao,.slice ap aq ar,.slice au av aw,.slice ax ay az] 62)):=World.grownBy_alloc _ _ _;have E:=HomC.made w3 62 (.slice ad ae af) (.slice ag ah ai) (.slice aj ak al) (.slice am an ao) (.slice ap aq ar) (.slice au av aw) (.slice ax ay az);obtain⟨Hb,cf⟩:∃b,b=w3.heap.size:=⟨_,rfl⟩;rw[<-cf] at E;have cV:=Lib.hid cf;clear cf;have a5:∀w',Ext (w3.alloc (.cells #[.slice ad ae af,.slice ag ah ai,.slice aj ak al,.slice am an ao,.slice ap aq ar,.slice au av aw,.slice ax ay az] 62)) w'->HomC w' Hb (.slice ad ae af) (.slice ag ah ai) (.slice aj ak al) (.slice am an ao) (.slice ap aq ar) (.slice au av aw) (.slice ax ay az)/\PresV Any w' (.agg #[.slice ad ae af,.slice ag ah ai,.slice aj ak al]) (nhP P U)/\PresV Any w' (.agg #[.slice am an ao,.slice ap aq ar,.slice au av aw]) (nhQ P U)/\Rows2 Any w' (.slice ax ay az) (nhI P U)/\HomV Any w' (.agg #[.slice ad ae af,.slice ag ah ai,.slice aj ak al,.slice am an ao,.slice ap aq ar,.slice au av aw,.slice ax ay az]) (nhP P U) (nhQ P U) (nhI P U):=λw' h=>⟨E.ext h,(a4.ext (grown_trans m h)).parts.1,(a4.ext (grown_trans m h)).parts.2.1,(a4.ext (grown_trans m h)).parts.2.2,a4.ext (grown_trans m h)⟩;have K:=Lib.hid a5;clear a5 E a4;have l:=grown_refl (w3.alloc (.cells #[.slice ad ae af,.slice ag ah ai,.slice aj ak al,.slice am an ao,.slice ap aq ar,.slice au av aw,.slice ax ay az] 62)) none;replace i:=grown_trans i m
 clear m;obtain⟨r,fW,fZ,gf,_⟩:=id (B.out (w3.alloc (.cells #[.slice ad ae af,.slice ag ah ai,.slice aj ak al,.slice am an ao,.slice ap aq ar,.slice au av aw,.slice ax ay az] 62)) i).1;go_wp2_with fail
 clear r fW fZ gf;rw[<-cV.out];generalize (w3.alloc (.cells #[.slice ad ae af,.slice ag ah ai,.slice aj ak al,.slice am an ao,.slice ap aq ar,.slice au av aw,.slice ax ay az] 62))=w4 at *;clear cV;refine Calls.mono (sNat_ok P w4 _ _ U _ _ (B.out w4 i).2.1 (B.out w4 i).2.2.1) ?_;rintro e5 w5 ⟨v5,rfl,dg,aA,aB,aC,aD,aE,aF,aG,aH,aI,aJ,aK,aL,aM,aN,aO,aQ,aR,aS,aT,aU,aV,rfl,a6⟩;replace i:=grown_trans i dg
 replace l:=grown_trans l dg
 have cW:(cpnC P U != cpnC P U)=false:=by simp
 clear dg;have m:Ext w5 (w5.alloc (.cells #[.slice aA aB aC,.slice aD aE aF,.slice aG aH aI,.slice aJ aK aL,.slice aM aN aO,.slice aQ aR aS,.slice aT aU aV] 62)):=World.grownBy_alloc _ _ _;have E:=HomC.made w5 62 (.slice aA aB aC) (.slice aD aE aF) (.slice aG aH aI) (.slice aJ aK aL) (.slice aM aN aO) (.slice aQ aR aS) (.slice aT aU aV);obtain⟨Rb,cg⟩:∃b,b=w5.heap.size:=⟨_,rfl⟩;rw[<-cg] at E;have cX:=Lib.hid cg;clear cg;have a5:∀w',Ext (w5.alloc (.cells #[.slice aA aB aC,.slice aD aE aF,.slice aG aH aI,.slice aJ aK aL,.slice aM aN aO,.slice aQ aR aS,.slice aT aU aV] 62)) w'->HomC w' Rb (.slice aA aB aC) (.slice aD aE aF) (.slice aG aH aI) (.slice aJ aK aL) (.slice aM aN aO) (.slice aQ aR aS) (.slice aT aU aV)/\PresV Any w' (.agg #[.slice aA aB aC,.slice aD aE aF,.slice aG aH aI]) (nhP P U)/\PresV Any w' (.agg #[.slice aJ aK aL,.slice aM aN aO,.slice aQ aR aS]) (nhQ P U)/\Rows2 Any w' (.slice aT aU aV) (nhI P U)/\HomV Any w' (.agg #[.slice aA aB aC,.slice aD aE aF,.slice aG aH aI,.slice aJ aK aL,.slice aM aN aO,.slice aQ aR aS,.slice aT aU aV]) (nhP P U) (nhQ P U) (nhI P U):=λw' h=>⟨E.ext h,(a6.ext (grown_trans m h)).parts.1,(a6.ext (grown_trans m h)).parts.2.1,(a6.ext (grown_trans m h)).parts.2.2,a6.ext (grown_trans m h)⟩;have HR:=Lib.hid a5;clear a5 E a6;have q:=grown_refl (w5.alloc (.cells #[.slice aA aB aC,.slice aD aE aF,.slice aG aH aI,.slice aJ aK aL,.slice aM aN aO,.slice aQ aR aS,.slice aT aU aV] 62)) none;replace i:=grown_trans i m
 replace l:=grown_trans l m
 clear m;obtain⟨F,gH,gI,gJ,gK,gL,gM⟩:=id (K.out (w5.alloc (.cells #[.slice aA aB aC,.slice aD aE aF,.slice aG aH aI,.slice aJ aK aL,.slice aM aN aO,.slice aQ aR aS,.slice aT aU aV] 62)) l).1;obtain⟨a7,jC,jD,jE,jF,jG,jH⟩:=id (HR.out (w5.alloc (.cells #[.slice aA aB aC,.slice aD aE aF,.slice aG aH aI,.slice aJ aK aL,.slice aM aN aO,.slice aQ aR aS,.slice aT aU aV] 62)) q).1;go_wp2_with fail
 clear F gH gI gJ gK gL gM a7 jC jD jE jF jG jH;rw[<-cX.out];generalize (w5.alloc (.cells #[.slice aA aB aC,.slice aD aE aF,.slice aG aH aI,.slice aJ aK aL,.slice aM aN aO,.slice aQ aR aS,.slice aT aU aV] 62))=w6 at *;clear cX;refine Calls.mono (likeP9_ok _ _ (nhP P U) w6 Any Any (K.out w6 l).2.1 (HR.out w6 q).2.1) ?_;rintro e7 w7 ⟨v7,rfl,dg,rfl⟩;replace i:=grown_trans i dg
 replace l:=grown_trans l dg
 replace q:=grown_trans q dg
 clear dg;obtain⟨F,gH,gI,gJ,gK,gL,gM⟩:=id (K.out w7 l).1;obtain⟨a7,jC,jD,jE,jF,jG,jH⟩:=id (HR.out w7 q).1;go_wp2_with fail
 clear F gH gI gJ gK gL gM a7 jC jD jE jF jG jH;refine Calls.mono (likeP9_ok _ _ (nhQ P U) w7 Any Any (K.out w7 l).2.2.1 (HR.out w7 q).2.2.1) ?_;rintro e8 w8 ⟨v8,rfl,dg,rfl⟩;replace i:=grown_trans i dg
 replace l:=grown_trans l dg
 replace q:=grown_trans q dg
 clear dg;obtain⟨F,gH,gI,gJ,gK,gL,gM⟩:=id (K.out w8 l).1;obtain⟨a7,jC,jD,jE,jF,jG,jH⟩:=id (HR.out w8 q).1;go_wp2_with fail
 clear F gH gI gJ gK gL gM a7 jC jD jE jF jG jH;refine Calls.mono (like29_ok _ _ (nhI P U) (nhI P U) w8 Any Any (K.out w8 l).2.2.2.1 (HR.out w8 q).2.2.2.1) ?_;rintro e9 w9 ⟨v9,rfl,dg,rfl⟩;replace i:=grown_trans i dg
 replace l:=grown_trans l dg
 replace q:=grown_trans q dg
 rw[show eqB (nhI P U) (nhI P U)=true from eqB_true.2 rfl];clear HR q cW;clear dg;by_cases hz:cpnC P U=0
 case neg=>
  have fc:(cpnC P U != 0)=true:=by simpa using hz
  clear hz;generalize cpnC P U=cc at *;go_wp2;go_ret;exact⟨_,rfl,grown_trans bo.out.2.2.1 i,rfl⟩
 obtain⟨hr,hU,bj,a8⟩:=nh_facts hz;rw[(nh_ok hz).1,(nh_ok hz).2.1,(nh_ok hz).2.2] at K;rw[hz];clear hz;have G:=grp_of_r hr;have ci:=quo_cons G hr hU a8;have GQ:=grp_of_r ci;have fe:=G.v.n6;have ff:=fr_len P U;have cj:=quo_n P U;have fg:=G.sub_len hU;have c0:=q_homB hr hU a8;have bS:=q_ker hr hU a8;have bT:=q_img hr hU a8;have c4:=q_size hr hU;have c5:∀X,(prjV P U X).length<=6:=λX=>by unfold prjV;rw[List.length_map];omega
 have HF:=Lib.hid (And.intro ci (And.intro c0 (And.intro bS (And.intro bT (And.intro c4 c5)))));clear ci c0 bS bT c4 c5;obtain⟨ce,jw,jx,kF,_⟩:=id (B.out w9 i).1;go_wp2_with fail
 clear ce jw jx kF;refine Calls.mono (iQuoP_ok P hr w9 _ _ U _ _ (B.out w9 i).2.1 (B.out w9 i).2.2.1 hU bj) ?_;rintro fh a9 ⟨v10,rfl,dg,L,I,M,N,O,Q,R,aa,ab,rfl,bU⟩;replace i:=grown_trans i dg
 replace l:=grown_trans l dg
 clear dg;have m:Ext a9 (a9.alloc (.cells #[.slice L I M,.slice N O Q,.slice R aa ab] 28)):=World.grownBy_alloc _ _ _;have E:=Box3.made a9 28 (.slice L I M) (.slice N O Q) (.slice R aa ab);obtain⟨Qb,ck⟩:∃b,b=a9.heap.size:=⟨_,rfl⟩;rw[<-ck] at E;have c6:=Lib.hid ck;clear ck;have a5:∀w',Ext (a9.alloc (.cells #[.slice L I M,.slice N O Q,.slice R aa ab] 28)) w'->Box3 w' Qb (.slice L I M) (.slice N O Q) (.slice R aa ab)/\PresV Any w' (.agg #[.slice L I M,.slice N O Q,.slice R aa ab]) (quoP P U):=λw' h=>⟨E.ext h,_,_,_,rfl,(bU).ext (grown_trans m h)⟩;have HQ:=Lib.hid a5;clear a5 E bU;have A:=grown_refl (a9.alloc (.cells #[.slice L I M,.slice N O Q,.slice R aa ab] 28)) none;replace i:=grown_trans i m
 replace l:=grown_trans l m
 clear m;obtain⟨r,fW,fZ,gf,_⟩:=id (B.out (a9.alloc (.cells #[.slice L I M,.slice N O Q,.slice R aa ab] 28)) i).1;go_wp2_with fail
 clear r fW fZ gf;rw[<-c6.out];generalize (a9.alloc (.cells #[.slice L I M,.slice N O Q,.slice R aa ab] 28))=cm at *;clear c6;refine Calls.mono (iOrder_ok P hr cm _ _ U _ _ (B.out cm i).2.1 (B.out cm i).2.2.1 hU) ?_;rintro fi D ⟨fj,rfl,dg,rfl⟩;replace i:=grown_trans i dg
 replace l:=grown_trans l dg
 replace A:=grown_trans A dg
 clear dg;go_wp2;have bp:∀w',Ext D w'->w'.cell? ⟨Qb,0,none⟩=some (.slice L I M):=λw' h=>(HQ.out w' (grown_trans A h)).1.2.1;have bq:∀w',Ext D w'->w'.cell? ⟨Qb,1,none⟩=some (.slice N O Q):=λw' h=>(HQ.out w' (grown_trans A h)).1.2.2.1;have br:∀w',Ext D w'->w'.cell? ⟨Qb,2,none⟩=some (.slice R aa ab):=λw' h=>(HQ.out w' (grown_trans A h)).1.2.2.2.1;have dR:∀w',Ext D w'->w'.cell? ⟨Hb,0,none⟩=some (.slice ad ae af):=λw' h=>(K.out w' (grown_trans l h)).1.1;have dS:∀w',Ext D w'->w'.cell? ⟨Hb,1,none⟩=some (.slice ag ah ai):=λw' h=>(K.out w' (grown_trans l h)).1.2.1;have dU:∀w',Ext D w'->w'.cell? ⟨Hb,2,none⟩=some (.slice aj ak al):=λw' h=>(K.out w' (grown_trans l h)).1.2.2.1;have dV:∀w',Ext D w'->w'.cell? ⟨Hb,3,none⟩=some (.slice am an ao):=λw' h=>(K.out w' (grown_trans l h)).1.2.2.2.1;have dW:∀w',Ext D w'->w'.cell? ⟨Hb,4,none⟩=some (.slice ap aq ar):=λw' h=>(K.out w' (grown_trans l h)).1.2.2.2.2.1;have dX:∀w',Ext D w'->w'.cell? ⟨Hb,5,none⟩=some (.slice au av aw):=λw' h=>(K.out w' (grown_trans l h)).1.2.2.2.2.2.1;have dY:∀w',Ext D w'->w'.cell? ⟨Hb,6,none⟩=some (.slice ax ay az):=λw' h=>(K.out w' (grown_trans l h)).1.2.2.2.2.2.2;have cp:∀w',Ext D w'->w'.cell? ⟨pb,0,none⟩=some (.slice a1 n1 c1):=λw' h=>(B.out w' (grown_trans i h)).1.2.1;have cq:∀w',Ext D w'->w'.cell? ⟨pb,1,none⟩=some (.slice a2 n2 c2):=λw' h=>(B.out w' (grown_trans i h)).1.2.2.1;have cr:∀w',Ext D w'->w'.cell? ⟨pb,2,none⟩=some (.slice a3 n3 c3):=λw' h=>(B.out w' (grown_trans i h)).1.2.2.2.1
 have c7:IntKind.i64.wrap (ordP (quoP P U)*prodU P U U.length)=ordP P:=by
  rw[HF.out.2.2.2.2.1];have h1:=G.v.ordP_pos;have h2:ordP P<=729:=G.v.le729;exact IntWalk.i64_in _ (by omega)
 have dZ:(ordP P == ordP P)=true:=by simp
 go_region_held3 (λw'=>Ext D w') (first|exact grown_drew _ _|assumption)
  (first
   | (go_at_call 15;refine Calls.mono (Calls.rel2 (w0:=D) (by first|exact grown_drew _ _|assumption) (likeP9_ok _ _ (quoP P U) _ Any Any (HQ.out _ (grown_trans A (by first|exact grown_drew _ _|assumption))).2 (K.out _ (grown_trans l (by first|exact grown_drew _ _|assumption))).2.2.1)) ?_;rintro eA wA ⟨vA,rfl,eu,ku,_,rfl⟩)
   | ((fail_if_success (have _h:=gm));go_at_call 23;refine Calls.mono (Calls.rel2 (w0:=D) (by assumption) (size9_ok (quoP P U) HF.out.1 _ _ Any (HQ.out _ (grown_trans A (by assumption))).2)) ?_;rintro eC wC ⟨vC,rfl,gm,lW,_,rfl⟩)
   | (go_at_call 23;refine Calls.mono (Calls.rel2 (w0:=D) (by assumption) (size9_ok P hr _ _ _ (B.out _ (grown_trans i (by assumption))).2.1)) ?_;rintro eE wE ⟨vE,rfl,aW,nZ,_,rfl⟩)
   | (go_at_call 52;refine Calls.mono (Calls.rel2 (w0:=D) (by assumption) (iIsHom_ok P (quoP P U) (qIm P U) _ _ Any (K.out _ (grown_trans l (by assumption))).2.2.2.2)) ?_;rintro eI wI ⟨vI,rfl,jI,n9,_,rI,rfl,lX⟩;obtain rfl:rI=true:=lX.2 HF.out.2.1;clear lX))
 clear c7 dZ eu ku gm lW aW nZ n9 bp bq br dR dS dU dV dW dX dY cp cq cr;obtain⟨cs,rfl⟩:∃wz:World,wz=wI:=⟨_,rfl⟩;replace i:=grown_trans i jI
 replace l:=grown_trans l jI
 replace A:=grown_trans A jI
 clear jI;obtain⟨F,gH,gI,gJ,gK,gL,gM⟩:=id (K.out cs l).1;go_wp2_with fail
 clear F gH gI gJ gK gL gM;refine Calls.mono (iKer_ok P (quoP P U) (qIm P U) cs _ Any (K.out cs l).2.2.2.2) ?_;rintro fl bk ⟨fm,rfl,dg,ka,kn,kc,rfl,ct⟩;replace i:=grown_trans i dg
 replace l:=grown_trans l dg
 replace A:=grown_trans A dg
 rw[HF.out.2.2.1.1];rw[HF.out.2.2.1.2] at ct;have c9:Rows2 Any bk (.slice ka kn kc) (U):=Rows2.sub (RowsD.rows (SlO.toD ct (by omega))) (λ_ _ _=>trivial);have c':∀w',Ext bk w'->Rows2 Any w' (.slice ka kn kc) (U):=λw' h=>Rows2.ext c9 h;have HK:=Lib.hid c';clear c9 c';have bl:=grown_refl bk none;clear ct;clear dg;obtain⟨F,gH,gI,gJ,gK,gL,gM⟩:=id (K.out bk l).1;go_wp2_with fail
 clear F gH gI gJ gK gL gM;refine Calls.mono (iImg_ok P (quoP P U) (qIm P U) bk _ Any (K.out bk l).2.2.2.2 HF.out.2.1) ?_;rintro fo bt ⟨fp,rfl,dg,ia,lY,ic,rfl,lZ⟩;replace i:=grown_trans i dg
 replace l:=grown_trans l dg
 replace A:=grown_trans A dg
 replace bl:=grown_trans bl dg
 have bV:lY=(quoP P U).orders.length:=by
  obtain⟨a,c,e⟩:=RowsO.shapeC lZ (by rw[HF.out.2.2.2.1];omega);cases e
  exact HF.out.2.2.2.1
 have bW:I=(quoP P U).orders.length:=by
  obtain⟨x,y,z,e,h3⟩:=(HQ.out bt A).2;obtain⟨a,c,e2,_⟩:=h3.o.shape;injection e with e;have e:=congrArg Array.toList e;simp only[List.cons.injEq,and_true] at e;rw[<-e.1] at e2;cases e2;rfl
 obtain rfl:I=lY:=by rw[bV,bW]
 clear lZ bV bW;clear dg;obtain⟨bu,kG,kH,kI,_⟩:=id (HQ.out bt A).1;go_wp2_with fail
 clear bu kG kH kI;refine Calls.mono (like29_ok _ _ U U bt Any _ (HK.out bt bl) (B.out bt i).2.2.1) ?_;rintro fq u ⟨fr,rfl,dg,rfl⟩;replace i:=grown_trans i dg
 replace l:=grown_trans l dg
 replace A:=grown_trans A dg
 replace bl:=grown_trans bl dg
 rw[show eqB U U=true from eqB_true.2 rfl];clear HK bl;clear dg;obtain⟨bu,kG,kH,kI,_⟩:=id (HQ.out u A).1;go_wp2_with fail
 clear bu kG kH kI;have ac:=i;have H:=A;have bX:=l;have q:=grown_refl u none;refine Calls.mono (roll_ok u _ bs S 8 dN (B.out u i).2.2.2) ?_;rintro fs d' ⟨ft,rfl,dg,db,rfl,bF,kJ⟩;replace i:=grown_trans i dg
 replace l:=grown_trans l dg
 replace A:=grown_trans A dg
 replace q:=grown_trans q dg
 have dd:=kJ.lt.2;have de:=Lib.hid kJ;clear kJ;clear dg;clear i A l;obtain⟨wR,rfl⟩:∃wR:World,wR=d':=⟨_,rfl⟩;have bp:∀w',Ext u w'->w'.cell? ⟨Qb,0,none⟩=some (.slice L I M):=λw' h=>(HQ.out w' (grown_trans H h)).1.2.1;have bq:∀w',Ext u w'->w'.cell? ⟨Qb,1,none⟩=some (.slice N O Q):=λw' h=>(HQ.out w' (grown_trans H h)).1.2.2.1;have br:∀w',Ext u w'->w'.cell? ⟨Qb,2,none⟩=some (.slice R aa ab):=λw' h=>(HQ.out w' (grown_trans H h)).1.2.2.2.1;have cp:∀w',Ext u w'->w'.cell? ⟨pb,0,none⟩=some (.slice a1 n1 c1):=λw' h=>(B.out w' (grown_trans ac h)).1.2.1;have cq:∀w',Ext u w'->w'.cell? ⟨pb,1,none⟩=some (.slice a2 n2 c2):=λw' h=>(B.out w' (grown_trans ac h)).1.2.2.1;have cr:∀w',Ext u w'->w'.cell? ⟨pb,2,none⟩=some (.slice a3 n3 c3):=λw' h=>(B.out w' (grown_trans ac h)).1.2.2.2.1;go_wp2
 go_region_held3 (λw'=>Ext u w') (first|exact grown_trans q (grown_drew _ _)|assumption)
  (first
   | ((fail_if_success (have _h:=a0));go_at_call 56;refine Calls.mono (draw9_ok P G.v (db+1) wR.drew db _ (by have:=(grown_drew wR none).size;omega) (de.out.ext (grown_drew _ _)) (PresV.off (B.out u ac).2.1 (grown_trans q (grown_drew _ _)) bF)) ?_;rintro eX wX ⟨vX,rfl,bY,X,cu,bG,cw⟩;have a0:Ext u wX:=grown_own (grown_trans q (grown_drew _ _)) bY (λj hj dh=>by have:=Option.some.inj hj;omega);have bZ:db+1<=wX.heap.size:=(by have:=cw.lt.2;omega);have cx:=ints_of_own cu (S:=λk=>k≠db) (by rw[bG.1];omega) (λk hk e=>by have:=(cu.lt k hk).1;have:=(grown_drew wR none).size;omega);obtain⟨xa,xc,hxs,_,_⟩:=cx.shape;subst hxs)
   | (go_at_call 56;refine Calls.mono (draw9_ok (quoP P U) GQ.v (db+1) wX db _ bZ cw (PresV.off (HQ.out u H).2 a0 bF)) ?_;rintro eY wY ⟨vY,rfl,bv,Y,cy,bw,kK⟩;have bH:Ext u wY:=grown_own a0 bv (λj hj dh=>by have:=Option.some.inj hj;omega);have bI:=ints_of_own cy (S:=λk=>k≠db) (by rw[bw.1];omega) (λk hk e=>by have:=(cy.lt k hk).1;omega);obtain⟨ya,yc,hys,_,_⟩:=bI.shape;subst hys))
 clear bp bq br cp cq cr;have bx:Ints Any wY (.slice xa X.length xc) X:=Ints.mono cx (frame_of bv (λk hk _=>⟨trivial,λe=>hk (Option.some.inj e).symm⟩));obtain⟨xl,di⟩:∃xl,xl=X.length:=⟨_,rfl⟩;obtain⟨yl,dj⟩:∃yl,yl=Y.length:=⟨_,rfl⟩;rw[<-di] at bx ⊢;rw[<-dj] at bI ⊢;have b1:=q_val hr hU a8 bG;have dk:=(lift_zr G.v bw).1;have dl:=prj_lift G hr hU bw;have dm:db+1<=wY.heap.size:=by have:=kK.lt.2;omega
 have dp:∀w',Ext wY w'->Ints Any w' (.slice xa xl xc) X:=λw' h=>Ints.ext bx h;have dq:∀w',Ext wY w'->Ints (λk=>k≠db) w' (.slice ya yl yc) Y/\Dice (db+1) w' db/\Ext u w':=λw' h=>⟨Ints.ext bI h,kK.ext h,grown_trans bH h⟩;have HX:=Lib.hid dp;have HY:=Lib.hid dq;have HV:=Lib.hid (And.intro bG (And.intro bw (And.intro b1 (And.intro dk (And.intro dl dm)))));clear cx bx di dj cu bY a0 cw cy bI bw bG bv kK b1 dk dl dm dp dq bZ dd q de;have i:=grown_trans ac bH;have l:=grown_trans bX bH;have bg:=grown_refl wY none;have C:=grown_refl wY none;clear bH;obtain⟨bz,rfl⟩:∃wz:World,wz=wY:=⟨_,rfl⟩;obtain⟨r,fW,fZ,gf,_⟩:=id (B.out bz i).1;go_wp2_with fail
 clear r fW fZ gf;refine Calls.mono (iPrj_ok P hr bz _ _ _ U X _ _ _ (B.out bz i).2.1 (B.out bz i).2.2.1 (HX.out bz bg) hU bj HV.out.1) ?_;rintro fu bh ⟨v19,rfl,dg,da,dn,dc,rfl,l6⟩;replace i:=grown_trans i dg
 replace l:=grown_trans l dg
 replace bg:=grown_trans bg dg
 replace C:=grown_trans C dg
 have dr:Ints Any bh (.slice da dn dc) (prjV P U X):=l6.ints (by have:=HF.out.2.2.2.2.2 X;omega);have ds:∀w',Ext bh w'->Ints Any w' (.slice da dn dc) (prjV P U X):=λw' h=>Ints.ext dr h;have HD:=Lib.hid ds;clear dr ds;have aX:=grown_refl bh none;clear l6;clear dg;obtain⟨F,gH,gI,gJ,gK,gL,gM⟩:=id (K.out bh l).1;go_wp2_with fail
 clear F gH gI gJ gK gL gM;refine Calls.mono (iApply_ok P (quoP P U) (qIm P U) bh _ _ X Any Any (K.out bh l).2.2.2.2 HF.out.2.1 (HX.out bh bg) HV.out.1) ?_;rintro fv ba ⟨v20,rfl,dg,va,vn,dt,rfl,cA⟩;replace i:=grown_trans i dg
 replace l:=grown_trans l dg
 replace bg:=grown_trans bg dg
 replace C:=grown_trans C dg
 replace aX:=grown_trans aX dg
 have b2:homV (quoP P U) (qIm P U) X=prjV P U X:=HV.out.2.2.1;rw[b2] at cA;clear b2;have du:Ints Any ba (.slice va vn dt) (prjV P U X):=cA.ints (by have:=HF.out.2.2.2.2.2 X;omega);have dv:∀w',Ext ba w'->Ints Any w' (.slice va vn dt) (prjV P U X):=λw' h=>Ints.ext du h;have HE:=Lib.hid dv;clear du dv;have aW:=grown_refl ba none;clear cA HX bg K l bX;clear dg;obtain⟨r,fW,fZ,gf,_⟩:=id (B.out ba i).1;go_wp2_with fail
 clear r fW fZ gf;refine Calls.mono (iLift_ok P hr ba _ _ _ U Y _ _ _ (B.out ba i).2.1 (B.out ba i).2.2.1 (HY.out ba C).1 hU bj HV.out.2.1) ?_;rintro fw bb ⟨fx,rfl,dg,la,ln,lc,rfl,l7⟩;replace i:=grown_trans i dg
 replace C:=grown_trans C dg
 replace aX:=grown_trans aX dg
 replace aW:=grown_trans aW dg
 have dw:Ints Any bb (.slice la ln lc) (liftV P U Y):=l7.ints (by rw[HV.out.2.2.2.1.1];omega);have dx:∀w',Ext bb w'->Ints Any w' (.slice la ln lc) (liftV P U Y):=λw' h=>Ints.ext dw h;have HL:=Lib.hid dx;clear dw dx;have bJ:=grown_refl bb none;clear l7;clear dg;obtain⟨r,fW,fZ,gf,_⟩:=id (B.out bb i).1;go_wp2_with fail
 clear r fW fZ gf;refine Calls.mono (iPrj_ok P hr bb _ _ _ U (liftV P U Y) _ _ _ (B.out bb i).2.1 (B.out bb i).2.2.1 (HL.out bb bJ) hU bj HV.out.2.2.2.1) ?_;rintro fy bm ⟨fz,rfl,dg,ga,gn,gc,rfl,cB⟩;replace i:=grown_trans i dg
 replace C:=grown_trans C dg
 replace aX:=grown_trans aX dg
 replace aW:=grown_trans aW dg
 replace bJ:=grown_trans bJ dg
 rw[HV.out.2.2.2.2.1] at cB;have b3:Ints Any bm (.slice ga gn gc) (Y):=cB.ints (by rw[HV.out.2.1.1,cj];omega);have b4:∀w',Ext bm w'->Ints Any w' (.slice ga gn gc) (Y):=λw' h=>Ints.ext b3 h;have dy:=Lib.hid b4;clear b3 b4;have aZ:=grown_refl bm none;clear cB HL bJ;clear dg;go_wp2_with fail
 refine Calls.mono (likeInts_ok _ _ (prjV P U X) (prjV P U X) bm Any Any (HD.out bm aX) (HE.out bm aW)) ?_;rintro fA cC ⟨fB,rfl,dg,rfl⟩;replace i:=grown_trans i dg
 replace C:=grown_trans C dg
 replace aX:=grown_trans aX dg
 replace aW:=grown_trans aW dg
 replace aZ:=grown_trans aZ dg
 rw[show eqB (prjV P U X) (prjV P U X)=true from eqB_true.2 rfl];clear HD aX HE aW;clear dg;go_wp2_with fail
 refine Calls.mono (likeInts_ok _ _ Y Y cC Any _ (dy.out cC aZ) (HY.out cC C).1) ?_;rintro fC bK ⟨fD,rfl,dg,rfl⟩;replace i:=grown_trans i dg
 replace C:=grown_trans C dg
 replace aZ:=grown_trans aZ dg
 rw[show eqB Y Y=true from eqB_true.2 rfl];clear dy aZ;clear dg;have bp:∀w',Ext u w'->w'.cell? ⟨Qb,0,none⟩=some (.slice L I M):=λw' h=>(HQ.out w' (grown_trans H h)).1.2.1;have bq:∀w',Ext u w'->w'.cell? ⟨Qb,1,none⟩=some (.slice N O Q):=λw' h=>(HQ.out w' (grown_trans H h)).1.2.2.1;have br:∀w',Ext u w'->w'.cell? ⟨Qb,2,none⟩=some (.slice R aa ab):=λw' h=>(HQ.out w' (grown_trans H h)).1.2.2.2.1;have q:=(HY.out bK C).2.2;have dz:db+1<=bK.heap.size:=by have:=(HY.out bK C).2.1.lt.2;omega
 obtain⟨wZ,rfl⟩:∃wZ:World,wZ=bK:=⟨_,rfl⟩;clear i;go_wp2
 go_region_held3 (λw'=>Ext u w') (first|exact grown_trans q (grown_drew _ _)|assumption|exact grown_trans (by assumption) (World.grownBy_alloc _ _ _))
  (first
   | (go_at_call 60;refine Calls.mono (Calls.rel2 (w0:=u) (grown_trans cD (World.grownBy_alloc _ _ _)) (iGenSub_ok (quoP P U) _ _ _ [Y,Z] Any Any (HQ.out _ (grown_trans H (grown_trans cD (World.grownBy_alloc _ _ _)))).2 (rowsE2 dA cE))) ?_;rintro eN wN ⟨vN,rfl,iV,og,_,za,zn,zc,rfl,bL⟩)
   | (go_at_call 56;refine Calls.mono (draw9_ok (quoP P U) GQ.v (db+1) wZ.drew db _ (by have:=(grown_drew wZ none).size;omega) ((HY.out _ C).2.1.ext (grown_drew _ _)) (PresV.off (HQ.out u H).2 (grown_trans q (grown_drew _ _)) bF)) ?_;rintro eM wM ⟨vM,rfl,bA,Z,l8,cF,_⟩;have cD:Ext u wM:=grown_own (grown_trans q (grown_drew _ _)) bA (λj hj dh=>by have:=Option.some.inj hj;omega);have cE:=l8.ints (by rw[cF.1];omega);have dA:Ints Any wM (.slice ya yl yc) Y:=Ints.mono (Ints.ext (HY.out _ C).1 (grown_drew _ _)) (frame_of bA (λk hk _=>⟨trivial,λe=>hk (Option.some.inj e).symm⟩));obtain⟨wa,wc9,hws,_,_⟩:=cE.shape;subst hws))
 clear bp bq br
 have cG:∀x∈[Y,Z],Vec (quoP P U).orders x:=λx hx=>by
  rcases List.mem_cons.1 hx with h|h
  ·rw[h];exact HV.out.2.1
  ·rw[List.mem_singleton.1 h];exact cF
 have cH:gsOk (quoP P U) [Y,Z]:=⟨HF.out.1,cG⟩;rw[(gs_ok cH (by simp)).1];rw[(gs_ok cH (by simp)).2] at bL;obtain⟨W,cI⟩:∃W,W=cseq (quoP P U) (gU (quoP P U) [Y,Z]):=⟨_,rfl⟩;have bn:SubB (quoP P U) W:=by rw[cI];exact GQ.subB_cseq (GQ.genP_sub cG)
 have dB:=GQ.sub_len bn;rw[<-cI] at bL;have bM:=li_sub hr hU bn;have cJ:=li_in hr hU bn;have cK:=li_back hr hU a8 bn;have ed:=G.sub_len bM;obtain⟨V,cL⟩:∃V,V=cseq P (gU P (liL P U W)):=⟨_,rfl⟩;rw[<-cL] at bM cJ cK ed;have HW:=Lib.hid (And.intro bn (And.intro bM (And.intro cJ (And.intro cK cL))));clear cG cH cI bn bM cJ cK cL cF cE l8 dA bA cD og HY C q dz bF HV;have i:=grown_trans ac iV;clear ac H;obtain⟨bc,rfl⟩:∃wz:World,wz=wN:=⟨_,rfl⟩;have dC:Rows2 Any bc (.slice za zn zc) (W):=Rows2.sub (RowsD.rows (SlO.toD bL (by rw[cj] at dB;omega))) (λ_ _ _=>trivial);have dE:∀w',Ext bc w'->Rows2 Any w' (.slice za zn zc) (W):=λw' h=>Rows2.ext dC h;have HJ:=Lib.hid dE;clear dC dE;have aY:=grown_refl bc none;clear bL iV;obtain⟨r,fW,fZ,gf,_⟩:=id (B.out bc i).1;go_wp2_with fail
 clear r fW fZ gf;refine Calls.mono (iLiftS_ok P hr bc _ _ _ U W _ _ _ (B.out bc i).2.1 (B.out bc i).2.2.1 (HJ.out bc aY) hU bj a8 HW.out.1) ?_;rintro fF bd ⟨fG,rfl,dg,ta,tn,tc,rfl,cM⟩;replace i:=grown_trans i dg
 replace aY:=grown_trans aY dg
 rw[<-HW.out.2.2.2.2] at cM;have dF:Rows2 Any bd (.slice ta tn tc) (V):=Rows2.sub (RowsD.rows (SlO.toD cM (by omega))) (λ_ _ _=>trivial);have dG:∀w',Ext bd w'->Rows2 Any w' (.slice ta tn tc) (V):=λw' h=>Rows2.ext dF h;have HT:=Lib.hid dG;clear dF dG;have be:=grown_refl bd none;clear cM;clear dg;obtain⟨r,fW,fZ,gf,_⟩:=id (B.out bd i).1;go_wp2_with fail
 clear r fW fZ gf;refine Calls.mono (iPrjS_ok P hr bd _ _ _ U V _ _ _ (B.out bd i).2.1 (B.out bd i).2.2.1 (HT.out bd be) hU bj a8 HW.out.2.1) ?_;rintro fH bf ⟨fI,rfl,dg,sa,sn,sc,rfl,cN⟩;replace i:=grown_trans i dg
 replace aY:=grown_trans aY dg
 replace be:=grown_trans be dg
 rw[HW.out.2.2.2.1] at cN;have dH:Rows2 Any bf (.slice sa sn sc) (W):=Rows2.sub (RowsD.rows (SlO.toD cN (by rw[cj] at dB;omega))) (λ_ _ _=>trivial);have dI:∀w',Ext bf w'->Rows2 Any w' (.slice sa sn sc) (W):=λw' h=>Rows2.ext dH h;have HS:=Lib.hid dI;clear dH dI;have bB:=grown_refl bf none;clear cN;clear dg;obtain⟨r,fW,fZ,gf,_⟩:=id (B.out bf i).1;go_wp2_with fail
 clear r fW fZ gf;refine Calls.mono (iSubset_ok P hr bf _ _ _ U V _ _ _ (B.out bf i).2.1 (B.out bf i).2.2.1 (HT.out bf be) hU HW.out.2.1) ?_;rintro fK cO ⟨fL,rfl,dg,r_,rfl,l9⟩;replace i:=grown_trans i dg
 replace aY:=grown_trans aY dg
 replace be:=grown_trans be dg
 replace bB:=grown_trans bB dg
 obtain rfl:r_=true:=l9.2 HW.out.2.2.1;clear l9;clear dg;go_wp2_with fail
 refine Calls.mono (like29_ok _ _ W W cO Any Any (HS.out cO bB) (HJ.out cO aY)) ?_;rintro fM fN ⟨fO,rfl,dg,rfl⟩;replace i:=grown_trans i dg
 replace aY:=grown_trans aY dg
 replace be:=grown_trans be dg
 replace bB:=grown_trans bB dg
 rw[show eqB W W=true from eqB_true.2 rfl];clear dg;go_wp2;go_ret;exact⟨_,rfl,grown_trans bo.out.2.2.1 i,rfl⟩
end Go.Proofs.YtldheeicjnncoaaGreat
namespace Go.Proofs.YtldheeicjnncoaaGreat
open Go.RowKit Go.ChangeShapes Go.WideShapes Go.Deep
section
variable {H:Type}{enc:TypeId × Value->H}{W:World}{sp:Nat->Bool}
theorem open_sl {α:Type} [Inhabited α] {El:World->Value->α->Prop}{t e:TypeId}(u:Tryz.prog.underlying t=some (.slice e)) (w:Tryz.prog.cellsOf e=1)
  (q:∀n c x,DataW.trod enc Tryz.prog W 0 sp true n e [c]=some x->∃y,El W c y) {l:Nat}{c:Value}{x:DataW H × List MemPlace}(h:DataW.trod enc Tryz.prog W 0 sp true l t [c]=some x) :
  ∃xs:List α,Sl El Any W c xs:=by
 rcases open_slice1 u w h with⟨k,_⟩|⟨a,len,cap,m,n,V,D,Pl,k,_,hl,hm,r,_,hx⟩
 ·cases k
  exact⟨[],none,0,rfl,⟨by simp,by simp,λ_=>rfl⟩,λi hi=>by simp at hi⟩
 ·cases k
  have z:len<=m:=by rw[r];split<;>omega
  obtain⟨Z,hZ⟩:=choose_lt (α:=α) (n:=len) (p:=λi y=>El W (V i) y) (λi hi=>q n (V i) _ (hx i (by omega)).2);refine⟨(List.range len).map Z,some a,cap,by simp,⟨by simpa using hl,by simp;unfold maxLen at hm;omega,λh=>by cases h⟩,λi hi => ?_⟩;simp only[List.length_map,List.length_range] at hi;obtain⟨h1,h2⟩:=hx i (by omega);obtain⟨b,off,spot⟩:=a
  have A:spot=none:=by
   have B:=(hx 0 (by omega)).1;exact World.cell?_spot (by simpa [Addr.add] using B)
  subst A
  have j:W.cell? ⟨b,off+i,none⟩=some (V i):=by
   have e:(⟨b,off,none⟩:Addr).add i=⟨b,off+i,none⟩:=by
    unfold Addr.add;split
    ·rename_i h;subst h;rfl
    ·rfl
   rw[<-e];exact h1
  refine⟨b,off,V i,rfl,trivial,World.block_lt_of_cell? W _ j,j,?_⟩;have:gt ((List.range len).map Z) i=Z i:=by simp[gt,hi]
  rw[this];exact hZ i hi
end
end Go.Proofs.YtldheeicjnncoaaGreat
namespace Go.Proofs.YtldheeicjnncoaaGreat
open Go.RowKit Go.ChangeShapes Go.WideShapes Go.ChangeAt
theorem ownB:ownKnob Tryz.prog.godebug=none:=by kernel_rfl
theorem laidOutP:laidOutB Tryz.prog=true:=by kernel_rfl
theorem und_u8:Tryz.prog.underlying 5=some (.int .u8):=by kernel_rfl
theorem und_bytesB:Tryz.prog.underlying 22=some (.slice 5):=by kernel_rfl
theorem cells_u8:Tryz.prog.cellsOf 5=1:=by kernel_rfl
theorem open_u8 {H:Type}{enc:TypeId × Value->H}{W:World}{sp:Nat->Bool}{n:Nat}{c:Value}{x:DataW H × List MemPlace}(h:DataW.trod enc Tryz.prog W 0 sp true n 5 [c]=some x):∃y,ByteEl W c y:=by
 cases n with
 | zero=>simp[DataW.trod] at h
 | succ n=>
  unfold DataW.trod at h;rw[und_u8] at h;cases c<;>simp at h
  rename_i k z;obtain⟨⟨rfl,hz⟩,_⟩:=h
  have a:0<=z/\z<=255:=by
   have b:=hz;simp[Lit.wf,IntKind.min,IntKind.max,IntKind.signed,IntKind.bits] at b
   omega
  exact⟨z,rfl,a⟩
theorem open_bytes {H:Type}{enc:TypeId × Value->H}{W:World}{sp:Nat->Bool}{n:Nat}{c:Value}{x:DataW H × List MemPlace}(h:DataW.trod enc Tryz.prog W 0 sp true n 22 [c]=some x):∃l,Bytes Any W c l:=
 open_sl (El:=ByteEl) und_bytesB cells_u8 (λ_ _ _ h=>open_u8 h) h
end Go.Proofs.YtldheeicjnncoaaGreat
namespace Go.Proofs.YtldheeicjnncoaaGreat.RowQnOf
open Go.RowKit Go.ChangeShapes Go.WideShapes Go.ChangeAt
theorem lifted (os:Os) (a:os.Started) (H:Type) (enc:TypeId × Value->H) :
  ReturnsInHanded {} Tryz.checked os 7 .any (Rows.fnQuotientsSpec.pre6 enc Tryz.prog Tryz.f7 Rows.fnQuotientsRow.domain false) (Rows.fnQuotientsSpec.post enc Tryz.prog Tryz.f7 false true false false):=by
 refine returnsInHanded_of_change (C:=Tryz.checked) (s:=Rows.fnQuotientsSpec) ownB a (by kernel_rfl) Tryz.func7
  (ChangeSpec.witness6 (enc:=enc) (C:=Tryz.checked) (s:=Rows.fnQuotientsSpec) false ⟨#[],#[.slice none 0 0],[]⟩ 8 (by kernel_rfl) (by kernel_rfl) (by kernel_rfl) (by kernel_rfl) (by kernel_rfl)) ?_
 intro W base args A gs before i hW _ _;have j:=hW;obtain⟨p,q,mg,hV,rfl,_,_⟩:=hW;have u:DataW.TrodAll enc Tryz.prog W 0 (λ_=>true) true Tryz.f7.params.toList args.toList A p:=mg;rw[Tryz.params7] at u;obtain⟨v0,qI,d0,qJ,m,q0,hargs,rfl,rfl,h0,r0⟩:=trodAll_cons u;obtain⟨rfl,rfl,rfl⟩:=trodAll_nil r0;obtain rfl:args = #[v0]:=by cases args;simp_all
 obtain⟨rfl,rfl⟩:=trodVars_none hV;have k:Value.okWide Tryz.prog W .any base 22 v0:=i 0 _ _ (by rw[Tryz.params7];rfl) rfl;obtain⟨w,y,c0,rfl⟩:=okWide_slice und_bytesB k;obtain⟨f0,mh⟩:=h0;obtain⟨l,hP⟩:=open_bytes (c := .slice w y c0) mh;have r:∀x∈m,x.block<W.heap.size:=λx hx=>by simpa using j.lt x (by simpa using hx)
 clear mg;simp only[List.append_nil] at j;refine(lawQn_ok W (.slice w y c0) l Any hP).mono λe W' ⟨v,he,hg,hv⟩ => ?_;subst he;subst hv;have z:Below W.heap.size W W':=hg.below;have b:=Below.trod laidOutP (by kernel_rfl) (of_decide_eq_true (by kernel_rfl)) ⟨f0,mh⟩ z r;exact⟨_,rfl,[d0],[],m,[],m,[],j,trodAll_mk1 (shut_bool Tryz.underlying4 _),trodAll_mk1 b,rfl,z.frame _,λh=>by cases h⟩
theorem c0:Rows.fnQuotientsRow.wf (OpenSpec.ofChange Rows.fnQuotientsSpec)=true:=by kernel_rfl
theorem c1:laidOutB Tryz.pinned.checked.prog=true:=by kernel_rfl
theorem c2:mapsRowed Tryz.pinned.checked.prog=true:=by kernel_rfl
theorem c3:Tryz.f7.params.all (Tryz.pinned.checked.prog.readableRec ·)=true:=by kernel_rfl
theorem c4:namedTie Tryz.pinned.checked.prog Rows.fnQuotientsRow.named Rows.fnQuotientsSpec.vars=true:=by kernel_rfl
theorem c5:(Rows.fnQuotientsRow.stops == [])=true:=by kernel_rfl
theorem c6:(Tryz.pinned.checked.prog.stops == [])=true:=by kernel_rfl
theorem c7:(Rows.fnQuotientsRow.knobs == [])=true:=by kernel_rfl
theorem c8:(Tryz.pinned.checked.prog.stopKnobs == [])=true:=by kernel_rfl
theorem c9:(Rows.fnQuotientsRow.inPlace == Tryz.pinned.checked.prog.inPlace 7)=true:=by kernel_rfl
theorem c10:(Rows.fnQuotientsRow.unfollowed == Tryz.pinned.checked.prog.unfollowed 7)=true:=by kernel_rfl
theorem c11:(Rows.fnQuotientsRow.recurses == Tryz.pinned.checked.prog.recurses 7)=true:=by kernel_rfl
theorem c12:(Rows.fnQuotientsRow.named == Tryz.pinned.checked.prog.varsNamed 7)=true:=by kernel_rfl
theorem c13:(Rows.fnQuotientsRow.maps == (Tryz.f7.params.toList++Rows.fnQuotientsSpec.plain.varTypes Tryz.pinned.checked.prog).any (Tryz.pinned.checked.prog.mapsRec ·))=true:=by kernel_rfl
theorem c14:(Rows.fnQuotientsRow.ifaces == (Tryz.f7.params.toList++Rows.fnQuotientsSpec.plain.varTypes Tryz.pinned.checked.prog).any (Tryz.pinned.checked.prog.ifacesRec ·))=true:=by kernel_rfl
theorem c15:(Rows.fnQuotientsRow.mapsOut == Tryz.pinned.checked.prog.mapsAmong Tryz.f7.resultTypes.toList)=true:=by kernel_rfl
theorem c16:(Rows.fnQuotientsRow.loops == (Tryz.f7.params.toList++Rows.fnQuotientsSpec.plain.varTypes Tryz.pinned.checked.prog).any (Tryz.pinned.checked.prog.loopsFrom ·))=true:=by kernel_rfl
theorem c17:(Rows.fnQuotientsRow.wideKeys == (Tryz.f7.params.toList++Rows.fnQuotientsSpec.plain.varTypes Tryz.pinned.checked.prog++Tryz.f7.resultTypes.toList).any (Tryz.pinned.checked.prog.wideKeysFrom ·))=true:=by kernel_rfl
theorem c18:Rows.fnQuotientsSpec.vars.all (Tryz.pinned.checked.prog.varReadable ·)=true:=by kernel_rfl
theorem c19:Tryz.f7.resultTypes.all (λt=>Tryz.pinned.checked.prog.readableRec t && decide (t<Tryz.pinned.checked.prog.types.size))=true:=by kernel_rfl
theorem c20:(Rows.fnQuotientsRow.ifacesOut == Tryz.f7.resultTypes.toList.any (Tryz.pinned.checked.prog.ifacesRec ·))=true:=by kernel_rfl
theorem c21:(Rows.fnQuotientsRow.loopsOut == Tryz.f7.resultTypes.toList.any (Tryz.pinned.checked.prog.loopsFrom ·))=true:=by kernel_rfl
theorem c22:(Rows.fnQuotientsRow.plainKeys == Tryz.pinned.checked.prog.plainKeys)=true:=by kernel_rfl
theorem c23:Rows.fnQuotientsRow.shortTexts.isNone=true:=by kernel_rfl
theorem c24:Tryz.pinned.checked.prog.stopsHeard=true:=by kernel_rfl
theorem c25:Tryz.pinned.checked.prog.mayEnter=true:=by kernel_rfl
theorem c26:(Rows.fnQuotientsRow.lifted == Tryz.pinned.checked.prog.liftsFinal)=true:=by kernel_rfl
theorem c27:(Tryz.pinned.checked.prog.make == some Rows.fnQuotientsRow.make)=true:=by kernel_rfl
theorem c28:(Rows.fnQuotientsRow.kinds == (if Rows.fnQuotientsRow.domain.isEmpty then [] else Tryz.f7.params.toList.map λt=>match Tryz.pinned.checked.prog.underlying t with|some (.int k)=>some k|_=>none))=true:=by kernel_rfl
theorem c29:(Rows.fnQuotientsRow.pinned == Rows.fnQuotientsRow.pinnedBy)=true:=by kernel_rfl
theorem c30:(Rows.fnQuotientsRow.veiled == (Tryz.f7.params.toList++Rows.fnQuotientsSpec.plain.varTypes Tryz.pinned.checked.prog++Tryz.f7.resultTypes.toList).any (Tryz.pinned.checked.prog.veiledRec ·))=true:=by kernel_rfl
theorem c31:Rows.fnQuotientsRow.veiledFits Tryz.pinned.checked.prog Tryz.f7.params.toList (Tryz.f7.params.toList++Rows.fnQuotientsSpec.plain.varTypes Tryz.pinned.checked.prog++Tryz.f7.resultTypes.toList)=true:=by kernel_rfl
set_option maxRecDepth 1000000 in
theorem facts:joinedFacts Tryz.pinned.checked.prog 7 Tryz.f7 Rows.fnQuotientsSpec Rows.fnQuotientsRow=true:=
 Bool.and_eq_true_iff.2 ⟨Bool.and_eq_true_iff.2 ⟨Bool.and_eq_true_iff.2 ⟨Bool.and_eq_true_iff.2 ⟨Bool.and_eq_true_iff.2 ⟨Bool.and_eq_true_iff.2 ⟨Bool.and_eq_true_iff.2 ⟨Bool.and_eq_true_iff.2 ⟨Bool.and_eq_true_iff.2 ⟨Bool.and_eq_true_iff.2 ⟨Bool.and_eq_true_iff.2 ⟨Bool.and_eq_true_iff.2 ⟨Bool.and_eq_true_iff.2 ⟨Bool.and_eq_true_iff.2 ⟨Bool.and_eq_true_iff.2 ⟨Bool.and_eq_true_iff.2 ⟨Bool.and_eq_true_iff.2 ⟨Bool.and_eq_true_iff.2 ⟨Bool.and_eq_true_iff.2 ⟨Bool.and_eq_true_iff.2 ⟨Bool.and_eq_true_iff.2 ⟨Bool.and_eq_true_iff.2 ⟨Bool.and_eq_true_iff.2 ⟨Bool.and_eq_true_iff.2 ⟨Bool.and_eq_true_iff.2 ⟨Bool.and_eq_true_iff.2 ⟨Bool.and_eq_true_iff.2 ⟨Bool.and_eq_true_iff.2 ⟨Bool.and_eq_true_iff.2 ⟨Bool.and_eq_true_iff.2 ⟨Bool.and_eq_true_iff.2 ⟨c0,c1⟩,c2⟩,c3⟩,c4⟩,c5⟩,c6⟩,c7⟩,c8⟩,c9⟩,c10⟩,c11⟩,c12⟩,c13⟩,c14⟩,c15⟩,c16⟩,c17⟩,c18⟩,c19⟩,c20⟩,c21⟩,c22⟩,c23⟩,c24⟩,c25⟩,c26⟩,c27⟩,c28⟩,c29⟩,c30⟩,c31⟩
theorem proved:Rows.FnQuotientsSaid:=
 OpenClaim.holds_of_wide 7 Tryz.f7 rfl rfl rfl rfl rfl rfl rfl ⟨rfl,rfl,rfl,rfl,rfl⟩ rfl rfl rfl rfl rfl (by kernel_rfl) Tryz.func7 facts
  (of_decide_eq_true (by kernel_rfl)) (by unfold Func.isWrapper;first|(rw[if_pos (by decide +kernel)];kernel_rfl)|(rw[if_neg (by decide +kernel)];exact⟨rfl,rfl⟩))
  (λos a H enc _=>lifted os a H enc)
#print axioms proved
end Go.Proofs.YtldheeicjnncoaaGreat.RowQnOf
