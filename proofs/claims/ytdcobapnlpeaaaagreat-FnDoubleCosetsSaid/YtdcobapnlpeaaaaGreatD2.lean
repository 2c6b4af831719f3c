/-
  Valid presentations: impl.tailVector, impl.IsPresentation.
  spec.IsPresentation; orders of groups.
  Plain: what tgen does to single entries.
  The program's operations on elements: impl.multiply, invert, power, conjugate, imageBy.
  The reference's multiplication: spec.l08Image, spec.l08At.
  impl.invert, impl.conjugate, impl.imageBy.
  impl.conjugate, impl.imageBy, impl.numberOf, impl.elementAt.
  Numbers of elements: impl.numberOf, spec.l10Number, impl.elementAt, spec.l10At, spec.l10One.
  impl.allElements, impl.generators.
  Words of memory that laws and functions share: places in rows, rows in blocks of their own, a presentation in blocks of its own, a struct of three cells, what a law keeps in view.
  The source of drawn numbers: spec.l01Next.
-/
import Derived.Test.YtdcobapnlpeaaaaGreatD1
import Derived.Deep.RegionHeld3
import Derived.StillTailTactics
import Derived.Deep.LoopGhost
namespace Go.Proofs.YtdcobapnlpeaaaaGreat
open Go.RowKit
theorem run_head (w:World) (a:Option Addr) (n cap:Nat) (k:Int) (h0:0≤k) (h1:k≤cap) :
  (Instr.slice 24 (.slice a n cap) none (some (.int .i64 k)) none).run Tryz.prog w=.ok (.slice a k.toNat cap) w:=by
 rw[run_slice_h w 24 a n cap (by kernel_rfl) .i64 k h0 h1]
 have:(sizeOf (Tryz.prog.elem 24)).run Tryz.prog w=.ok 1 w:=by kernel_rfl
 rw[this]
 simp only[Result.andThen,sliced,Nat.sub_zero,Nat.zero_mul]
 have e:(a.map fun x=>x.add 0)=a:=by cases a<;>simp[Addr.add]
 split
 ·rfl
 ·rw[e]
theorem head_ints {S:Nat→Prop}{w:World}{a:Option Addr}{n cap:Nat}{xs:List Int} (h:Ints S w (.slice a n cap) xs) (k:Nat) (hk:k≤xs.length):Ints S w (.slice a k cap) (xs.take k):=by
 obtain⟨a',cap',hv,hl,hc⟩:=h
 cases hv
 have hlen:(xs.take k).length=k:=by simp;omega
 refine⟨a,cap,by rw[hlen],⟨by omega,by omega,hl.2.2⟩,fun i hi => ?_⟩
 obtain⟨b,off,u,h1,h2,h3,h4,h5⟩:=hc i (by omega)
 refine⟨b,off,u,h1,h2,h3,h4,?_⟩
 have:gt (xs.take k) i=gt xs i:=by simp only[gt,List.getD_eq_getElem?_getD,List.getElem?_take];rw[if_pos (by omega)]
 rw[this];exact h5
def tailB (o:List Int) (i:Nat) (e:List Int):Bool:=expB o e && isZeroB (e.take (i+1))
theorem expB_vec {o e:List Int} : expB o e=true↔Vec o e:=by
 unfold expB Vec
 rw[Bool.and_eq_true,decide_eq_true_eq,allB_true]
 constructor
 ·rintro ⟨h1,h2⟩
  exact⟨h1,fun i hi=>by have:=inB_true.1 (h2 i (by omega));omega⟩
 ·rintro ⟨h1,h2⟩
  exact⟨h1,fun i hi=>by have:=h2 i (by omega);exact inB_true.2 (by omega)⟩
theorem isZeroB_true {l:List Int} : isZeroB l=true↔∀i,i<l.length→gt l i=0:=by
 unfold isZeroB;rw[allB_true];simp
theorem gt_take {l:List Int}{k i:Nat} (h:i<k):gt (l.take k) i=gt l i:=by
 simp only[gt,List.getD_eq_getElem?_getD,List.getElem?_take];rw[if_pos h]
theorem gt_big {l:List Int}{i:Nat} (h:l.length≤i):gt l i=0:=by
 simp only[gt,List.getD_eq_getElem?_getD];rw[List.getElem?_eq_none h];rfl
theorem tailB_vec {o e:List Int}{i:Nat} : tailB o i e=true↔Vec o e∧ZeroTo i e:=by
 unfold tailB
 rw[Bool.and_eq_true,expB_vec,isZeroB_true]
 constructor
 ·rintro ⟨h1,h2⟩
  refine⟨h1,fun k hk => ?_⟩
  by_cases hl:k<e.length
  ·have:=h2 k (by simp;omega)
   rwa [gt_take (by omega)] at this
  ·exact gt_big (by omega)
 ·rintro ⟨h1,h2⟩
  refine⟨h1,fun k hk => ?_⟩
  simp at hk
  rw[gt_take (by omega)];exact h2 k (by omega)
theorem expZB_vec {o e:List Int}{i:Nat} : expZB o e i=true↔Vec o e∧ZeroTo i e:=by
 rw[←tailB_vec]
 unfold expZB tailB expB
 rw[Bool.and_eq_true,Bool.and_eq_true,Bool.and_eq_true,allB_true,allB_true,isZeroB_true]
 constructor
 ·rintro ⟨h1,h2⟩
  refine⟨⟨h1,fun k hk=>((Bool.and_eq_true _ _).mp (h2 k hk)).1⟩,fun k hk => ?_⟩
  rw[List.length_take] at hk
  rw[gt_take (by omega)]
  have:=((Bool.and_eq_true _ _).mp (h2 k (by omega))).2
  simp at this
  rcases this with h|h
  ·omega
  ·exact h
 ·rintro ⟨⟨h1,h2⟩,h3⟩
  refine⟨h1,fun k hk => ?_⟩
  rw[Bool.and_eq_true]
  refine⟨h2 k hk,?_⟩
  simp
  rcases Nat.lt_or_ge i k with hki|hki
  ·exact .inl hki
  ·have:=h3 k (by rw[List.length_take];omega)
   rw[gt_take (by omega)] at this
   exact .inr this
set_option maxHeartbeats 400000 in
theorem tailVector_ok (w:World) (p v:Value) (P:Pr) (e:List Int) (i:Nat) (S S':Nat→Prop) (hp:PresP S w p P) (hv:Ints S' w v e) (ho:∀i,i<P.orders.length→0≤gt P.orders i∧gt P.orders i≤7)
  (hi:i<P.orders.length) (hn:P.orders.length≤6) :
  Calls Tryz.prog 285 #[p,.int .i64 i,v] w fun e1 w'=>e1=.returned (.bool (tailB P.orders i e))∧w=w':=by
 obtain⟨a,cap,rfl,hcap,_⟩:=hv.shape
 cases hx:expB P.orders e with
 | false=>
  have HX:=Lib.hid hx;clear hx
  go_enter Tryz.func285,Tryz.ntmps285
  have hx2:=HX.out
  go_wp2_with (go_at_call 116;refine(isExponents_ok _ _ _ P e S S' hp hv ho).mono ?_;rintro e1 w1 ⟨rfl,rfl⟩)
  go_ret
  exact⟨ret_b (by rw[tailB,HX.out,Bool.false_and]),rfl⟩
 | true=>
  have hvec:=expB_vec.1 hx
  have hle:P.orders.length≤e.length:=by rw[hvec.1];omega
  have hs:=fun w=>run_head w a e.length cap ((i:Int)+1) (by omega) (by omega)
  have hh:=head_ints hv (i+1) (by omega)
  have HX:=Lib.hid hx
  clear hvec
  go_enter Tryz.func285,Tryz.ntmps285
  go_wp2_with (first
   | (go_at_call 116;refine(isExponents_ok _ _ _ P e S S' hp hv ho).mono ?_;rintro e1 w1 ⟨rfl,rfl⟩)
   | (go_at_call 208;refine(isZero_ok _ _ _ S' hh).mono ?_;rintro e1 w1 ⟨rfl,rfl⟩))
  go_ret
  exact⟨ret_b (by rw[tailB,HX.out,Bool.true_and]),rfl⟩
theorem primeB_true {n:Int} : primeB n=true↔n=2∨n=3∨n=5∨n=7:=by simp[primeB]
theorem prodTo_pos {l:List Int} (k:Nat) (h:∀i,i<k→1≤gt l i):1≤prodTo l k:=by
 induction k with
 | zero=>simp[prodTo]
 | succ k ih=>
  have h1:=ih (fun i hi=>h i (by omega))
  have h2:=h k (by omega)
  have:=Int.mul_le_mul h1 h2 (by omega) (by omega)
  simp only[prodTo];omega
theorem prodTo_mono {l:List Int} (k n:Nat) (hkn:k≤n) (h:∀i,i<n→1≤gt l i):prodTo l k≤prodTo l n:=by
 induction n with
 | zero=>have:k=0:=(by omega);rw[this];exact Int.le_refl _
 | succ n ih=>
  rcases Nat.lt_or_ge n k with h1|h1
  ·have:k=n+1:=by omega
   rw[this];exact Int.le_refl _
  ·have h2:=ih h1 (fun i hi=>h i (by omega))
   have h3:=h n (by omega)
   have h4:=prodTo_pos (l:=l) n (fun i hi=>h i (by omega))
   have h5:prodTo l n*1≤prodTo l n*gt l n:=Int.mul_le_mul_of_nonneg_left h3 (by omega)
   simp only[prodTo]
   omega
open Classical in
noncomputable def validB (P:Pr):Bool:=decide (Valid P)
theorem validB_true {P:Pr} (h:Valid P):validB P=true:=by simp[validB,h]
theorem validB_false {P:Pr} (h:¬Valid P):validB P=false:=by simp[validB,h]
theorem valid_of {P:Pr} (h:validB P=true):Valid P:=by simpa [validB] using h
theorem Valid.pos {P:Pr} (h:Valid P) (i:Nat) (hi:i<P.orders.length):1≤gt P.orders i:=by have:=h.ord7 i hi;omega
theorem Valid.pre {P:Pr} (h:Valid P) (k:Nat) (hk:k≤P.orders.length):prodTo P.orders k≤729:=
 Int.le_trans (prodTo_mono k _ hk (fun i hi=>h.pos i hi)) h.le729
set_option maxHeartbeats 2000000 in
theorem isPresentation_ok (w:World) (pv:Value) (P:Pr) (S:Nat→Prop) (hp:PresV S w pv P) :
  Calls Tryz.prog 218 #[pv] w (Ret w fun _ v=>v=.bool (validB P)):=by
 obtain⟨vo,vp,vc,rfl,h3⟩:=hp
 have hBx:=PresP.box h3 28
 have hg0:Ext w (w.alloc (.cells #[vo,vp,vc] 28)):=World.grownBy_alloc _ _ _
 go_enter Tryz.func218,Tryz.ntmps218
 obtain⟨ao,capo,hco,hoi⟩:=hBx.ordAt
 obtain⟨ap,capp,hcp,hpi⟩:=hBx.powAt
 obtain⟨ac,capc,hcc,hci⟩:=hBx.conjAt
 by_cases h6:P.orders.length≤6
 rotate_left
 ·have hd:decide ((6:Int)<(P.orders.length:Int))=true:=by simp;omega
  go_wp2
  go_ret
  exact ret_bool hg0 (validB_false (fun h=>h6 h.n6)).symm
 have hd6:decide ((6:Int)<(P.orders.length:Int))=false:=by simp;omega
 by_cases hpl:P.powers.length=P.orders.length
 rotate_left
 ·have hd:((P.powers.length:Int) != (P.orders.length:Int))=true:=by simp;omega
  have HP:=Lib.hid hpl;clear hpl
  go_wp2
  go_ret
  exact ret_bool hg0 (validB_false (fun h=>HP.out h.pl)).symm
 have hdp:((P.powers.length:Int) != (P.orders.length:Int))=false:=by simp[hpl]
 by_cases hcl:P.conj.length=P.orders.length
 rotate_left
 ·have hd:((P.conj.length:Int) != (P.orders.length:Int))=true:=by simp;omega
  have HP:=Lib.hid hpl;clear hpl
  have HC:=Lib.hid hcl;clear hcl
  go_wp2
  go_ret
  exact ret_bool hg0 (validB_false (fun h=>HC.out h.cl)).symm
 have hdc:((P.conj.length:Int) != (P.orders.length:Int))=false:=by simp[hcl]
 have hpl2:P.powers.length≤P.orders.length∧P.orders.length≤P.powers.length:=by omega
 have hcl2:P.conj.length≤P.orders.length∧P.orders.length≤P.conj.length:=by omega
 have HP:=Lib.hid hpl;clear hpl
 have HC:=Lib.hid hcl;clear hcl
 go_wp2
 clear hd6 hdp hdc
 generalize hw0:w.alloc (.cells #[vo,vp,vc] 28)=w0 at *
 clear hw0
 go_loop [4,32] (fun pr i=>∃k:Nat,i=.int .i64 k∧pr=.int .i64 (prodTo P.orders k)∧k≤P.orders.length∧prodTo P.orders k≤729∧∀i,i<k→primeB (gt P.orders i)=true) (fun _ i=>P.orders.length-(intOf i).toNat)
 case atStart=>exact⟨0,rfl,rfl,by omega,by simp[prodTo],fun i hi=>by omega⟩
 case round =>
  obtain⟨k,rfl,rfl,hk,hle,hz⟩:=hrel
  have hp1:1≤prodTo P.orders k:=prodTo_pos k (fun i hi=>by have:=primeB_true.1 (hz i hi);omega)
  have HZ:=Lib.hid hz;clear hz
  by_cases hlt:k<P.orders.length
  ·obtain ⟨b,off,rfl,_,_,hc⟩:=Ints.at hoi k hlt
   cases hx:primeB (gt P.orders k) with
   | false=>
    have HX:=Lib.hid hx
    go_wp2_with (go_at_call 284;refine(isGroupPrime_ok _ _).mono ?_;rintro e1 w1 ⟨rfl,rfl⟩)
    go_ret
    exact ret_bool hg0 (validB_false (fun h=>by have:=primeB_true.2 (h.ord k hlt);rw[HX.out] at this;cases this)).symm
   | true=>
    have hpr:=primeB_true.1 hx
    have hg7:2≤gt P.orders k∧gt P.orders k≤7:=by omega
    have hg20:2≤gt P.orders k:=hg7.1
    have hg70:gt P.orders k≤7:=hg7.2
    have hm0:0≤prodTo P.orders k*gt P.orders k:=Int.mul_nonneg (by omega) (by omega)
    have hm1:prodTo P.orders k*gt P.orders k≤5103:=by
     have h1:prodTo P.orders k*gt P.orders k≤729*gt P.orders k:=Int.mul_le_mul_of_nonneg_right hle (by omega)
     omega
    have hsucc:prodTo P.orders (k+1)=prodTo P.orders k*gt P.orders k:=rfl
    have HSC:=Lib.hid hsucc;clear hsucc hpr hg7
    by_cases h729:prodTo P.orders k*gt P.orders k≤729
    ·go_wp2_with (go_at_call 284;refine(isGroupPrime_ok _ _).mono ?_;rintro e1 w1 ⟨rfl,rfl⟩)
     go_round
     case rel=>exact⟨k+1,by go_num,by rw[HSC.out],by omega,by rw[HSC.out];exact h729,fun i hi=>by
      rcases Nat.lt_or_ge i k with h1|h1
      ·exact HZ.out i h1
      ·have:i=k:=by omega
       rw[this];exact hx⟩
     case measure=>simp[intOf];omega
    ·go_wp2_with (go_at_call 284;refine(isGroupPrime_ok _ _).mono ?_;rintro e1 w1 ⟨rfl,rfl⟩)
     go_ret
     exact ret_bool hg0 (validB_false (fun h=>by have:=h.pre (k+1) hlt;rw[HSC.out] at this;omega)).symm
  ·have hke : k=P.orders.length:=by omega
   subst hke
   have hord:∀i,i<P.orders.length→0≤gt P.orders i∧gt P.orders i≤7:=fun i hi=>by have:=primeB_true.1 (HZ.out i hi);omega
   have HO:=Lib.hid hord;clear hord
   have HLE:=Lib.hid hle;clear hle hp1
   go_wp2
   clear hcc hcp hco
   go_loop [50] (fun i=>∃k:Nat,i=.int .i64 k∧k≤P.orders.length∧∀i,i<k→tailB P.orders i (gt P.powers i)=true∧(gt P.conj i).length=P.orders.length-1-i∧∀j,j<P.orders.length-1-i→tailB P.orders i (gt (gt P.conj i) j)=true) (fun i=>P.orders.length-(intOf i).toNat)
   case atStart=>exact⟨0,rfl,by omega,fun i hi=>by omega⟩
   case round =>
    obtain⟨k,rfl,hk,hz⟩:=hrel
    have HZ2:=Lib.hid hz;clear hz
    by_cases hlt:k<P.orders.length
    ·obtain ⟨ap,capp,hcp,hpi⟩:=hBx.powAt
     obtain⟨ac,capc,hcc,hci⟩:=hBx.conjAt
     obtain⟨b1,o1,a2,cap2,rfl,_,_,hc2,hi2⟩:=Rows2.at hpi k (by omega)
     obtain⟨b3,o3,a4,cap4,rfl,_,_,hc4,hi4⟩:=Rows3.at hci k (by omega)
     have hbad1:tailB P.orders k (gt P.powers k)=false→validB P=false:=fun hx=>validB_false (fun h=>by have:=tailB_vec.2 (h.pv k hlt);rw[hx] at this;cases this)
     have hbad2:¬(gt P.conj k).length=P.orders.length-1-k→validB P=false:=fun hx=>validB_false (fun h=>hx (h.cv k hlt).1)
     have hbad3:∀j,j<P.orders.length-1-k→tailB P.orders k (gt (gt P.conj k) j)=false→validB P=false:=fun j hj hx=>validB_false (fun h=>by have:=tailB_vec.2 ((h.cv k hlt).2 j hj);rw[hx] at this;cases this)
     have HB1:=Lib.hid hbad1;have HB2:=Lib.hid hbad2;have HB3:=Lib.hid hbad3;clear hbad1 hbad2 hbad3
     cases hx:tailB P.orders k (gt P.powers k) with
     | false=>
      have HX:=Lib.hid hx
      go_wp2_with (go_at_call 285;refine(tailVector_ok _ _ _ P _ k Any Any hBx hi2 HO.out hlt h6).mono ?_;rintro e1 w1 ⟨rfl,rfl⟩)
      go_ret
      exact ret_bool hg0 (HB1.out HX.out).symm
     | true =>
      have HX:=Lib.hid hx
      by_cases hlen:(gt P.conj k).length=P.orders.length-1-k
      ·have hd:(((gt P.conj k).length:Int) != (P.orders.length:Int)-1-k)=false:=by simp;omega
       have hl2:(gt P.conj k).length≤P.orders.length-1-k∧P.orders.length-1-k≤(gt P.conj k).length:=by omega
       have HLN:=Lib.hid hlen;clear hlen
       go_wp2_with (go_at_call 285;refine(tailVector_ok _ _ _ P _ k Any Any hBx hi2 HO.out hlt h6).mono ?_;rintro e1 w1 ⟨rfl,rfl⟩)
       clear hd hx hcp hc2
       go_loop [80] (fun i=>∃j:Nat,i=.int .i64 j∧j≤(gt P.conj k).length∧∀i,i<j→tailB P.orders k (gt (gt P.conj k) i)=true) (fun i=>(gt P.conj k).length-(intOf i).toNat)
       case atStart=>exact⟨0,rfl,by omega,fun i hi=>by omega⟩
       case round=>
        obtain⟨j,rfl,hj,hz⟩:=hrel
        have HZ3:=Lib.hid hz;clear hz
        by_cases hlt2:j<(gt P.conj k).length
        ·obtain ⟨b5,o5,a6,cap6,rfl,_,_,hc6,hi6⟩:=Rows2.at hi4 j hlt2
         cases hy:tailB P.orders k (gt (gt P.conj k) j) with
         | false=>
          have HY:=Lib.hid hy
          go_wp2_with (go_at_call 285;refine(tailVector_ok _ _ _ P _ k Any Any hBx hi6 HO.out hlt h6).mono ?_;rintro e1 w1 ⟨rfl,rfl⟩)
          go_ret
          exact ret_bool hg0 (HB3.out j (by omega) HY.out).symm
         | true=>
          have HY:=Lib.hid hy
          go_wp2_with (go_at_call 285;refine(tailVector_ok _ _ _ P _ k Any Any hBx hi6 HO.out hlt h6).mono ?_;rintro e1 w1 ⟨rfl,rfl⟩)
          go_round
          case rel=>exact⟨j+1,by go_num,by omega,fun i hi=>by
           rcases Nat.lt_or_ge i j with h1|h1
           ·exact HZ3.out i h1
           ·have:i=j:=by omega
            rw[this];exact HY.out⟩
          case measure=>simp[intOf];omega
        ·have hje:j=(gt P.conj k).length:=by omega
         go_wp2
         go_round
         case rel=>exact⟨k+1,by go_num,by omega,fun i hi=>by
          rcases Nat.lt_or_ge i k with h1|h1
          ·exact HZ2.out i h1
          ·have:i=k:=by omega
           rw[this];exact⟨HX.out,HLN.out,fun i hi=>HZ3.out i (by omega)⟩⟩
         case measure=>simp[intOf];omega
      ·have hd:(((gt P.conj k).length:Int) != (P.orders.length:Int)-1-k)=true:=by simp;omega
       have HLN:=Lib.hid hlen;clear hlen
       go_wp2_with (go_at_call 285;refine(tailVector_ok _ _ _ P _ k Any Any hBx hi2 HO.out hlt h6).mono ?_;rintro e1 w1 ⟨rfl,rfl⟩)
       go_ret
       exact ret_bool hg0 (HB2.out HLN.out).symm
    ·have hke:k=P.orders.length:=by omega
     subst hke
     go_wp2
     go_ret
     refine ret_bool hg0 (validB_true ?_).symm
     exact ⟨HLE.out,h6,HP.out,HC.out,fun i hi=>primeB_true.1 (HZ.out i hi),fun i hi=>tailB_vec.1 (HZ2.out i hi).1,
      fun i hi=>⟨(HZ2.out i hi).2.1,fun j hj=>tailB_vec.1 ((HZ2.out i hi).2.2 j hj)⟩⟩
end Go.Proofs.YtdcobapnlpeaaaaGreat
namespace Go.Proofs.YtdcobapnlpeaaaaGreat
open Go.RowKit
def capTo (l:List Int):Nat→Int
 | 0=>1
 | k+1=>if capTo l k≤729 then capTo l k*gt l k else capTo l k
theorem capTo_le {l:List Int} (n:Nat) (h:∀i,i<n→1≤gt l i):(capTo l n≤729↔prodTo l n≤729)∧(capTo l n≤729→capTo l n=prodTo l n):=by
 induction n with
 | zero=>simp[capTo,prodTo]
 | succ n ih=>
  obtain⟨h1,h2⟩:=ih (fun i hi=>h i (by omega))
  simp only[capTo]
  split
  ·rename_i hc
   rw[h2 hc];exact⟨Iff.rfl,fun _=>rfl⟩
  ·rename_i hc
   have h3:=prodTo_mono (l:=l) n (n+1) (by omega) h
   have h4:¬prodTo l n≤729:=fun h=>hc (h1.2 h)
   exact⟨⟨fun h=>absurd h hc,fun h=>absurd (Int.le_trans h3 h) h4⟩,fun h=>absurd h hc⟩
theorem capTo_bd {l:List Int} (n:Nat) (h:∀i,i<n→1≤gt l i∧gt l i≤7):1≤capTo l n∧capTo l n≤5103:=by
 induction n with
 | zero=>simp[capTo]
 | succ n ih=>
  have h1:=ih (fun i hi=>h i (by omega))
  have h2:=h n (by omega)
  simp only[capTo]
  split
  ·have h3:capTo l n*gt l n≤729*gt l n:=Int.mul_le_mul_of_nonneg_right (by omega) (by omega)
   have h4:=Int.mul_le_mul h1.1 h2.1 (by omega) (by omega)
   omega
  ·omega
set_option maxHeartbeats 400000 in
theorem l07Product_ok (w:World) (v:Value) (l:List Int) (S:Nat→Prop) (hv:Ints S w v l) (ho:∀i,i<l.length→1≤gt l i∧gt l i≤7) :
  Calls Tryz.prog 236 #[v] w fun e w'=>e=.returned (.int .i64 (capTo l l.length))∧w=w':=by
 obtain⟨a,cap,rfl,_,_⟩:=hv.shape
 have HO:=Lib.hid ho;clear ho
 go_enter Tryz.func236,Tryz.ntmps236
 go_wp2
 go_loop [3,4] (fun pr i=>∃k:Nat,i=.int .i64 k∧pr=.int .i64 (capTo l k)∧k≤l.length) (fun _ i=>l.length-(intOf i).toNat)
 case atStart=>exact⟨0,rfl,rfl,by omega⟩
 case round=>
  obtain⟨k,rfl,rfl,hk⟩:=hrel
  by_cases hlt:k<l.length
  ·obtain ⟨b,off,rfl,_,_,hc⟩:=Ints.at hv k hlt
   have h1:=HO.out k hlt
   have hb:=capTo_bd (l:=l) k (fun i hi=>HO.out i (by omega))
   have hb0:1≤capTo l k:=hb.1
   have hsucc:capTo l (k+1)=if capTo l k≤729 then capTo l k*gt l k else capTo l k:=rfl
   have HSC:=Lib.hid hsucc;clear hsucc hb
   by_cases h729:capTo l k≤729
   ·have hm0:0≤capTo l k*gt l k:=Int.mul_nonneg (by omega) (by omega)
    have hm1:capTo l k*gt l k≤5103:=by
     have h1:capTo l k*gt l k≤729*gt l k:=Int.mul_le_mul_of_nonneg_right h729 (by omega)
     omega
    go_wp2
    go_round
    case rel=>exact⟨k+1,by go_num,by rw[HSC.out,if_pos h729],by omega⟩
    case measure=>simp[intOf];omega
   ·go_wp2
    go_round
    case rel=>exact⟨k+1,by go_num,by rw[HSC.out,if_neg h729],by omega⟩
    case measure=>simp[intOf];omega
  ·have hke:k=l.length:=by omega
   subst hke
   go_wp2
   go_ret
   exact⟨rfl,rfl⟩
def ordP (P:Pr):Int:=prodTo P.orders P.orders.length
theorem Valid.ordP_pos {P:Pr} (h:Valid P):1≤ordP P:=prodTo_pos _ (fun i hi=>h.pos i hi)
set_option maxHeartbeats 400000 in
theorem orderOf_ok (w:World) (p:Value) (P:Pr) (S:Nat→Prop) (hP:Valid P) (hp:PresP S w p P) :
  Calls Tryz.prog 110 #[p] w fun e w'=>e=.returned (.int .i64 (ordP P))∧w=w':=by
 obtain⟨pb,po,rfl⟩:=hp.shape
 obtain⟨ao,capo,hco,hoi⟩:=hp.ordAt
 have hn6:=hP.n6
 go_enter Tryz.func110,Tryz.ntmps110
 go_wp2
 go_loop [3,11] (fun pr i=>∃k:Nat,i=.int .i64 k∧pr=.int .i64 (prodTo P.orders k)∧k≤P.orders.length) (fun _ i=>P.orders.length-(intOf i).toNat)
 case atStart=>exact⟨0,rfl,rfl,by omega⟩
 case round=>
  obtain⟨k,rfl,rfl,hk⟩:=hrel
  by_cases hlt:k<P.orders.length
  ·obtain ⟨b,off,rfl,_,_,hc⟩:=Ints.at hoi k hlt
   have h1:=hP.pre (k+1) hlt
   have h0:=prodTo_pos (l:=P.orders) (k+1) (fun i hi=>hP.pos i (by omega))
   have hm0:0≤prodTo P.orders k*gt P.orders k:=by simp only[prodTo] at h0;omega
   have hm1:prodTo P.orders k*gt P.orders k≤729:=h1
   clear h0 h1
   go_wp2
   go_round
   case rel=>exact⟨k+1,by go_num,rfl,by omega⟩
   case measure=>simp[intOf];omega
  ·have hke:k=P.orders.length:=by omega
   subst hke
   go_wp2
   go_ret
   exact⟨rfl,rfl⟩
set_option maxHeartbeats 400000 in
theorem l10Order_ok (w:World) (pv:Value) (P:Pr) (S:Nat→Prop) (hP:Valid P) (hp:PresV S w pv P) :
  Calls Tryz.prog 105 #[pv] w (Ret w fun _ v=>v=.int .i64 (ordP P)):=by
 obtain⟨vo,vp,vc,rfl,h3⟩:=hp
 have hB:=PresP.box h3 28
 obtain⟨ao,capo,hco,hoi⟩:=hB.ordAt
 have hn6:=hP.n6
 go_enter Tryz.func105,Tryz.ntmps105
 go_wp2
 go_loop [3,4] (fun pr i=>∃k:Nat,i=.int .i64 k∧pr=.int .i64 (prodTo P.orders k)∧k≤P.orders.length) (fun _ i=>P.orders.length-(intOf i).toNat)
 case atStart=>exact⟨0,rfl,rfl,by omega⟩
 case round=>
  obtain⟨k,rfl,rfl,hk⟩:=hrel
  by_cases hlt:k<P.orders.length
  ·obtain ⟨b,off,rfl,_,_,hc⟩:=Ints.at hoi k hlt
   have h1:=hP.pre (k+1) hlt
   have h0:=prodTo_pos (l:=P.orders) (k+1) (fun i hi=>hP.pos i (by omega))
   have hm0:0≤prodTo P.orders k*gt P.orders k:=by simp only[prodTo] at h0;omega
   have hm1:prodTo P.orders k*gt P.orders k≤729:=h1
   clear h0 h1
   go_wp2
   go_round
   case rel=>exact⟨k+1,by go_num,rfl,by omega⟩
   case measure=>simp[intOf];omega
  ·have hke:k=P.orders.length:=by omega
   subst hke
   go_wp2
   go_ret
   exact⟨_,rfl,World.grownBy_alloc _ _ _,rfl⟩
end Go.Proofs.YtdcobapnlpeaaaaGreat
namespace Go.Proofs.YtdcobapnlpeaaaaGreat
theorem tvec_keep {P:Pr} (hP:Valid P) (f j:Nat) (hf:P.orders.length≤f+1+j)
  (ih:∀(e:List Int) (i:Nat),Vec P.orders e→i<P.orders.length→P.orders.length≤f+i→∀k,k<i→gt (tgen P f e i) k=gt e k)
  (c:List Int) (hc:Vec P.orders c) (hz:ZeroTo j c) (e:List Int) (he:Vec P.orders e):∀k,k≤j→gt (tvec (tgen P f) e c) k=gt e k:=by
 have hstep:∀m,m≤P.orders.length→Vec P.orders (tvecTo (tgen P f) c e m)∧∀k,k≤j→gt (tvecTo (tgen P f) c e m) k=gt e k:=by
  intro m
  induction m with
  | zero=>intro _;exact⟨he,fun k _=>rfl⟩
  | succ m ihm=>
   intro hm
   obtain⟨h1,h2⟩:=ihm (by omega)
   unfold tvecTo
   by_cases h0:gt c m=0
   ·rw[h0];exact⟨h1,h2⟩
   ·have hmj:¬m≤j:=fun h=>h0 (hz m h)
    refine iter_inv (fun y=>Vec P.orders y∧∀k,k≤j→gt y k=gt e k) _ (fun y hy=>⟨tgen_vec hP f y m hy.1 (by omega) (by omega),fun k hk => ?_⟩) _ _ ⟨h1,h2⟩
    rw[ih y m hy.1 (by omega) (by omega) k (by omega)];exact hy.2 k hk
 intro k hk
 exact(hstep c.length (by rw[hc.1];omega)).2 k hk
theorem tgen_entries {P:Pr} (hP:Valid P) (f:Nat):∀(e:List Int) (j:Nat),Vec P.orders e→j<P.orders.length→P.orders.length≤f+j →
  (∀k,k<j→gt (tgen P f e j) k=gt e k)∧gt (tgen P f e j) j=if gt e j+1=gt P.orders j then 0 else gt e j+1:=by
 induction f with
 | zero=>intro e j _ hj hf;omega
 | succ f ih=>
  intro e j he hj hf
  have ihk:∀(e:List Int) (i:Nat),Vec P.orders e→i<P.orders.length→P.orders.length≤f+i→∀k,k<i→gt (tgen P f e i) k=gt e k:=fun e i a b c k hk=>(ih e i a b c).1 k hk
  have hl:=he.1
  have hzl:j+1+(e.drop (j+1)).length≤e.length:=by simp;omega
  have hz:=he.zeroed j (e.drop (j+1)).length hzl
  have hx:=he.2 j hj
  have ho:=hP.ord7 j hj
  have hlz:=length_zeroed e j (e.drop (j+1)).length hzl
  obtain⟨e2,he2⟩:∃e2,e2=(if gt e j+1=gt P.orders j then tvec (tgen P f) (((zeroed e j (e.drop (j+1)).length).set j (gt e j+1)).set j 0) (gt P.powers j) else (zeroed e j (e.drop (j+1)).length).set j (gt e j+1)):=⟨_,rfl⟩
  have hvk:∀c,Vec P.orders c→ZeroTo j c→∀x,Vec P.orders x→Vec P.orders (tvec (tgen P f) x c):=fun c hc hz x hx=>
   tvec_vec hc (fun e i he hi h0=>tgen_vec hP f e i he hi (by
    have:¬i≤j:=fun h=>h0 (hz i h)
    omega)) hx
  have hkeep:∀k,k<j→gt (zeroed e j (e.drop (j+1)).length) k=gt e k:=fun k hk=>by rw[gt_zeroed _ _ _ _ hzl,if_neg (by omega)]
  have h2:Vec P.orders e2∧(∀k,k<j→gt e2 k=gt e k)∧gt e2 j=if gt e j+1=gt P.orders j then 0 else gt e j+1:=by
   rw[he2]
   split
   ·rename_i hc
    rw[List.set_set]
    have hv0:Vec P.orders ((zeroed e j (e.drop (j+1)).length).set j 0):=hz.set j 0 ⟨by omega,fun _=>by omega⟩
    have hk:=tvec_keep hP f j (by omega) ihk _ (hP.pv j hj).1 (hP.pv j hj).2 _ hv0
    refine⟨hvk _ (hP.pv j hj).1 (hP.pv j hj).2 _ hv0,fun k hkj => ?_,?_⟩
    ·rw[hk k (by omega),gt_set_ne _ _ _ _ (by omega)];exact hkeep k hkj
    ·rw[hk j (Nat.le_refl _),gt_set_eq _ _ _ (by omega)]
   ·rename_i hc
    refine⟨hz.set j _ ⟨by omega,fun _=>by omega⟩,fun k hkj => ?_,?_⟩
    ·rw[gt_set_ne _ _ _ _ (by omega)];exact hkeep k hkj
    ·rw[gt_set_eq _ _ _ (by omega)]
  have hstep:∀m,m≤(e.drop (j+1)).length→Vec P.orders (tconjTo (tgen P f) (gt P.conj j) (e.drop (j+1)) e2 m)∧∀k,k≤j→gt (tconjTo (tgen P f) (gt P.conj j) (e.drop (j+1)) e2 m) k=gt e2 k:=by
   intro m
   induction m with
   | zero=>intro _;exact⟨h2.1,fun k _=>rfl⟩
   | succ m ihm=>
    intro hm
    obtain⟨h3,h4⟩:=ihm (by omega)
    have hmm:m<P.orders.length-1-j:=by simp at hm;omega
    have hc:=(hP.cv j hj).2 m hmm
    unfold tconjTo
    refine iter_inv (fun y=>Vec P.orders y∧∀k,k≤j→gt y k=gt e2 k) _ (fun y hy=>⟨hvk _ hc.1 hc.2 _ hy.1,fun k hk => ?_⟩) _ _ ⟨h3,h4⟩
    rw[tvec_keep hP f j (by omega) ihk _ hc.1 hc.2 _ hy.1 k hk];exact hy.2 k hk
  have hfin:=hstep _ (Nat.le_refl _)
  have hdef:tgen P (f+1) e j=tconjTo (tgen P f) (gt P.conj j) (e.drop (j+1)) e2 (e.drop (j+1)).length:=by rw[he2];rfl
  rw[hdef]
  exact⟨fun k hk=>by rw[hfin.2 k (by omega)];exact h2.2.1 k hk,by rw[hfin.2 j (Nat.le_refl _)];exact h2.2.2⟩
def tg (P:Pr) (e:List Int) (j:Nat):List Int:=tgen P P.orders.length e j
def tv (P:Pr) (e f:List Int):List Int:=tvec (tg P) e f
theorem tg_vec {P:Pr} (hP:Valid P) (e:List Int) (j:Nat) (he:Vec P.orders e) (hj:j<P.orders.length):Vec P.orders (tg P e j):=tgen_vec hP _ e j he hj (by omega)
theorem tv_vec {P:Pr} (hP:Valid P) (e f:List Int) (he:Vec P.orders e) (hf:Vec P.orders f):Vec P.orders (tv P e f):=tvec_vec hf (fun e j he hj _=>tg_vec hP e j he hj) he
end Go.Proofs.YtdcobapnlpeaaaaGreat
namespace Go.Proofs.YtdcobapnlpeaaaaGreat
open Go.RowKit
theorem tgenOk (P:Pr) (hP:Valid P) (f:Nat):TgenOk P f:=by
 induction f with
 | zero=>intro base w p e E j _ _ _ hj hf;omega
 | succ f ih=>exact timesGenerator_of P hP f ih
theorem timesGenerator_ok (P:Pr) (hP:Valid P) (base:Nat) (w:World) (p e:Value) (E:List Int) (j:Nat) (hp:PresP (Off e.ownBlock) w p P) (hE:Own base w e E) (hv:Vec P.orders E) (hj:j<P.orders.length) :
  Calls Tryz.prog 280 #[p,e,.int .i64 j] w (Mut w e.ownBlock fun w' v=>v=.tuple #[]∧Own base w' e (tg P E j)):=
 tgenOk P hP _ base w p e E j hp hE hv hj (by omega)
theorem timesVector_ok (P:Pr) (hP:Valid P) (base:Nat) (w:World) (p e f:Value) (E F:List Int) (hp:PresP (Off e.ownBlock) w p P) (hE:Own base w e E)
  (hv:Vec P.orders E) (hf:Ints (Off e.ownBlock) w f F) (hF:Vec P.orders F) :
  Calls Tryz.prog 207 #[p,e,f] w (Mut w e.ownBlock fun w' v=>v=.tuple #[]∧Own base w' e (tv P E F)):=
 timesVector_of P hP _ (tgenOk P hP _) base w p e f E F hp hE hv hf hF (fun j hj _=>by omega)
theorem off_of {base:Nat}{w w1:World}{v:Value}{l:List Int}{S:Nat→Prop} (hO:Own base w1 v l) (hb:w.heap.size≤base) (hg:Ext w w1) :
  ∀k,S k→k<w.heap.size→Off v.ownBlock k∧k<w1.heap.size∧w1.heap[k]? = w.heap[k]? :=by
 intro k _ hk
 refine⟨fun h => ?_,Nat.lt_of_lt_of_le hk hg.size,hg.block k hk (by simp)⟩
 have:=(hO.lt k h).1;omega
theorem mut_ext {base:Nat}{w w1 w2:World}{v:Value}{l:List Int} (hg:Ext w w1) (hO:Own base w1 v l) (hb:w.heap.size≤base) (h:w1.grownBy w2 v.ownBlock):Ext w w2:=
 grown_own hg h (fun j hj hlt=>by have:=(hO.lt j hj).1;omega)
set_option maxHeartbeats 400000 in
theorem multiply_ok (P:Pr) (hP:Valid P) (w:World) (p a b:Value) (A B:List Int) (Sp Sa Sb:Nat→Prop) (hp:PresP Sp w p P) (ha:Ints Sa w a A) (hb:Ints Sb w b B) (hA:Vec P.orders A) (hB:Vec P.orders B) :
  Calls Tryz.prog 152 #[p,a,b] w (Ret w fun w' v=>Own w.heap.size w' v (tv P A B)):=by
 have hn6:=hP.n6
 have hlA:A.length≤6:=by rw[hA.1];omega
 go_enter Tryz.func152,Tryz.ntmps152
 go_wp2_with fail
 refine Calls.mono (clone_ok w a A Sa ha (by omega)) ?_
 rintro e1 w1 ⟨r,rfl,hg1,hR⟩
 go_wp2_with fail
 refine Calls.mono (timesVector_ok P hP w.heap.size w1 p r b A B (hp.mono (off_of hR (Nat.le_refl _) hg1)) hR hA (hb.mono (off_of hR (Nat.le_refl _) hg1)) hB) ?_
 rintro e2 w2 ⟨v2,rfl,hg2,rfl,hR2⟩
 go_wp2
 go_ret
 exact⟨_,rfl,mut_ext hg1 hR (Nat.le_refl _) hg2,hR2⟩
def iPow (P:Pr) (a:List Int) (k:Int):List Int:=iter k.toNat (fun out=>tv P out a) (List.replicate a.length 0)
theorem zeros_vec' {P:Pr} (hP:Valid P) {a:List Int} (ha:Vec P.orders a):Vec P.orders (List.replicate a.length 0):=by
 refine⟨by rw[List.length_replicate];exact ha.1,fun i hi => ?_⟩
 have:=hP.ord7 i hi
 rw[gt_replicate];omega
theorem iPow_vec {P:Pr} (hP:Valid P) (a:List Int) (k:Int) (ha:Vec P.orders a):Vec P.orders (iPow P a k):=
 iter_inv (Vec P.orders) _ (fun y hy=>tv_vec hP y a hy ha) _ _ (zeros_vec' hP ha)
set_option maxHeartbeats 400000 in
theorem power_ok (P:Pr) (hP:Valid P) (w:World) (p a:Value) (A:List Int) (k:Int) (Sp Sa:Nat→Prop) (hp:PresP Sp w p P) (ha:Ints Sa w a A) (hA:Vec P.orders A) (hk:k≤1000000000) :
  Calls Tryz.prog 101 #[p,a,.int .i64 k] w (Ret w fun w' v=>Own w.heap.size w' v (iPow P A k)):=by
 have hn6:=hP.n6
 have hlA:A.length≤6:=by rw[hA.1];omega
 obtain⟨aa,capa,rfl,_,_⟩:=ha.shape
 go_enter Tryz.func101,Tryz.ntmps101
 go_wp2_with (at_make;refine wp_make_ints rfl _ _ rfl w.heap.size A.length w.heap.size rfl _ rfl rfl rfl (by omega) (Nat.le_refl _) ?_;intro w1 ho1 hg1 _)
 generalize Value.slice (some ⟨w.heap.size,0,none⟩) A.length A.length=r at *
 go_loopw [12] (fun i wr=>∃m:Nat,i=.int .i64 m∧m≤k.toNat∧Ext w wr∧Own w.heap.size wr r (iter m (fun out=>tv P out A) (List.replicate A.length 0))) (fun i _=>k.toNat-(intOf i).toNat)
 case atStart=>exact⟨0,rfl,by omega,hg1,ho1⟩
 case round=>
  obtain⟨m,rfl,hm,hg,hO⟩:=hrel
  by_cases hlt:(m:Int)<k
  ·have hvm:Vec P.orders (iter m (fun out=>tv P out A) (List.replicate A.length 0)):=iter_inv (Vec P.orders) _ (fun y hy=>tv_vec hP y A hy hA) _ _ (zeros_vec' hP hA)
   have HV:=Lib.hid hvm;clear hvm
   go_wp2_with fail
   refine Calls.mono (timesVector_ok P hP w.heap.size wr p r _ _ A (hp.mono (off_of hO (Nat.le_refl _) hg)) hO HV.out (ha.mono (off_of hO (Nat.le_refl _) hg)) hA) ?_
   rintro e2 w2 ⟨v2,rfl,hg2,rfl,hR2⟩
   have hg3:=mut_ext hg hO (Nat.le_refl _) hg2
   go_wp2
   go_roundw
   case rel=>exact⟨m+1,by go_num,by omega,hg3,hR2⟩
   case measure=>simp[intOf];omega
  ·have hme:m=k.toNat:=by omega
   have HO:Hid (Own w.heap.size wr r (iPow P A k)):=by rw[hme] at hO;exact hO
   clear hO hme
   go_wp2
   go_ret
   exact⟨_,rfl,hg,HO.out⟩
end Go.Proofs.YtdcobapnlpeaaaaGreat
namespace Go.Proofs.YtdcobapnlpeaaaaGreat
open Go.RowKit
def zeros (n:Nat):List Int:=List.replicate n 0
def rImgTo (at_:List Int→List Int→List Int) (cs:List (List Int)) (i:Nat) (x out:List Int):Nat→List Int
 | 0=>out
 | k+1=>iter (gt x (i+1+k)).toNat (fun out=>at_ out (gt cs k)) (rImgTo at_ cs i x out k)
def rAt (P:Pr):Nat→Nat→List Int→List Int→List Int
 | 0,_,_,_=>zeros P.orders.length
 | f+1,i,A,B=>
  let left:=iter (gt B i).toNat (fun l=>rImgTo (rAt P f (i+1)) (gt P.conj i) i l (zeros P.orders.length) f) (A.set i 0)
  let rest:=rAt P f (i+1) left (B.set i 0)
  let c:=gt A i+gt B i
  if gt P.orders i≤c then (rAt P f (i+1) (gt P.powers i) rest).set i (c-gt P.orders i) else rest.set i c
def rImage (P:Pr) (f i:Nat) (x:List Int):List Int:=rImgTo (rAt P f (i+1)) (gt P.conj i) i x (zeros P.orders.length) f
theorem zeros_vec {P:Pr} (hP:Valid P):Vec P.orders (zeros P.orders.length):=by
 refine⟨by simp[zeros],fun i hi => ?_⟩
 have:=hP.ord7 i hi
 unfold zeros;rw[gt_replicate];omega
def AtVec (P:Pr) (f:Nat):Prop:=∀i A B,i+f=P.orders.length→Vec P.orders A→Vec P.orders B→Vec P.orders (rAt P f i A B)
theorem rImgTo_vec {P:Pr} (hP:Valid P) (f i:Nat) (hi:i+(f+1)=P.orders.length) (hat:AtVec P f) (x out:List Int) (ho:Vec P.orders out) (k:Nat) (hk:k≤f) :
  Vec P.orders (rImgTo (rAt P f (i+1)) (gt P.conj i) i x out k):=by
 induction k with
 | zero=>exact ho
 | succ k ih=>
  unfold rImgTo
  exact iter_inv (Vec P.orders) _ (fun y hy=>hat _ _ _ (by omega) hy ((hP.cv i (by omega)).2 k (by omega)).1) _ _ (ih (by omega))
theorem rAt_vec {P:Pr} (hP:Valid P) (f:Nat):AtVec P f:=by
 induction f with
 | zero=>intro i A B _ _ _;exact zeros_vec hP
 | succ f ih=>
  intro i A B hi hA hB
  have ho:=hP.ord7 i (by omega)
  have hAi:=hA.2 i (by omega)
  have hBi:=hB.2 i (by omega)
  have hl:Vec P.orders (iter (gt B i).toNat (fun l=>rImgTo (rAt P f (i+1)) (gt P.conj i) i l (zeros P.orders.length) f) (A.set i 0)):=
   iter_inv (Vec P.orders) _ (fun y hy=>rImgTo_vec hP f i hi ih _ _ (zeros_vec hP) f (Nat.le_refl _)) _ _ (hA.set i 0 ⟨by omega,fun _=>by omega⟩)
  have hr:=ih (i+1) _ _ (by omega) hl (hB.set i 0 ⟨by omega,fun _=>by omega⟩)
  simp only[rAt]
  split
  ·exact(ih (i+1) _ _ (by omega) (hP.pv i (by omega)).1 hr).set i _ ⟨by omega,fun _=>by omega⟩
  ·exact hr.set i _ ⟨by omega,fun _=>by omega⟩
def AtOk (P:Pr) (f:Nat):Prop:=
 ∀ (w:World) (pv a b:Value) (i:Nat) (A B:List Int) (Sp Sa Sb:Nat→Prop),i+f=P.orders.length→PresV Sp w pv P→Ints Sa w a A→Ints Sb w b B→Vec P.orders A→Vec P.orders B →
  Calls Tryz.prog 281 #[pv,.int .i64 i,a,b] w (Ret w fun w' v=>Own w.heap.size w' v (rAt P f i A B))
set_option maxHeartbeats 2000000 in
theorem l08Image_of (P:Pr) (hP:Valid P) (f:Nat) (ih:AtOk P f) (w:World) (pv x:Value) (i:Nat) (X:List Int) (Sp Sx:Nat→Prop) (hi:i+(f+1)=P.orders.length) (hp:PresV Sp w pv P)
  (hx:Ints Sx w x X) (hX:Vec P.orders X) :
  Calls Tryz.prog 315 #[pv,.int .i64 i,x] w (Ret w fun w' v=>Own w.heap.size w' v (rImage P f i X)):=by
 obtain⟨vo,vp,vc,rfl,h3⟩:=hp
 obtain⟨ax,capx,rfl,_,_⟩:=hx.shape
 have hn6:=hP.n6
 have hB:=PresP.box h3 28
 obtain⟨ao,capo,hco,hoi⟩:=hB.ordAt
 go_enter Tryz.func315,Tryz.ntmps315
 go_wp2_with (at_make;refine wp_make_ints rfl _ _ rfl (w.heap.size+1) P.orders.length (w.heap.size+1) (by simp) _ rfl rfl rfl (by omega) (by simp) ?_;intro w1 ho1 hg1 _)
 have hw1:Ext (w.alloc (.cells #[vo,vp,vc] 28)) w1:=hg1
 have hBx:PresP Any w1 (.pointer (some ⟨w.heap.size,0,none⟩)) P:=hB.ext hw1
 have hxx:Ints Sx w1 (.slice ax X.length capx) X:=(hx.ext (World.grownBy_alloc _ _ _)).ext hw1
 have hgw:Ext w w1:=grown_trans (World.grownBy_alloc _ _ _) hw1
 have hic:i<P.conj.length:=by rw[hP.cl];omega
 have hlc:f≤(gt P.conj i).length:=by rw[(hP.cv i (by omega)).1];omega
 clear hco hoi hg1 hw1 hx hB
 go_loopw [8,9] (fun v j wr=>∃k:Nat,j=.int .i64 ((i:Int)+1+k)∧k≤f∧Ext w1 wr∧Own (w.heap.size+1) wr v (rImgTo (rAt P f (i+1)) (gt P.conj i) i X (zeros P.orders.length) k)) (fun _ j _=>P.orders.length-(intOf j).toNat)
 case atStart=>exact⟨0,by simp,by omega,Ext.refl _,ho1⟩
 case round=>
  clear ho1
  obtain⟨k,rfl,hk,hg,hO⟩:=hrel
  by_cases hlt:k<f
  ·have hxk:=hX.2 (i+1+k) (by omega)
   have hx7:=hP.ord7 (i+1+k) (by omega)
   have hx0:0≤gt X (i+1+k):=hxk.1
   have hx1:gt X (i+1+k)≤7:=by omega
   clear hxk hx7
   have hvk:=rImgTo_vec hP f i hi (rAt_vec hP f) X _ (zeros_vec hP) k hk
   have HV:=Lib.hid hvk;clear hvk
   have hcond:(i:Int)+1+k<P.orders.length:=by omega
   go_wp2
   go_loopw [8,10] (fun v mm wr=>∃m:Nat,mm=.int .i64 m∧m≤(gt X (i+1+k)).toNat∧Ext w1 wr∧Own (w.heap.size+1) wr v (iter m (fun out=>rAt P f (i+1) out (gt (gt P.conj i) k)) (rImgTo (rAt P f (i+1)) (gt P.conj i) i X (zeros P.orders.length) k))) (fun _ mm _=>(gt X (i+1+k)).toNat-(intOf mm).toNat)
   case atStart=>exact⟨0,rfl,by omega,hg,hO⟩
   case round=>
    clear hg hO
    obtain⟨m,rfl,hm,hg,hO⟩:=hrel
    have hxw:=hxx.ext hg
    obtain⟨bx,ox,rfl,_,_,hcx⟩:=Ints.at hxw (i+1+k) (by rw[hX.1];omega)
    have hle:X.length≤P.orders.length∧P.orders.length≤X.length:=by rw[hX.1];omega
    have hix:((i:Int)+1+k).toNat=i+1+k:=by omega
    by_cases hlt2:(m:Int)<gt X (i+1+k)
    ·obtain ⟨vo9,vp9,vc9,_,_,hc0,hc1,hc2,h39⟩:=(hBx.ext hg).at
     obtain⟨ac,capc,rfl,_,_⟩:=Sl.shape h39.c
     obtain⟨bc,oc,ac2,capc2,rfl,_,_,hcc,hrc⟩:=Rows3.at h39.c i hic
     obtain⟨bd,od,ad2,capd2,rfl,_,_,hcd,hid⟩:=Rows2.at hrc k (by omega)
     have hvm:Vec P.orders (iter m (fun out=>rAt P f (i+1) out (gt (gt P.conj i) k)) (rImgTo (rAt P f (i+1)) (gt P.conj i) i X (zeros P.orders.length) k)):=
      iter_inv (Vec P.orders) _ (fun y hy=>rAt_vec hP f _ _ _ (by omega) hy ((hP.cv i (by omega)).2 k (by omega)).1) _ _ HV.out
     have hcv:=((hP.cv i (by omega)).2 k (by omega)).1
     have hOi:=hO.ints (by rw[hvm.1];omega)
     have HVm:=Lib.hid hvm;clear hvm
     have HCv:=Lib.hid hcv;clear hcv
     have e1:∀w',Ext wr w'→w'.cell? ⟨w.heap.size,0,none⟩=some vo9:=fun w' h=>h.cell hc0 (by simp)
     have e2:∀w',Ext wr w'→w'.cell? ⟨w.heap.size,1,none⟩=some vp9:=fun w' h=>h.cell (by simpa using hc1) (by simp)
     have e3:∀w',Ext wr w'→w'.cell? ⟨w.heap.size,2,none⟩=some (.slice (some ⟨bc,oc,none⟩) P.conj.length capc):=fun w' h=>h.cell (by simpa using hc2) (by simp)
     have e4:∀w',Ext wr w'→w'.cell? ⟨bc,oc+i,none⟩=some (.slice (some ⟨bd,od,none⟩) (gt P.conj i).length capc2):=fun w' h=>h.cell hcc (by simp)
     have e5:∀w',Ext wr w'→w'.cell? ⟨bd,od+k,none⟩=some (.slice ad2 (gt (gt P.conj i) k).length capd2):=fun w' h=>h.cell hcd (by simp)
     have s1:IntKind.i64.wrap ((i:Int)+1+k-i)=(k:Int)+1:=by rw[show(i:Int)+1+k-i=(k:Int)+1 by omega];exact IntWalk.i64_in _ (by omega)
     have s2:IntKind.i64.wrap (k:Int)=(k:Int):=IntWalk.i64_in _ (by omega)
     have s3:IntKind.i64.wrap ((i:Int)+1)=(i:Int)+1:=IntWalk.i64_in _ (by omega)
     have b1:(0:Int)≤k:=by omega
     have b2:(k:Int)<(gt P.conj i).length:=by omega
     have b3:(i:Int)<P.conj.length:=by omega
     go_wp2
     clear hc0 hc1 hc2 hcc hcd
     go_region_held3 (fun w'=>Ext wr w') (first|exact grown_drew _ _|exact hg6)
      (first|(go_at_call 281;refine Calls.mono (Calls.rel (w0:=wr) (by assumption) (ih _ _ _ _ (i+1) _ (gt (gt P.conj i) k) Any Any Any (by omega) ⟨_,_,_,rfl,Pres3.ext h39 (by assumption)⟩ (Ints.ext hOi (by assumption)) (Ints.ext hid (by assumption)) HVm.out HCv.out)) ?_;rintro e6 w6 ⟨v6,rfl,hg6,hsz6,hO6⟩))
     clear e1 e2 e3 e4 e5 s1 s2 s3
     go_wp2
     go_roundw
     case rel=>exact⟨m+1,by go_num,by omega,grown_trans hg hg6,hO6.weak (by have:=hg.size;omega)⟩
     case measure=>simp[intOf];omega
    ·have hme:m=(gt X (i+1+k)).toNat:=by omega
     subst hme
     go_wp2
     go_roundw
     case rel=>exact⟨k+1,by go_num,by omega,hg,hO⟩
     case measure=>simp[intOf];omega
  ·have hke:k=f:=by omega
   subst hke
   go_wp2
   go_ret
   exact⟨_,rfl,grown_trans hgw hg,hO.weak (by omega)⟩
end Go.Proofs.YtdcobapnlpeaaaaGreat
namespace Go.Proofs.YtdcobapnlpeaaaaGreat
open Go.RowKit
def left_ (o x:Int):Nat:=if x=0 then 0 else (o-x).toNat
def invTo (P:Pr) (a:List Int):Nat→List Int × List Int
 | 0=>(a,List.replicate a.length 0)
 | k+1=>
  let s:=invTo P a k
  let m:=left_ (gt P.orders k) (gt s.1 k)
  (iter m (fun e=>tg P e k) s.1,iter m (fun e=>tg P e k) s.2)
def iInv (P:Pr) (a:List Int):List Int:=(invTo P a a.length).2
theorem iter_tg {P:Pr} (hP:Valid P) (e:List Int) (k:Nat) (hk:k<P.orders.length) (he:Vec P.orders e) (h0:gt e k≠0) (s:Nat) (hs:s≤left_ (gt P.orders k) (gt e k)) :
  Vec P.orders (iter s (fun e=>tg P e k) e)∧gt (iter s (fun e=>tg P e k) e) k=if s=left_ (gt P.orders k) (gt e k) then 0 else gt e k+s:=by
 have hx:=he.2 k hk
 have hl:left_ (gt P.orders k) (gt e k)=(gt P.orders k-gt e k).toNat:=by unfold left_;rw[if_neg h0]
 rw[hl] at hs ⊢
 induction s with
 | zero=>exact⟨he,by rw[if_neg (by omega)];simp[iter]⟩
 | succ s ih=>
  obtain⟨h1,h2⟩:=ih (by omega)
  refine⟨tg_vec hP _ k h1 hk,?_⟩
  show gt (tg P (iter s (fun e=>tg P e k) e) k) k=_
  have h3:=(tgen_entries hP P.orders.length (iter s (fun e=>tg P e k) e) k h1 hk (by omega)).2
  rw[if_neg (by omega)] at h2
  have h4:gt (tg P (iter s (fun e=>tg P e k) e) k) k=if gt (iter s (fun e=>tg P e k) e) k+1=gt P.orders k then 0 else gt (iter s (fun e=>tg P e k) e) k+1:=h3
  rw[h4,h2]
  by_cases hc:gt e k+s+1=gt P.orders k
  ·rw[if_pos hc,if_pos (by omega)]
  ·rw[if_neg hc,if_neg (by omega)];omega
theorem invTo_vec {P:Pr} (hP:Valid P) (a:List Int) (ha:Vec P.orders a) (k:Nat) (hk:k≤P.orders.length):Vec P.orders (invTo P a k).1∧Vec P.orders (invTo P a k).2:=by
 induction k with
 | zero=>exact⟨ha,zeros_vec' hP ha⟩
 | succ k ih=>
  obtain⟨h1,h2⟩:=ih (by omega)
  exact⟨iter_inv (Vec P.orders) _ (fun y hy=>tg_vec hP y k hy (by omega)) _ _ h1,iter_inv (Vec P.orders) _ (fun y hy=>tg_vec hP y k hy (by omega)) _ _ h2⟩
set_option maxHeartbeats 1000000 in
theorem invert_ok (P:Pr) (hP:Valid P) (w:World) (p a:Value) (A:List Int) (Sp Sa:Nat→Prop) (hp:PresP Sp w p P) (ha:Ints Sa w a A) (hA:Vec P.orders A) :
  Calls Tryz.prog 227 #[p,a] w (Ret w fun w' v=>Own w.heap.size w' v (iInv P A)):=by
 have hn6:=hP.n6
 have hlA:A.length≤P.orders.length∧P.orders.length≤A.length:=by rw[hA.1];omega
 obtain⟨aa,capa,rfl,_,_⟩:=ha.shape
 go_enter Tryz.func227,Tryz.ntmps227
 go_wp2_with fail
 refine Calls.mono (clone_ok w _ A Sa ha (by omega)) ?_
 rintro e1 w1 ⟨r,rfl,hg1,hR⟩
 have hRi:=hR.ints (by omega)
 obtain⟨ar,capr,rfl,_,_⟩:=hRi.shape
 go_wp2_with (at_make;refine wp_make_ints rfl _ _ rfl w1.heap.size A.length w1.heap.size rfl _ rfl rfl rfl (by omega) (Nat.le_refl _) ?_;intro w2 ho2 hg2 _)
 generalize Value.slice (some ⟨w1.heap.size,0,none⟩) A.length A.length=t at *
 have hR2:=hR.ext0 hg2
 have hRlt:=hR.lt
 have HRL:=Lib.hid hRlt
 clear hRi hR hRlt
 have hw2:Ext w w2:=grown_trans hg1 hg2
 have hw1:=hg1.size
 go_loopw [15] (fun i wr=>∃k:Nat,i=.int .i64 k∧k≤A.length∧Ext w wr∧Own w.heap.size wr (.slice ar A.length capr) (invTo P A k).1∧Own w1.heap.size wr t (invTo P A k).2) (fun i _=>A.length-(intOf i).toNat)
 case atStart=>exact⟨0,rfl,by omega,hw2,hR2,ho2⟩
 case round=>
  clear hR2 ho2
  obtain⟨k,rfl,hk,hg,hO,hT⟩:=hrel
  obtain⟨hv1,hv2⟩:=invTo_vec hP A hA k (by omega)
  have HV1:=Lib.hid hv1;have HV2:=Lib.hid hv2
  by_cases hlt:k<A.length
  ·have hx:=hv1.2 k (by omega)
   have hok:=hP.ord7 k (by omega)
   obtain⟨g,capg,hfm,_,_⟩:=hO.form (by rw[hv1.1];omega)
   have hlen:(invTo P A k).1.length=A.length:=by rw[hv1.1,hA.1]
   rw[hlen] at hfm
   have hsucc:invTo P A (k+1)=(iter (left_ (gt P.orders k) (gt (invTo P A k).1 k)) (fun e=>tg P e k) (invTo P A k).1,iter (left_ (gt P.orders k) (gt (invTo P A k).1 k)) (fun e=>tg P e k) (invTo P A k).2):=rfl
   have HSC:=Lib.hid hsucc;clear hsucc
   obtain⟨rfl,hcg⟩:ar=some ⟨g,0,none⟩∧capr=capg:=by cases hfm;exact⟨rfl,rfl⟩
   clear hfm hcg hv1 hv2
   have hbt:=hT.lt
   have hgl:g<w1.heap.size:=(HRL.out g rfl).2
   have HBT:=Lib.hid hbt;clear hbt
   generalize hr0:(invTo P A k).1=R at *
   generalize ht0:(invTo P A k).2=T at *
   have Hr0:=Lib.hid hr0;have Ht0:=Lib.hid ht0;clear hr0 ht0
   have hx0:0≤gt R k:=hx.1
   have hx1:gt R k<gt P.orders k:=hx.2
   have hok1:gt P.orders k≤7:=hok.2
   have HLEN:=Lib.hid hlen;clear hlen hx hok
   go_wp2
   go_loopg [21] (left_ (gt P.orders k) (gt R k)) (fun gk u wr=>∃s:Nat,gk+s=left_ (gt P.orders k) (gt R k)∧Ext w wr∧Own w.heap.size wr (.slice (some ⟨g,0,none⟩) A.length capr) (iter s (fun e=>tg P e k) R)∧Own w1.heap.size wr t (iter s (fun e=>tg P e k) T))
   case atStart=>exact⟨0,by omega,hg,hO,hT⟩
   case round=>
    clear hg hO hT
    obtain⟨s,hs,hg,hO,hT⟩:=hrel
    have hRs:Vec P.orders (iter s (fun e=>tg P e k) R)∧Vec P.orders (iter s (fun e=>tg P e k) T):=
     ⟨iter_inv (Vec P.orders) _ (fun y hy=>tg_vec hP y k hy (by omega)) _ _ HV1.out,iter_inv (Vec P.orders) _ (fun y hy=>tg_vec hP y k hy (by omega)) _ _ HV2.out⟩
    have HRs:=Lib.hid hRs
    have hc:=hO.cell k (by rw[hRs.1.1];omega)
    clear hRs
    by_cases hm:s=left_ (gt P.orders k) (gt R k)
    ·have hz:gt (iter s (fun e=>tg P e k) R) k=0:=by
      by_cases h0:gt R k=0
      ·have:s=0:=by rw[hm];unfold left_;rw[if_pos h0]
       rw[this];exact h0
      ·rw[(iter_tg hP R k (by omega) HV1.out h0 s (by omega)).2,if_pos hm]
     rw[hz] at hc
     have hO2:Own w.heap.size wr (.slice (some ⟨g,0,none⟩) A.length capr) (invTo P A (k+1)).1:=by rw[HSC.out,←hm];exact hO
     have hT2:Own w1.heap.size wr t (invTo P A (k+1)).2:=by rw[HSC.out,←hm];exact hT
     have HO2:=Lib.hid hO2;have HT2:=Lib.hid hT2;clear hO2 hT2 hO hT hm hz
     go_wp2
     go_roundw
     case rel=>exact⟨k+1,by go_num,by omega,hg,HO2.out,HT2.out⟩
     case measure=>simp[intOf];omega
    ·have hz:gt (iter s (fun e=>tg P e k) R) k≠0:=by
      by_cases h0:gt R k=0
      ·exfalso;apply hm
       have:left_ (gt P.orders k) (gt R k)=0:=by unfold left_;rw[if_pos h0]
       omega
      ·rw[(iter_tg hP R k (by omega) HV1.out h0 s (by omega)).2,if_neg hm];omega
     have hzb:(gt (iter s (fun e=>tg P e k) R) k != 0)=true:=by simpa using hz
     have HM:=Lib.hid hm;clear hm hz
     go_wp2_with fail
     refine Calls.mono (timesGenerator_ok P hP w.heap.size wr p _ _ k (hp.mono (off_of hO (Nat.le_refl _) hg)) hO HRs.out.1 (by omega)) ?_
     rintro e3 w3 ⟨v3,rfl,hg3,rfl,hO3⟩
     have hgx:=mut_ext hg hO (Nat.le_refl _) hg3
     have hT3:Own w1.heap.size w3 t (iter s (fun e=>tg P e k) T):=hT.ext hg3 (by
      cases hb:t.ownBlock with
      | none=>exact .inl rfl
      | some q=>exact .inr (fun h=>by have h:some q=some g:=h;cases h;have:=(hT.lt _ hb).1;omega))
     go_wp2_with fail
     refine Calls.mono (timesGenerator_ok P hP w1.heap.size w3 p t _ k (hp.mono (off_of hT3 hw1 hgx)) hT3 HRs.out.2 (by omega)) ?_
     rintro e4 w4 ⟨v4,rfl,hg4,rfl,hT4⟩
     have hgy:=mut_ext hgx hT3 hw1 hg4
     have hO4:=hO3.ext hg4 (by
      cases hb:t.ownBlock with
      | none=>exact .inr (by simp[Value.ownBlock])
      | some q=>exact .inr (fun h=>by have h:some g=some q:=h;cases h;have:=(hT3.lt _ hb).1;omega))
     clear hc hzb hO hT hO3 hT3
     go_wp2
     go_roundg (gk-1)
     case measure=>have:=HM.out;omega
     case rel=>exact⟨s+1,by have:=HM.out;omega,hgy,hO4,hT4⟩
  ·have hke:k=A.length:=by omega
   subst hke
   go_wp2
   go_ret
   exact⟨_,rfl,hg,hT.weak hw1⟩
end Go.Proofs.YtdcobapnlpeaaaaGreat
namespace Go.Proofs.YtdcobapnlpeaaaaGreat
open Go.RowKit
theorem iInv_vec {P:Pr} (hP:Valid P) (a:List Int) (ha:Vec P.orders a):Vec P.orders (iInv P a):=(invTo_vec hP a ha a.length (by rw[ha.1];omega)).2
def iConj (P:Pr) (a b:List Int):List Int:=tv P (iInv P b) (tv P a b)
set_option maxHeartbeats 400000 in
theorem conjugate_ok (P:Pr) (hP:Valid P) (w:World) (p a b:Value) (A B:List Int) (Sp Sa Sb:Nat→Prop) (hp:PresP Sp w p P) (ha:Ints Sa w a A) (hb:Ints Sb w b B) (hA:Vec P.orders A) (hB:Vec P.orders B) :
  Calls Tryz.prog 156 #[p,a,b] w (Ret w fun w' v=>Own w.heap.size w' v (iConj P A B)):=by
 have hn6:=hP.n6
 have hl1:(iInv P B).length≤6:=by rw[(iInv_vec hP B hB).1];omega
 have hl2:(tv P A B).length≤6:=by rw[(tv_vec hP A B hA hB).1];omega
 go_enter Tryz.func156,Tryz.ntmps156
 go_wp2_with fail
 refine Calls.mono (invert_ok P hP w p b B Sp Sb hp hb hB) ?_
 rintro e1 w1 ⟨r,rfl,hg1,hR⟩
 go_wp2_with fail
 refine Calls.mono (multiply_ok P hP w1 p a b A B Sp Sa Sb (hp.ext hg1) (ha.ext hg1) (hb.ext hg1) hA hB) ?_
 rintro e2 w2 ⟨m,rfl,hg2,hM⟩
 go_wp2_with fail
 refine Calls.mono (multiply_ok P hP w2 p r m _ _ Sp Any Any (hp.ext (grown_trans hg1 hg2)) ((hR.ext0 hg2).ints (by omega)) (hM.ints (by omega)) (iInv_vec hP B hB) (tv_vec hP A B hA hB)) ?_
 rintro e3 w3 ⟨q,rfl,hg3,hQ⟩
 go_wp2
 go_ret
 exact⟨_,rfl,grown_trans (grown_trans hg1 hg2) hg3,hQ.weak (by have:=hg1.size;have:=hg2.size;omega)⟩
def iImg (P:Pr) (i:Nat) (x:List Int):List Int:=rImgTo (tv P) (gt P.conj i) i x (List.replicate x.length 0) (gt P.conj i).length
theorem iImgTo_vec {P:Pr} (hP:Valid P) (i:Nat) (hi:i<P.orders.length) (x out:List Int) (ho:Vec P.orders out) (k:Nat) (hk:k≤(gt P.conj i).length) :
  Vec P.orders (rImgTo (tv P) (gt P.conj i) i x out k):=by
 have hc:=hP.cv i hi
 induction k with
 | zero=>exact ho
 | succ k ih=>
  unfold rImgTo
  exact iter_inv (Vec P.orders) _ (fun y hy=>tv_vec hP _ _ hy (hc.2 k (by omega)).1) _ _ (ih (by omega))
set_option maxHeartbeats 1000000 in
theorem imageBy_ok (P:Pr) (hP:Valid P) (w:World) (p x:Value) (i:Nat) (X:List Int) (Sp Sx:Nat→Prop) (hi:i<P.orders.length) (hp:PresP Sp w p P) (hx:Ints Sx w x X) (hX:Vec P.orders X) :
  Calls Tryz.prog 316 #[p,.int .i64 i,x] w (Ret w fun w' v=>Own w.heap.size w' v (iImg P i X)):=by
 have hn6:=hP.n6
 have hlX:X.length≤P.orders.length∧P.orders.length≤X.length:=by rw[hX.1];omega
 obtain⟨pb,po,rfl⟩:=hp.shape
 obtain⟨ax,capx,rfl,_,_⟩:=hx.shape
 have hic:i<P.conj.length:=by rw[hP.cl];omega
 have hcl:=(hP.cv i hi).1
 have hlc:(gt P.conj i).length+i+1≤P.orders.length:=by omega
 have HCL:=Lib.hid hcl;clear hcl
 obtain⟨ac,capc,hcc0,hci0⟩:=hp.conjAt
 obtain⟨bc,oc,ac2,capc2,rfl,_,_,hc20,hi20⟩:=Rows3.at hci0 i hic
 go_enter Tryz.func316,Tryz.ntmps316
 go_wp2_with (at_make;refine wp_make_ints rfl _ _ rfl w.heap.size X.length w.heap.size rfl _ rfl rfl rfl (by omega) (Nat.le_refl _) ?_;intro w1 ho1 hg1 _;have hcc:=hg1.cell hcc0 (by simp);have hc2:=hg1.cell hc20 (by simp))
 clear hcc hc2 hci0 hcc0 hc20
 generalize Value.slice (some ⟨w.heap.size,0,none⟩) X.length X.length=t at *
 go_loopw [21] (fun ii wr=>∃k:Nat,ii=.int .i64 k∧k≤(gt P.conj i).length∧Ext w wr∧Own w.heap.size wr t (rImgTo (tv P) (gt P.conj i) i X (List.replicate X.length 0) k)) (fun ii _=>(gt P.conj i).length-(intOf ii).toNat)
 case atStart=>exact⟨0,rfl,by omega,hg1,ho1⟩
 case round=>
  clear ho1
  obtain⟨k,rfl,hk,hgw,hO⟩:=hrel
  by_cases hlt:k<(gt P.conj i).length
  ·have hvk:=iImgTo_vec hP i hi X _ (zeros_vec' hP hX) k hk
   have HV:=Lib.hid hvk;clear hvk
   have hcv:=((hP.cv i hi).2 k (by omega)).1
   have HCV:=Lib.hid hcv;clear hcv
   have hix:((i:Int)+1+k).toNat=i+1+k:=by omega
   have hbx:(i:Int)+1+k<X.length:=by omega
   obtain⟨bx,ox,rfl,_,_,hcx⟩:=Ints.at (hx.ext hgw) (i+1+k) (by omega)
   have hxk:=hX.2 (i+1+k) (by omega)
   have hx7:=hP.ord7 (i+1+k) (by omega)
   have hx0:0≤gt X (i+1+k):=hxk.1
   have hx1:gt X (i+1+k)≤7:=by omega
   clear hxk hx7
   obtain⟨bd,od,ad2,capd2,rfl,_,_,hcd0,hid⟩:=Rows2.at hi20 k hlt
   have hcd:=hgw.cell hcd0 (by simp)
   go_wp2
   go_loopw [33] (fun mm wr2=>∃m:Nat,mm=.int .i64 m∧m≤(gt X (i+1+k)).toNat∧Ext w wr2∧Own w.heap.size wr2 t (iter m (fun out=>tv P out (gt (gt P.conj i) k)) (rImgTo (tv P) (gt P.conj i) i X (List.replicate X.length 0) k))) (fun mm _=>(gt X (i+1+k)).toNat-(intOf mm).toNat)
   case atStart=>exact⟨0,rfl,by omega,hgw,hO⟩
   case round=>
    clear hgw hO hcx hcd hcd0
    obtain⟨m,rfl,hm,hgw,hO⟩:=hrel
    by_cases hlt2:(m:Int)<gt X (i+1+k)
    ·have hvm:Vec P.orders (iter m (fun out=>tv P out (gt (gt P.conj i) k)) (rImgTo (tv P) (gt P.conj i) i X (List.replicate X.length 0) k)):=iter_inv (Vec P.orders) _ (fun y hy=>tv_vec hP y _ hy HCV.out) _ _ HV.out
     have HVM:=Lib.hid hvm;clear hvm
     go_wp2_with fail
     refine Calls.mono (timesVector_ok P hP w.heap.size wr _ t _ _ _ (hp.mono (off_of hO (Nat.le_refl _) hgw)) hO HVM.out (hid.mono (off_of hO (Nat.le_refl _) hgw)) HCV.out) ?_
     rintro e3 w3 ⟨v3,rfl,hg3,rfl,hO3⟩
     have hgx:=mut_ext hgw hO (Nat.le_refl _) hg3
     go_wp2
     go_roundw
     case rel=>exact⟨m+1,by go_num,by omega,hgx,hO3⟩
     case measure=>simp[intOf];omega
    ·have hme:m=(gt X (i+1+k)).toNat:=by omega
     subst hme
     go_wp2
     go_roundw
     case rel=>exact⟨k+1,by go_num,by omega,hgw,hO⟩
     case measure=>simp[intOf];omega
  ·have hke:k=(gt P.conj i).length:=by omega
   subst hke
   go_wp2
   go_ret
   exact⟨_,rfl,hgw,hO⟩
end Go.Proofs.YtdcobapnlpeaaaaGreat
namespace Go.Proofs.YtdcobapnlpeaaaaGreat
open Go.RowKit
def numTo (o x:List Int):Nat→Int
 | 0=>0
 | k+1=>numTo o x k*gt o k+gt x k
def num (P:Pr) (x:List Int):Int:=numTo P.orders x P.orders.length
theorem numTo_bd {P:Pr} (hP:Valid P) {x:List Int} (hx:Vec P.orders x) (k:Nat) (hk:k≤P.orders.length):0≤numTo P.orders x k∧numTo P.orders x k+1≤prodTo P.orders k:=by
 induction k with
 | zero=>simp[numTo,prodTo]
 | succ k ih=>
  obtain⟨h1,h2⟩:=ih (by omega)
  have h3:=hP.pos k (by omega)
  have h4:=hx.2 k (by omega)
  have h5:0≤numTo P.orders x k*gt P.orders k:=Int.mul_nonneg h1 (by omega)
  have h6:(numTo P.orders x k+1)*gt P.orders k≤prodTo P.orders k*gt P.orders k:=Int.mul_le_mul_of_nonneg_right h2 (by omega)
  rw[Int.add_mul,Int.one_mul] at h6
  simp only[numTo,prodTo]
  omega
theorem num_bd {P:Pr} (hP:Valid P) {x:List Int} (hx:Vec P.orders x):0≤num P x∧num P x<ordP P:=by
 have:=numTo_bd hP hx P.orders.length (Nat.le_refl _)
 unfold num ordP;omega
set_option maxHeartbeats 400000 in
theorem numberOf_ok (P:Pr) (hP:Valid P) (w:World) (p x:Value) (X:List Int) (Sp Sx:Nat→Prop) (hp:PresP Sp w p P) (hx:Ints Sx w x X) (hX:Vec P.orders X) :
  Calls Tryz.prog 177 #[p,x] w fun e w'=>e=.returned (.int .i64 (num P X))∧w=w':=by
 have hn6:=hP.n6
 have hlX:X.length≤P.orders.length∧P.orders.length≤X.length:=by rw[hX.1];omega
 obtain⟨pb,po,rfl⟩:=hp.shape
 obtain⟨ax,capx,rfl,_,_⟩:=hx.shape
 obtain⟨ao,capo,hco,hoi⟩:=hp.ordAt
 go_enter Tryz.func177,Tryz.ntmps177
 go_wp2
 go_loop [5,10] (fun nv i=>∃k:Nat,i=.int .i64 k∧nv=.int .i64 (numTo P.orders X k)∧k≤X.length) (fun _ i=>X.length-(intOf i).toNat)
 case atStart=>exact⟨0,rfl,rfl,by omega⟩
 case round=>
  obtain⟨k,rfl,rfl,hk⟩:=hrel
  by_cases hlt:k<X.length
  ·obtain ⟨b,off,rfl,_,_,hc⟩:=Ints.at hx k hlt
   obtain⟨b2,off2,rfl,_,_,hc2⟩:=Ints.at hoi k (by omega)
   have h1:=numTo_bd hP hX (k+1) (by omega)
   have h2:=hP.pre (k+1) (by omega)
   have h3:=hX.2 k (by omega)
   have h4:=numTo_bd hP hX k (by omega)
   have h7:=hP.ord7 k (by omega)
   have h5:0≤numTo P.orders X k*gt P.orders k:=Int.mul_nonneg h4.1 (by omega)
   have h6:numTo P.orders X k*gt P.orders k≤729:=by simp only[numTo] at h1;omega
   have h8:0≤gt X k:=h3.1
   have h9:gt X k≤7:=by omega
   clear h1 h2 h3 h4 h7
   go_wp2
   go_round
   case rel=>exact⟨k+1,by go_num,rfl,by omega⟩
   case measure=>simp[intOf];omega
  ·have hke:k=P.orders.length:=by omega
   subst hke
   go_wp2
   go_ret
   exact⟨rfl,rfl⟩
set_option maxHeartbeats 400000 in
theorem l10Number_ok (P:Pr) (hP:Valid P) (w:World) (pv x:Value) (X:List Int) (Sp Sx:Nat→Prop) (hp:PresV Sp w pv P) (hx:Ints Sx w x X) (hX:Vec P.orders X) :
  Calls Tryz.prog 255 #[pv,x] w (Ret w fun _ v=>v=.int .i64 (num P X)):=by
 obtain⟨vo,vp,vc,rfl,h3⟩:=hp
 have hn6:=hP.n6
 have hlX:X.length≤P.orders.length∧P.orders.length≤X.length:=by rw[hX.1];omega
 have hB:=PresP.box h3 28
 have hg0:Ext w (w.alloc (.cells #[vo,vp,vc] 28)):=World.grownBy_alloc _ _ _
 have hx0:=hx.ext hg0
 obtain⟨ax,capx,rfl,_,_⟩:=hx.shape
 go_enter Tryz.func255,Tryz.ntmps255
 go_wp2
 generalize hw0:w.alloc (.cells #[vo,vp,vc] 28)=w0 at *
 clear hw0
 go_loopw [5,6] (fun nv i wr=>∃k:Nat,i=.int .i64 k∧nv=.int .i64 (numTo P.orders X k)∧k≤X.length∧Ext w0 wr) (fun _ i _=>X.length-(intOf i).toNat)
 case atStart=>exact⟨0,rfl,rfl,by omega,Ext.refl _⟩
 case round=>
  obtain⟨k,rfl,rfl,hk,hg⟩:=hrel
  by_cases hlt:k<X.length
  ·obtain ⟨ao,capo,hco,hoi⟩:=(hB.ext hg).ordAt
   obtain⟨b,off,rfl,_,_,hc⟩:=Ints.at (hx0.ext hg) k hlt
   obtain⟨b2,off2,rfl,_,_,hc2⟩:=Ints.at hoi k (by omega)
   have h1:=numTo_bd hP hX (k+1) (by omega)
   have h2:=hP.pre (k+1) (by omega)
   have h3:=hX.2 k (by omega)
   have h4:=numTo_bd hP hX k (by omega)
   have h7:=hP.ord7 k (by omega)
   have h5:0≤numTo P.orders X k*gt P.orders k:=Int.mul_nonneg h4.1 (by omega)
   have h6:numTo P.orders X k*gt P.orders k≤729:=by simp only[numTo] at h1;omega
   have h8:0≤gt X k:=h3.1
   have h9:gt X k≤7:=by omega
   have hk1:(k:Int)<X.length:=by omega
   have hk2:(k:Int)<P.orders.length:=by omega
   have s1:IntKind.i64.wrap (numTo P.orders X k*gt P.orders k)=numTo P.orders X k*gt P.orders k:=IntWalk.i64_in _ (by omega)
   have s2:IntKind.i64.wrap (numTo P.orders X k*gt P.orders k+gt X k)=numTo P.orders X k*gt P.orders k+gt X k:=IntWalk.i64_in _ (by omega)
   clear h1 h2 h3 h4 h7
   go_wp2
   go_quiet (fail)
   clear s1 s2
   go_wp2
   go_roundw
   case rel=>exact⟨k+1,by go_num,rfl,by omega,grown_trans hg (grown_drewN _ _ _)⟩
   case measure=>simp[intOf];omega
  ·have hke:k=P.orders.length:=by omega
   subst hke
   go_wp2
   go_ret
   exact⟨_,rfl,grown_trans hg0 hg,rfl⟩
def elTo (o:List Int) (N:Nat) (m:Int):Nat→List Int × Int
 | 0=>(List.replicate N 0,m)
 | k+1=>
  let s:=elTo o N m k
  (s.1.set (N-1-k) (s.2%gt o (N-1-k)),s.2/gt o (N-1-k))
def elAt (P:Pr) (m:Int):List Int:=(elTo P.orders P.orders.length m P.orders.length).1
theorem elTo_inv {P:Pr} (hP:Valid P) (m:Int) (hm:0≤m) (k:Nat) (hk:k≤P.orders.length) :
  Vec P.orders (elTo P.orders P.orders.length m k).1∧0≤(elTo P.orders P.orders.length m k).2∧(elTo P.orders P.orders.length m k).2≤m:=by
 induction k with
 | zero=>
  refine⟨⟨by simp[elTo],fun i hi => ?_⟩,hm,Int.le_refl _⟩
  have:=hP.ord7 i hi
  simp only[elTo];rw[gt_replicate];omega
 | succ k ih=>
  obtain⟨h1,h2,h3⟩:=ih (by omega)
  have ho:=hP.ord7 (P.orders.length-1-k) (by omega)
  refine⟨h1.set _ _ ⟨Int.emod_nonneg _ (by omega),fun _=>Int.emod_lt_of_pos _ (by omega)⟩,Int.ediv_nonneg h2 (by omega),?_⟩
  exact Int.le_trans (Int.ediv_le_self _ h2) h3
theorem elAt_vec {P:Pr} (hP:Valid P) (m:Int) (hm:0≤m):Vec P.orders (elAt P m):=(elTo_inv hP m hm _ (Nat.le_refl _)).1
set_option maxHeartbeats 400000 in
theorem l10One_ok (P:Pr) (hP:Valid P) (w:World) (pv:Value) (Sp:Nat→Prop) (hp:PresV Sp w pv P) :
  Calls Tryz.prog 212 #[pv] w (Ret w fun w' v=>Own w.heap.size w' v (zeros P.orders.length)):=by
 obtain⟨vo,vp,vc,rfl,h3⟩:=hp
 have hn6:=hP.n6
 have hB:=PresP.box h3 28
 obtain⟨ao,capo,hco,hoi⟩:=hB.ordAt
 go_enter Tryz.func212,Tryz.ntmps212
 go_wp2_with (at_make;refine wp_make_ints rfl _ _ rfl (w.heap.size+1) P.orders.length (w.heap.size+1) (by simp) _ rfl rfl rfl (by omega) (by simp) ?_;intro w1 ho1 hg1 _)
 go_ret
 exact⟨_,rfl,grown_trans (World.grownBy_alloc _ _ _) hg1,ho1.weak (by omega)⟩
set_option maxHeartbeats 1000000 in
theorem elementAt_ok (P:Pr) (hP:Valid P) (w:World) (p:Value) (m:Int) (Sp:Nat→Prop) (hp:PresP Sp w p P) (hm:0≤m) (hm2:m≤1000000000) :
  Calls Tryz.prog 147 #[p,.int .i64 m] w (Ret w fun w' v=>Own w.heap.size w' v (elAt P m)):=by
 have hn6:=hP.n6
 obtain⟨pb,po,rfl⟩:=hp.shape
 obtain⟨ao,capo,hco0,hoi⟩:=hp.ordAt
 have hco:=hco0
 go_enter Tryz.func147,Tryz.ntmps147
 go_wp2_with (at_make;refine wp_make_ints rfl _ _ rfl w.heap.size P.orders.length w.heap.size rfl _ rfl rfl rfl (by omega) (by simp) ?_;intro w1 ho1 hg1 _)
 clear hco
 have HCO:=Lib.hid hco0;clear hco0
 go_loopw [1,6] (fun mv i wr=>∃k:Nat,i=.int .i64 ((P.orders.length:Int)-1-k)∧mv=.int .i64 (elTo P.orders P.orders.length m k).2∧k≤P.orders.length∧Ext w wr ∧
   Own w.heap.size wr (.slice (some ⟨w.heap.size,0,none⟩) P.orders.length P.orders.length) (elTo P.orders P.orders.length m k).1) (fun _ i _=>(intOf i+1).toNat)
 case atStart=>exact⟨0,by simp,rfl,by omega,hg1,ho1⟩
 case round=>
  obtain⟨k,rfl,rfl,hk,hg,hO⟩:=hrel
  obtain⟨hv,hm0,hm1⟩:=elTo_inv hP m hm k hk
  by_cases hlt:k<P.orders.length
  ·obtain ⟨b2,off2,rfl,_,_,hc20⟩:=Ints.at hoi (P.orders.length-1-k) (by omega)
   have hco:=hg.cell HCO.out (by simp)
   have hc2:=hg.cell hc20 (by simp)
   have ho7:=hP.ord7 (P.orders.length-1-k) (by omega)
   have hc:=hO.cell (P.orders.length-1-k) (by rw[hv.1];omega)
   have hf:=hO.frozen (P.orders.length-1-k)
   have hsucc:elTo P.orders P.orders.length m (k+1)=((elTo P.orders P.orders.length m k).1.set (P.orders.length-1-k) ((elTo P.orders P.orders.length m k).2%gt P.orders (P.orders.length-1-k)),(elTo P.orders P.orders.length m k).2/gt P.orders (P.orders.length-1-k)):=rfl
   have HSC:=Lib.hid hsucc;clear hsucc
   obtain⟨hO2,hg2⟩:=hO.store (P.orders.length-1-k) ((elTo P.orders P.orders.length m k).2%gt P.orders (P.orders.length-1-k))
   have hgx:Ext w (wr.setCell ⟨w.heap.size,P.orders.length-1-k,none⟩ (.int .i64 ((elTo P.orders P.orders.length m k).2%gt P.orders (P.orders.length-1-k)))):=grown_own hg hg2 (fun j hj hlt=>by cases hj;omega)
   have hco3:=hgx.cell HCO.out (by simp)
   have hc23:=hgx.cell hc20 (by simp)
   clear hc20
   have hidx:((P.orders.length:Int)-1-k).toNat=P.orders.length-1-k:=by omega
   generalize hi:P.orders.length-1-k=i at *
   generalize (elTo P.orders P.orders.length m k).1=L at *
   generalize (elTo P.orders P.orders.length m k).2=M at *
   have ho70:2≤gt P.orders i:=ho7.1
   have ho71:gt P.orders i≤7:=ho7.2
   have HI:=Lib.hid hi;clear hi ho7
   go_wp2
   go_roundw
   case rel=>exact⟨k+1,by congr 1;omega,by rw[HSC.out],by omega,hgx,by rw[HSC.out];exact hO2⟩
   case measure=>simp[intOf];omega
  ·have hke:k=P.orders.length:=by omega
   subst hke
   go_wp2
   go_ret
   exact⟨_,rfl,hg,hO⟩
set_option maxHeartbeats 1000000 in
theorem l10At_ok (P:Pr) (hP:Valid P) (w:World) (pv:Value) (m:Int) (Sp:Nat→Prop) (hpv:PresV Sp w pv P) (hm:0≤m) (hm2:m≤1000000000) :
  Calls Tryz.prog 107 #[pv,.int .i64 m] w (Ret w fun w' v=>Own w.heap.size w' v (elAt P m)):=by
 have hn6:=hP.n6
 obtain⟨vo,vp,vc,rfl,h3⟩:=hpv
 have hp:=PresP.box h3 28
 have hg0:Ext w (w.alloc (.cells #[vo,vp,vc] 28)):=World.grownBy_alloc _ _ _
 obtain⟨vo9,vp9,vc9,_,_,hc0,hc1,hc2,h39⟩:=hp.at
 obtain⟨ao,capo,hco,hoi⟩:=hp.ordAt
 go_enter Tryz.func107,Tryz.ntmps107
 go_wp2_with fail
 have hs0:(w.alloc (.cells #[vo,vp,vc] 28)).heap.size=w.heap.size+1:=by simp
 have HS:=Lib.hid hs0;clear hs0
 clear hc0 hc1 hc2
 have HCO:=Lib.hid hco;clear hco
 generalize hw0:w.alloc (.cells #[vo,vp,vc] 28)=w0 at *
 clear hw0
 refine Calls.mono (l10One_ok P hP w0 _ Any ⟨_,_,_,rfl,h39⟩) ?_
 rintro e1 w1 ⟨r,rfl,hg1,ho1⟩
 have hri:=ho1.ints (by simp[zeros];omega)
 obtain⟨ar,capr,rfl,_,_⟩:=hri.shape
 have hzl:(zeros P.orders.length).length=P.orders.length:=by simp[zeros]
 rw[hzl] at hri
 have ho1:Own w0.heap.size w1 (.slice ar P.orders.length capr) (zeros P.orders.length):=by rw[hzl] at ho1;exact ho1
 simp only[hzl]
 clear hzl hri
 go_wp2
 go_loopw [1,6] (fun mv i wr=>∃k:Nat,i=.int .i64 ((P.orders.length:Int)-1-k)∧mv=.int .i64 (elTo P.orders P.orders.length m k).2∧k≤P.orders.length∧Ext w0 wr ∧
   Own w0.heap.size wr (.slice ar P.orders.length capr) (elTo P.orders P.orders.length m k).1) (fun _ i _=>(intOf i+1).toNat)
 case atStart=>exact⟨0,by simp,rfl,by omega,hg1,ho1⟩
 case round=>
  clear ho1
  obtain⟨k,rfl,rfl,hk,hg,hO⟩:=hrel
  obtain⟨hv,hm0,hm1⟩:=elTo_inv hP m hm k hk
  by_cases hlt:k<P.orders.length
  ·obtain ⟨g,capg,hfm,hgb,hgs⟩:=hO.form (by rw[hv.1];omega)
   rw[hv.1] at hfm
   obtain⟨rfl,_⟩:ar=some ⟨g,0,none⟩∧capr=capg:=by cases hfm;exact⟨rfl,rfl⟩
   clear hfm
   obtain⟨b2,off2,rfl,_,_,hc20⟩:=Ints.at hoi (P.orders.length-1-k) (by omega)
   have hco:=hg.cell HCO.out (by simp)
   have hc2:=hg.cell hc20 (by simp)
   have ho7:=hP.ord7 (P.orders.length-1-k) (by omega)
   have hc:=hO.cell (P.orders.length-1-k) (by rw[hv.1];omega)
   have hf:=hO.frozen (P.orders.length-1-k)
   have hsucc:elTo P.orders P.orders.length m (k+1)=((elTo P.orders P.orders.length m k).1.set (P.orders.length-1-k) ((elTo P.orders P.orders.length m k).2%gt P.orders (P.orders.length-1-k)),(elTo P.orders P.orders.length m k).2/gt P.orders (P.orders.length-1-k)):=rfl
   have HSC:=Lib.hid hsucc;clear hsucc
   obtain⟨hO2,hg2⟩:=hO.store (P.orders.length-1-k) ((elTo P.orders P.orders.length m k).2%gt P.orders (P.orders.length-1-k))
   have hgx:Ext w0 (wr.setCell ⟨g,P.orders.length-1-k,none⟩ (.int .i64 ((elTo P.orders P.orders.length m k).2%gt P.orders (P.orders.length-1-k)))):=grown_own hg hg2 (fun j hj hlt=>by cases hj;omega)
   have hco3:=hgx.cell HCO.out (by simp)
   have hc23:=hgx.cell hc20 (by simp)
   clear hc20
   have hidx:((P.orders.length:Int)-1-k).toNat=P.orders.length-1-k:=by omega
   generalize hi:P.orders.length-1-k=i at *
   generalize (elTo P.orders P.orders.length m k).1=L at *
   generalize (elTo P.orders P.orders.length m k).2=M at *
   have ho70:2≤gt P.orders i:=ho7.1
   have ho71:gt P.orders i≤7:=ho7.2
   have HI:=Lib.hid hi;clear hi ho7
   go_wp2
   go_roundw
   case rel=>exact⟨k+1,by congr 1;omega,by rw[HSC.out],by omega,hgx,by rw[HSC.out];exact hO2⟩
   case measure=>simp[intOf];omega
  ·have hke:k=P.orders.length:=by omega
   subst hke
   go_wp2
   go_ret
   exact⟨_,rfl,grown_trans hg0 hg,hO.weak (by have:=HS.out;omega)⟩
end Go.Proofs.YtdcobapnlpeaaaaGreat
namespace Go.Proofs.YtdcobapnlpeaaaaGreat
open Go.RowKit
theorem und_rows:Tryz.prog.underlying 25=some (.slice 24):=by kernel_rfl
theorem Tryz.infoRow:(Tryz.prog.info? 24).map (fun i=>(i.zero,i.size,i.bytes))=some (some (.slice none 0 0),1,24):=by kernel_rfl
theorem wp_app_row {ops:Array Oper}{rest:List Oper}{o:Oper}{a:Act}{Q:Exit→Act→World→Prop}{w:World} (hgd:o.guard=none) (s x:Operand)
  (ho:o.op=Op.call { callee:=Callee.builtin Builtin.append,args := #[s,x],argTypes := #[25,25] }) (B:Nat) (w1 w2:World) (v u:Value) (xs:List (List Int)) (y:List Int) (hs:a.eval s=v) (hown:RowsO B w1 v xs)
  (hg:Ext w1 w2) (hu:OwnIn (From w1.heap.size) w2 u y) (hw:w=w2.alloc (.cells #[u] 24)) (hx:a.eval x=.slice (some ⟨w2.heap.size,0,none⟩) 1 1) (hlen:xs.length≤1000000) (hbase:B≤w1.heap.size)
  (h:∀v' w',RowsO B w' v' (xs++[y])→w1.grownBy w' v.ownBlock→w2.grownBy w' v.ownBlock→wpList Tryz.prog ops Q rest (a.put o.dst v') w') :
  wpList Tryz.prog ops Q (o :: rest) a w:=
 wp_app_one rdOwn 25 24 (.slice none 0 0) 24 und_rows Tryz.infoRow rfl (by decide) hgd s x ho B w1 w2 v u xs y hs hown hg hu hw hx hlen hbase h
theorem SlO.lt {α:Type} [Inhabited α] {El:(Nat→Prop)→World→Value→α→Prop}{E B:Nat}{w:World}{v:Value}{xs:List α} (h:SlO El E B w v xs) (k:Nat) (hk:v.ownBlock=some k):B≤k∧k<w.heap.size:=by
 obtain⟨vs,G,_,hO,_⟩:=h
 exact hO.lt k hk
theorem SlO.extw {α:Type} [Inhabited α] {El:(Nat→Prop)→World→Value→α→Prop}{E B:Nat}{w w1 w2:World}{v:Value}{xs:List α} (h:SlO El E B w1 v xs) (hg:Ext w w1) (hB:w.heap.size≤B) (k:w1.grownBy w2 v.ownBlock):Ext w w2:=
 grown_own hg k (fun j hj hlt=>by have:=(h.lt j hj).1;omega)
def allEl (P:Pr):List (List Int):=(List.range (ordP P).toNat).map (fun k:Nat=>elAt P (k:Int))
theorem range_map_succ {α:Type} (f:Nat→α) (k:Nat):(List.range (k+1)).map f=(List.range k).map f++[f k]:=by
 rw[List.range_succ,List.map_append];rfl
set_option maxHeartbeats 400000 in
theorem allElements_ok (P:Pr) (hP:Valid P) (w:World) (p:Value) (Sp:Nat→Prop) (hp:PresP Sp w p P) :
  Calls Tryz.prog 99 #[p] w (Ret w fun w' v=>RowsO w.heap.size w' v (allEl P)):=by
 have h729:ordP P≤729:=hP.le729
 have hpos:=hP.ordP_pos
 go_enter Tryz.func99,Tryz.ntmps99
 go_wp2_with (go_at_call 110;refine(orderOf_ok _ _ P Sp hP hp).mono ?_;rintro e1 w1 ⟨rfl,rfl⟩)
 go_loopw [3,7] (fun v i wr=>∃k:Nat,i=.int .i64 k∧k≤(ordP P).toNat∧Ext w wr∧RowsO w.heap.size wr v ((List.range k).map (fun k:Nat=>elAt P (k:Int)))) (fun _ i _=>(ordP P).toNat-(intOf i).toNat)
 case atStart=>exact⟨0,rfl,by omega,Ext.refl _,SlO.nil _ _ _ _⟩
 case round=>
  obtain⟨k,rfl,hk,hg,hO⟩:=hrel
  by_cases hlt:(k:Int)<ordP P
  ·go_wp2_with fail
   refine Calls.mono (elementAt_ok P hP wr p k Sp (hp.ext hg) (by omega) (by omega)) ?_
   rintro e2 w2 ⟨r,rfl,hg2,hR⟩
   have hv:=elAt_vec hP (k:Int) (by omega)
   have hRi:OwnIn (From wr.heap.size) w2 r (elAt P k):=OwnIn.of hR (by rw[hv.1];have:=hP.n6;omega) (fun j hj _=>hj)
   clear hv
   obtain⟨ar,capr,rfl,_,_⟩:=hRi.ints.shape
   go_wp2_with (at_builtin;go_must (refine wp_app_row rfl _ _ rfl w.heap.size wr w2 _ _ _ (elAt P k) rfl hO hg2 hRi rfl rfl (by simp;omega) hg.size ?_);intro v3 w3 hO3 hg3 hg4)
   have hgx:=hO.extw hg (Nat.le_refl _) hg3
   rw[←range_map_succ (fun k:Nat=>elAt P (k:Int))] at hO3
   go_roundw
   case rel=>exact⟨k+1,by go_num,by omega,hgx,hO3⟩
   case measure=>simp[intOf];omega
  ·have hke:k=(ordP P).toNat:=by omega
   subst hke
   go_wp2
   go_ret
   exact⟨_,rfl,hg,hO⟩
end Go.Proofs.YtdcobapnlpeaaaaGreat
namespace Go.Proofs.YtdcobapnlpeaaaaGreat
open Go.RowKit
theorem Tryz.infoRows:(Tryz.prog.info? 25).map (fun i=>(i.zero,i.size,i.bytes))=some (some (.slice none 0 0),1,24):=by kernel_rfl
theorem und_rows3:Tryz.prog.underlying 26=some (.slice 25):=by kernel_rfl
def Box3 (W:World) (b:Nat) (x0 x1 x2:Value):Prop:=
 b<W.heap.size∧W.cell? ⟨b,0,none⟩=some x0∧W.cell? ⟨b,1,none⟩=some x1∧W.cell? ⟨b,2,none⟩=some x2∧∀k,W.frozen? ⟨b,k,none⟩=false
theorem Box3.ext {W W':World}{b:Nat}{x0 x1 x2:Value} (h:Box3 W b x0 x1 x2) (hg:Ext W W'):Box3 W' b x0 x1 x2:=by
 obtain⟨h0,h1,h2,h3,h4⟩:=h
 exact⟨Nat.lt_of_lt_of_le h0 hg.size,hg.cell h1 (by simp),hg.cell h2 (by simp),hg.cell h3 (by simp),fun k=>(World.frozen?_of_block (w:=W) (hg.block b h0 (by simp))).trans (h4 k)⟩
theorem Box3.put {W:World}{b:Nat}{x0 x1 x2:Value} (h:Box3 W b x0 x1 x2) (v:Value) :
  Box3 (W.setCell ⟨b,0,none⟩ v) b v x1 x2∧Box3 (W.setCell ⟨b,1,none⟩ v) b x0 v x2∧Box3 (W.setCell ⟨b,2,none⟩ v) b x0 x1 v:=by
 obtain⟨h0,h1,h2,h3,h4⟩:=h
 have hs:∀k,b<(W.setCell ⟨b,k,none⟩ v).heap.size:=fun k=>by simpa [World.setCell] using h0
 refine⟨⟨hs 0,World.cell?_setCell_same _ _ _ h1,?_,?_,fun k=>by simp[h4]⟩,⟨hs 1,?_,World.cell?_setCell_same _ _ _ h2,?_,fun k=>by simp[h4]⟩,⟨hs 2,?_,?_,World.cell?_setCell_same _ _ _ h3,fun k=>by simp[h4]⟩⟩
 all_goals first
  | exact(World.cell?_setCell_other _ _ _ _ (by simp)).trans h1
  | exact(World.cell?_setCell_other _ _ _ _ (by simp)).trans h2
  | exact(World.cell?_setCell_other _ _ _ _ (by simp)).trans h3
theorem Box3.made (w:World) (T:Nat) (x0 x1 x2:Value):Box3 (w.alloc (.cells #[x0,x1,x2] T)) w.heap.size x0 x1 x2:=by
 refine⟨by simp,?_,?_,?_,fun k=>World.frozen?_alloc_at _ _ _ _ rfl⟩<;>(rw[World.cell?_alloc_at _ _ _ _ rfl];rfl)
structure Touch (F:Nat→Prop) (w w':World):Prop where
 os:w'.os=w.os
 tape:w'.tape=w.tape
 output:w'.output=w.output
 size:w.heap.size≤w'.heap.size
 block:∀k,k<w.heap.size→¬F k→w'.heap[k]? = w.heap[k]?
theorem Touch.of {F:Nat→Prop}{w w':World}{r:Option Nat} (h:w.grownBy w' r) (hr:∀k,r=some k→F k):Touch F w w':=
 ⟨h.os,h.tape,h.output,h.size,fun k hk hF=>h.block k hk (fun e=>hF (hr k e.symm))⟩
theorem Box3.keep {W W':World}{b:Nat}{x0 x1 x2:Value} (h:Box3 W b x0 x1 x2) (hs:W.heap.size≤W'.heap.size) (e:W'.heap[b]? = W.heap[b]?):Box3 W' b x0 x1 x2:=by
 obtain⟨c0,c1,c2,c3,c4⟩:=h
 exact⟨Nat.lt_of_lt_of_le c0 hs,(World.cell?_of_block (w:=W) e).trans c1,(World.cell?_of_block (w:=W) e).trans c2,(World.cell?_of_block (w:=W) e).trans c3,fun k=>(World.frozen?_of_block (w:=W) e).trans (c4 k)⟩
end Go.Proofs.YtdcobapnlpeaaaaGreat
namespace Go.Proofs.YtdcobapnlpeaaaaGreat
open Go.RowKit
def ByteEl (_:World) (u:Value) (x:Int):Prop:=u=.int .u8 x∧0≤x∧x≤255
abbrev Bytes (S:Nat→Prop) (w:World) (v:Value) (l:List Int):Prop:=Sl ByteEl S w v l
theorem Bytes.at {S:Nat→Prop}{w:World}{a:Option Addr}{n cap:Nat}{xs:List Int} (h:Sl ByteEl S w (.slice a n cap) xs) (i:Nat) (hi:i<xs.length) :
  ∃b off,a=some ⟨b,off,none⟩∧S b∧b<w.heap.size∧w.cell? ⟨b,off+i,none⟩=some (.int .u8 (gt xs i))∧0≤gt xs i∧gt xs i≤255:=by
 obtain⟨b,off,u,h1,h2,h3,h4,h5⟩:=h.at i hi
 obtain⟨h5,h6⟩:u=.int .u8 (gt xs i)∧0≤gt xs i∧gt xs i≤255:=h5
 exact⟨b,off,h1,h2,h3,by rw[h4,h5],h6⟩
theorem Bytes.mono {S S':Nat→Prop}{w w':World}{v:Value}{xs:List Int} (h:Bytes S w v xs) (hb:∀k,S k→k<w.heap.size→S' k∧k<w'.heap.size∧w'.heap[k]? = w.heap[k]?):Bytes S' w' v xs:=Sl.mono h hb (fun _ _ h=>h)
theorem Bytes.ext {S:Nat→Prop}{w w':World}{v:Value}{xs:List Int} (h:Bytes S w v xs) (hg:Ext w w'):Bytes S w' v xs:=h.mono (frame_ext hg)
theorem grown_set (w:World) (b j:Nat) (v:Value):w.grownBy (w.setCell ⟨b,j,none⟩ v) (some b):=⟨rfl,rfl,rfl,by simp[World.setCell],fun k _ hk=>Below.heap_setCell _ _ _ _ (by intro e;exact hk (by rw[e]))⟩
def Src (B0:Nat) (w:World) (sb:Nat):Prop:=∃(cv:Value) (pos seed:Nat) (bs:List Int),Box3 w sb cv (.int .i64 pos) (.int .i64 seed)∧Bytes (fun k=>k≠sb∧k<B0) w cv bs∧pos≤bs.length∧seed<2147483647∧sb<B0
theorem Src.keep {B0:Nat}{w w':World}{sb:Nat} (h:Src B0 w sb) (hs:w.heap.size≤w'.heap.size) (hb:∀k,k<B0→k<w.heap.size→w'.heap[k]? = w.heap[k]?):Src B0 w' sb:=by
 obtain⟨cv,pos,seed,bs,h1,h2,h3,h4,h5⟩:=h
 exact⟨cv,pos,seed,bs,h1.keep hs (hb sb h5 h1.1),Sl.mono h2 (fun k hk hlt=>⟨hk,Nat.lt_of_lt_of_le hlt hs,hb k hk.2 hlt⟩) (fun _ _ h=>h),h3,h4,h5⟩
theorem Src.ext {B0:Nat}{w w':World}{sb:Nat} (h:Src B0 w sb) (hg:Ext w w'):Src B0 w' sb:=h.keep hg.size (fun k _ hlt=>hg.block k hlt (by simp))
theorem Src.own {B0:Nat}{w w':World}{sb:Nat}{r:Option Nat} (h:Src B0 w sb) (hg:w.grownBy w' r) (hr:∀k,r=some k→B0≤k):Src B0 w' sb:=
 h.keep hg.size (fun k hk hlt=>hg.block k hlt (fun e=>by have:=hr k e.symm;omega))
theorem Src.lt {B0:Nat}{w:World}{sb:Nat} (h:Src B0 w sb):sb<B0∧sb<w.heap.size:=by
 obtain⟨cv,pos,seed,bs,h1,h2,h3,h4,h5⟩:=h;exact⟨h5,h1.1⟩
def NextR (B0 sb:Nat) (n:Int) (w':World) (v:Value):Prop:=∃x:Int,v=.int .i64 x∧(n≤1→x=0)∧(1<n→0≤x∧x<n)∧Src B0 w' sb
set_option maxRecDepth 100000 in
set_option maxHeartbeats 2000000 in
theorem l01Next_ok (B0:Nat) (w:World) (sb:Nat) (n:Int) (h:Src B0 w sb) :
  Calls Tryz.prog 135 #[.pointer (some ⟨sb,0,none⟩),.int .i64 n] w (Mut w (some sb) (NextR B0 sb n)):=by
 have hS:=h
 obtain⟨cv,pos,seed,bs,hB,hby,hpos,hseed,hlt⟩:=h
 by_cases hn:n≤1
 ·go_enter Tryz.func135,Tryz.ntmps135
  go_wp2
  go_ret
  exact⟨_,rfl,grown_refl _ _,0,rfl,fun _=>rfl,fun h=>by omega,hS⟩
 ·have hn':1<n:=by omega
  obtain⟨a,cap,rfl,_,hlen⟩:=hby.shape
  obtain⟨s2,hs2⟩:∃s2:Nat,s2=(seed*48271+71)%2147483647:=⟨_,rfl⟩
  have hs2b:s2<2147483647:=by omega
  have hs2i:((seed:Int)*48271+71)%2147483647=(s2:Int):=by omega
  have hB1:=(hB.put (.int .i64 (s2:Nat))).2.2
  obtain⟨h0,h1,h2,h3,h4⟩:=id hB
  go_enter Tryz.func135,Tryz.ntmps135
  have hg1:w.grownBy (w.setCell ⟨sb,2,none⟩ (.int .i64 (s2:Nat))) (some sb):=grown_set _ _ _ _
  have hby1:Bytes (fun k=>k≠sb∧k<B0) (w.setCell ⟨sb,2,none⟩ (.int .i64 (s2:Nat))) (.slice a bs.length cap) bs:=Bytes.mono hby (frame_of hg1 (fun k hk _=>⟨hk,fun e=>hk.1 (by cases e;rfl)⟩))
  have HB1:=Lib.hid (And.intro hB1 (And.intro hg1 hby1));clear hB1 hB hs2 hby hS hg1 hby1
  go_wp2
  clear h0 h1 h2 h3 h4 hs2i
  obtain⟨hB1,hg1,hby1⟩:=HB1.out
  clear HB1
  generalize w.setCell ⟨sb,2,none⟩ (.int .i64 (s2:Nat))=w1 at *
  obtain⟨h0,h1,h2,h3,h4⟩:=id hB1
  have HG:=Lib.hid (And.intro hB1 (And.intro hg1 hby1));clear hB1 hg1 hby1
  by_cases hp:pos<bs.length
  ·obtain ⟨b,off,rfl,⟨hbs,hbB⟩,hbl,hcb,hx0,hx1⟩:=Bytes.at HG.out.2.2 pos hp
   obtain⟨x,hx⟩:∃x,x=gt bs pos:=⟨_,rfl⟩
   rw[←hx] at hcb hx0 hx1
   have HX:=Lib.hid hx;clear hx
   have hpi:(pos:Int)<bs.length:=by omega
   have hp0:(0:Int)≤pos:=by omega
   have hq0:0≤(s2:Int)/47∧(s2:Int)/47≤45691142:=by omega
   have hqw:IntKind.i64.wrap ((s2:Int)/47+x)=(s2:Int)/47+x:=IntWalk.i64_in _ (by omega)
   go_quiet (fail)
   go_wp2
   have hq:Ext w1 (w1.drewN nq):=grown_drewN _ _ _
   have hcb':=hq.cell hcb (by simp)
   have h0':sb<(w1.drewN nq).heap.size:=Nat.lt_of_lt_of_le h0 hq.size
   have hG2:=And.intro (HG.out.1.ext hq) (And.intro (grown_trans HG.out.2.1 (grown_of_ext (some sb) hq)) (Bytes.ext HG.out.2.2 hq))
   have HG:=Lib.hid hG2;clear hG2 hq hcb h0 h1 h2 h3 h4
   obtain⟨h1,h2,h3,h4⟩:=HG.out.1.2
   generalize w1.drewN nq=w2 at *
   go_quiet (fail)
   have hq:Ext w2 (w2.drewN nq):=grown_drewN _ _ _
   have hcb:=hq.cell hcb' (by simp)
   have h0:sb<(w2.drewN nq).heap.size:=Nat.lt_of_lt_of_le h0' hq.size
   have hG2:=And.intro (HG.out.1.ext hq) (And.intro (grown_trans HG.out.2.1 (grown_of_ext (some sb) hq)) (Bytes.ext HG.out.2.2 hq))
   have HG:=Lib.hid hG2;clear hG2 hq hcb' h0' h1 h2 h3 h4
   obtain⟨h1,h2,h3,h4⟩:=HG.out.1.2
   generalize w2.drewN nq=w3 at *
   have hB4:=(HG.out.1.put (.int .i64 ((pos:Int)+1))).2.1
   have hg4:w3.grownBy (w3.setCell ⟨sb,1,none⟩ (.int .i64 ((pos:Int)+1))) (some sb):=grown_set _ _ _ _
   have hby4:Bytes (fun k=>k≠sb∧k<B0) (w3.setCell ⟨sb,1,none⟩ (.int .i64 ((pos:Int)+1))) (.slice (some ⟨b,off,none⟩) bs.length cap) bs:=Bytes.mono HG.out.2.2 (frame_of hg4 (fun k hk _=>⟨hk,fun e=>hk.1 (by cases e;rfl)⟩))
   have hcb4:(w3.setCell ⟨sb,1,none⟩ (.int .i64 ((pos:Int)+1))).cell? ⟨b,off+pos,none⟩=some (.int .u8 x):=(World.cell?_setCell_other _ _ _ _ (by first|exact fun e=>hbs (congrArg Addr.block e)|exact fun e=>hbs (congrArg Addr.block e).symm)).trans hcb
   have HB4:=Lib.hid (And.intro hB4 (And.intro (grown_trans HG.out.2.1 hg4) (And.intro hby4 hcb4)));clear hB4 hg4 hby4 hcb4 HG hqw
   have hpw:IntKind.i64.wrap ((pos:Int)+1)=(pos:Int)+1:=IntWalk.i64_in _ (by omega)
   by_cases hc:n≤256∧((pos:Int)+1)%2=0
   ·obtain ⟨hn6,hpar⟩:=hc
    go_wp2
    clear h0 h1 h2 h3 h4 hpw hcb
    obtain⟨hB4,hg4,hby4,hcb4⟩:=HB4.out
    have hpw2:IntKind.i64.wrap ((pos:Int)+1-1)=(pos:Int):=by rw[show(pos:Int)+1-1=(pos:Int) by omega];exact IntWalk.i64_in _ (by omega)
    clear HB4
    generalize w3.setCell ⟨sb,1,none⟩ (.int .i64 ((pos:Int)+1))=w4 at *
    obtain⟨h0,h1,h2,h3,h4⟩:=id hB4
    have HG:=Lib.hid (And.intro hB4 (And.intro hg4 hby4));clear hB4 hg4 hby4
    go_quiet (fail)
    have hq:Ext w4 (w4.drewN nq):=grown_drewN _ _ _
    have hm:0≤x%n∧x%n<n:=⟨Int.emod_nonneg _ (by omega),Int.emod_lt_of_pos _ (by omega)⟩
    go_wp2
    go_ret
    exact⟨_,rfl,grown_trans HG.out.2.1 (grown_of_ext _ hq),_,rfl,fun h=>by omega,fun _=>hm,_,pos+1,s2,bs,HG.out.1.ext hq,HG.out.2.2.ext hq,by omega,hs2b,hlt⟩
   ·have hm:0≤((s2:Int)/47+x)%n∧((s2:Int)/47+x)%n<n:=⟨Int.emod_nonneg _ (by omega),Int.emod_lt_of_pos _ (by omega)⟩
    by_cases hn6:n≤256
    ·have hpar:(((pos:Int)+1)%2 == 0)=false:=by simp;exact fun h=>hc ⟨hn6,h⟩
     clear hc
     go_wp2
     go_ret
     exact⟨_,rfl,HB4.out.2.1,_,rfl,fun h=>by omega,fun _=>hm,_,pos+1,s2,bs,HB4.out.1,HB4.out.2.2.1,by omega,hs2b,hlt⟩
    ·clear hc
     go_wp2
     go_ret
     exact⟨_,rfl,HB4.out.2.1,_,rfl,fun h=>by omega,fun _=>hm,_,pos+1,s2,bs,HB4.out.1,HB4.out.2.2.1,by omega,hs2b,hlt⟩
  ·go_quiet (fail)
   go_wp2
   have hq:Ext w1 (w1.drewN nq):=grown_drewN _ _ _
   have hm:0≤(s2:Int)/47%n∧(s2:Int)/47%n<n:=⟨Int.emod_nonneg _ (by omega),Int.emod_lt_of_pos _ (by omega)⟩
   go_ret
   exact⟨_,rfl,grown_trans HG.out.2.1 (grown_of_ext _ hq),_,rfl,fun h=>by omega,fun _=>hm,_,pos,s2,bs,HG.out.1.ext hq,HG.out.2.2.ext hq,hpos,hs2b,hlt⟩
end Go.Proofs.YtdcobapnlpeaaaaGreat
