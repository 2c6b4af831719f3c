/-
  DoubleCosetSize on both sides.
  spec.l14Double: the row of marks of a double coset.
  DoubleCosets: the reference's side.
  The map of numbers seen, of impl.classOf: a set of integers.
  DoubleCosets: the program's side.
  impl.areElements.
  GeneratedSubgroup on both sides.
  Plain: what the law FnDoubleCosets needs: the sizes of the double cosets add up, and so do the cosets that the members fix.
  The laws' comparisons: laws.eqInt64SS, eqInt64SSS, eqPresentation.
  laws.likeInts, like29, like39: whether two lists are alike (printed by gen_like.py).
  laws.size9, impl.ElementAt on a group.
  slices.Grow at rows, laid from the shelf.
  impl.indexCode, where the group is small enough.
  slices.Index and Contains at []int; impl.otherIndices (printed by gen_fixw2.py).
  impl.transversal.
  impl.FixedCosets: the test of one member.
  impl.FixedCosets: the test of all members.
  impl.FixedCosets, where all goes well.
  laws.FnDoubleCosets answers true (printed by gen_ldb.py).
  The rows' arguments: how a presentation that came in, or a list, reads in this claim's words.
  Opening the argument of a row over bytes.
  laws.FnDoubleCosets holds: whatever the bytes, the law answers true and the bytes read as they did. No condition. (Printed by gen_rowb.py.)
-/
import Derived.Test.YtdcobapnlpeaaaaGreatD1
import Derived.Test.YtdcobapnlpeaaaaGreatD10
import Derived.Test.YtdcobapnlpeaaaaGreatD14
import Derived.Test.YtdcobapnlpeaaaaGreatD15
import Derived.Test.YtdcobapnlpeaaaaGreatD16
import Derived.Test.YtdcobapnlpeaaaaGreatD2
import Derived.Test.YtdcobapnlpeaaaaGreatD4
import Derived.Test.YtdcobapnlpeaaaaGreatD7
import Derived.Test.YtdcobapnlpeaaaaGreatD8
import Derived.Test.YtdcobapnlpeaaaaGreatD9
import Derived.Maps.OwnSet
import Derived.Deep.RegionHeld3
import Derived.Shelf.Spec.SlicesGrow
import Derived.Carry
import Derived.Deep.Slices
import Derived.ChangeSame
import Derived.ChangeSlices
import Derived.JoinedOf
import Derived.JoinedAt
import Derived.JoinedCond
import Derived.ReadAgain
namespace Go.Proofs.YtdcobapnlpeaaaaGreat
open Go.RowKit
open Classical in
noncomputable def dcC (P:Pr) (U V:List (List Int)) (X:List Int):Int:=if twoOk P U V∧Vec P.orders X then 0 else 1
open Classical in
noncomputable def dcV (P:Pr) (U V:List (List Int)) (X:List Int):Int:=if twoOk P U V∧Vec P.orders X then prodSz P (genP P (fun z=>z∈conjL P U X)) (gU P V) else 0
theorem dc_bad {P:Pr}{U V:List (List Int)}{X:List Int} (h:¬(twoOk P U V∧Vec P.orders X)):dcC P U V X=1∧dcV P U V X=0:=by
 unfold dcC dcV;rw[if_neg h,if_neg h];exact⟨rfl,rfl⟩
theorem dc_ok {P:Pr}{U V:List (List Int)}{X:List Int} (h:twoOk P U V∧Vec P.orders X):dcC P U V X=0∧dcV P U V X=prodSz P (genP P (fun z=>z∈conjL P U X)) (gU P V):=by
 unfold dcC dcV;rw[if_pos h,if_pos h];exact⟨rfl,rfl⟩
theorem Grp.conjL_vec {P:Pr} (G:Grp P) {U:List (List Int)}{X:List Int} (hU:∀x∈U,Vec P.orders x) (hX:Vec P.orders X):∀z∈conjL P U X,Vec P.orders z:=fun z hz=>by
 unfold conjL at hz
 obtain⟨y,hy,rfl⟩:=List.mem_map.1 hz
 exact G.conjV (hU y hy) hX
set_option maxRecDepth 100000 in
set_option maxHeartbeats 4000000 in
theorem iDc_ok (P:Pr) (w:World) (pv uv vv xv:Value) (U V:List (List Int)) (X:List Int) (Sp Su Sv Sx:Nat→Prop) (hpv:PresV Sp w pv P) (hu:Rows2 Su w uv U) (hv:Rows2 Sv w vv V) (hx:Ints Sx w xv X) :
  Calls Tryz.prog 83 #[pv,uv,vv,xv] w (Ret w fun _ v=>v=.tuple #[.int .i64 (dcV P U V X),.int .i64 (dcC P U V X)]):=by
 obtain⟨vo,vp,vc,rfl,h3⟩:=hpv
 have hp0:=PresP.box h3 28
 have hg0:Ext w (w.alloc (.cells #[vo,vp,vc] 28)):=World.grownBy_alloc _ _ _
 have hs0:(w.alloc (.cells #[vo,vp,vc] 28)).heap.size=w.heap.size+1:=by simp
 have hu0:=Rows2.ext hu hg0
 have hv0:=Rows2.ext hv hg0
 have hx0:=hx.ext hg0
 obtain⟨au,capu,rfl,_,_⟩:=Sl.shape hu
 obtain⟨av,capv,rfl,_,_⟩:=Sl.shape hv
 obtain⟨ax,capx,rfl,_,_⟩:=hx.shape
 have hg1:Ext (w.alloc (.cells #[vo,vp,vc] 28)) ((w.alloc (.cells #[vo,vp,vc] 28)).alloc (.cells #[.slice au U.length capu,.slice av V.length capv] 25)):=World.grownBy_alloc _ _ _
 have hl:=rows3Two hu0 hv0
 have hcon:=areSubgroups_ok P _ _ _ [U,V] Any Any (hp0.ext hg1) hl
 rw[hs0] at hcon
 clear hl hu hv hx
 go_enter Tryz.func83,Tryz.ntmps83
 go_wp2_with fail
 refine Calls.mono hcon ?_
 rintro e1 w1 ⟨v1,rfl,hgA,r1,rfl,hr1⟩
 clear hcon
 have hr1:r1=true↔twoOk P U V:=by rw[hr1];unfold twoOk;simp
 have hg01:=grown_trans hg1 hgA
 have HS:=Lib.hid hs0;clear hs0
 generalize hw0:w.alloc (.cells #[vo,vp,vc] 28)=w0 at *
 clear hw0 hg1 hgA
 cases r1 with
 | false=>
  obtain⟨hc,hL⟩:=dc_bad (P:=P) (U:=U) (V:=V) (X:=X) (fun h=>by have:=hr1.2 h.1;cases this)
  have HC:=Lib.hid (And.intro hc hL);clear hc hL hr1
  go_wp2
  go_ret2
  exact⟨_,rfl,grown_trans hg0 hg01,by rw[HC.out.1,HC.out.2];rfl⟩
 | true=>
  have hok:=hr1.1 rfl
  have G:=grp_of_r hok.1
  have hn6:=G.v.n6
  have hul:U.length≤P.orders.length:=G.sub_len hok.2.1
  have hex:=isExponents_ok w1 _ _ P X Any Sx (hp0.ext hg01) (hx0.ext hg01) (fun i hi=>by have:=G.v.ord7 i hi;omega)
  cases hb:expB P.orders X with
  | false=>
   rw[hb] at hex
   obtain⟨hc,hL⟩:=dc_bad (P:=P) (U:=U) (V:=V) (X:=X) (fun h=>by have:=expB_vec.2 h.2;rw[hb] at this;cases this)
   have HC:=Lib.hid (And.intro hc hL);clear hc hL hr1 hok hb
   go_wp2_with fail
   refine Calls.mono hex ?_
   rintro e2 w2 ⟨rfl,rfl⟩
   clear hex
   go_wp2
   go_ret2
   exact⟨_,rfl,grown_trans hg0 hg01,by rw[HC.out.1,HC.out.2];rfl⟩
  | true=>
   rw[hb] at hex
   have hXV:=expB_vec.1 hb
   obtain⟨hc,hL⟩:=dc_ok ⟨hok,hXV⟩
   have hV:=hok.2.2.2
   have hCV:=G.conjL_vec hok.2.1.1 hXV
   have HC:=Lib.hid (And.intro hc (And.intro hL (And.intro hok (And.intro hXV hCV))));clear hc hL hr1 hok hb hXV hCV
   have hv1:Rows2 Sv w1 (.slice av V.length capv) (cseq P (gU P V)):=by rw[←hV];exact Rows2.ext hv0 hg01
   have HUV:=Lib.hid hV;clear hV
   go_wp2_with fail
   refine Calls.mono hex ?_
   rintro e2 w2 ⟨rfl,rfl⟩
   clear hex
   go_wp2_with fail
   refine Calls.mono (conjugateSubgroup_ok P G w1 _ _ _ U X Any Su Sx (hp0.ext hg01) (Rows2.ext hu0 hg01) HC.out.2.2.1.2.1.1 (by omega) (hx0.ext hg01) HC.out.2.2.2.1) ?_
   rintro e3 w3 ⟨v3,rfl,hg3,hO3⟩
   have hcl:(cseq P (genP P (fun z=>z∈conjL P U X))).length≤P.orders.length:=G.cseq_len (G.genP_sub HC.out.2.2.2.2)
   have hR3:=RowsD.rows (SlO.toD hO3 (by omega))
   obtain⟨aw,capw,hvw,_,_⟩:=Sl.shape hR3
   subst hvw
   have hg03:=grown_trans hg01 hg3
   go_wp2_with fail
   refine Calls.mono (productSize_ok P G w3 _ _ _ (genP P (fun z=>z∈conjL P U X)) (gU P V) Any _ Sv (G.genP_sub HC.out.2.2.2.2) (G.subB HC.out.2.2.1.2.2) (hp0.ext hg03) hR3 (Rows2.ext hv1 hg3)) ?_
   rintro e4 w4 ⟨v4,rfl,hg4,rfl⟩
   go_wp2
   go_ret2
   exact⟨_,rfl,grown_trans hg0 (grown_trans hg03 hg4),by rw[HC.out.1,HC.out.2.1];rfl⟩
end Go.Proofs.YtdcobapnlpeaaaaGreat
namespace Go.Proofs.YtdcobapnlpeaaaaGreat
open Go.RowKit
def markL (N:Nat) (ns:List Int):List Bool:=(List.range N).map (fun i:Nat=>decide ((i:Int)∈ns))
theorem markL_len (N:Nat) (ns:List Int):(markL N ns).length=N:=by unfold markL;simp
theorem markL_set {N:Nat}{a:Int}{ns:List Int} (h0:0≤a):(markL N ns).set a.toNat true=markL N (a :: ns):=by
 refine List.ext_getElem (by simp[markL]) (fun i h1 h2 => ?_)
 have hi:i<N:=by rw[markL_len] at h2;exact h2
 rw[List.getElem_set]
 unfold markL
 simp only[List.getElem_map,List.getElem_range,List.mem_cons]
 by_cases he:a.toNat=i
 ·have:(i:Int)=a:=by omega
  simp[he,this]
 ·have:¬(i:Int)=a:=by omega
  simp[he,this]
theorem markL_nil (N:Nat):markL N []=List.replicate N false:=by
 refine List.ext_getElem (by simp[markL]) (fun i h1 h2 => ?_)
 simp[markL]
set_option maxRecDepth 100000 in
set_option maxHeartbeats 8000000 in
theorem l14Double_ok (P:Pr) (G:Grp P) (w:World) (pv uv vv xv:Value) (H K:List Int→Prop) (X:List Int) (Sp Su Sv Sx:Nat→Prop) (S:Sub P H) (R:Sub P K) (hpv:PresV Sp w pv P) (hu:Rows2 Su w uv (cseq P H)) (hv:Rows2 Sv w vv (cseq P K)) (hx:Ints Sx w xv X) (hX:Vec P.orders X) :
  Calls Tryz.prog 178 #[pv,uv,vv,xv] w (Ret w fun w' v=>BOwn w.heap.size w' v (markL (ordP P).toNat (rowM P (elemsIn P H) (elemsIn P K) X (elemsIn P H).length))):=by
 have hP:=G.v
 have hn6:=hP.n6
 have h729:ordP P≤729:=hP.le729
 have hpos:=hP.ordP_pos
 obtain⟨vo,vp,vc,rfl,h3⟩:=hpv
 have hp0:=PresP.box h3 28
 have hg0:Ext w (w.alloc (.cells #[vo,vp,vc] 28)):=World.grownBy_alloc _ _ _
 have hu0:=Rows2.ext hu hg0
 have hv0:=Rows2.ext hv hg0
 have hx0:=hx.ext hg0
 have hs0:(w.alloc (.cells #[vo,vp,vc] 28)).heap.size=w.heap.size+1:=by simp
 obtain⟨au,capu,rfl,_,_⟩:=Sl.shape hu
 obtain⟨av,capv,rfl,_,_⟩:=Sl.shape hv
 obtain⟨ax,capx,rfl,_,_⟩:=hx.shape
 obtain⟨vo6,vp6,vc6,_,_,hc0,hc1,hc2,h36⟩:=hp0.at
 simp only[Nat.zero_add] at hc1 hc2
 have hbx:∀w',Ext (w.alloc (.cells #[vo,vp,vc] 28)) w'→w'.cell? ⟨w.heap.size,0,none⟩=some vo6∧w'.cell? ⟨w.heap.size,1,none⟩=some vp6∧w'.cell? ⟨w.heap.size,2,none⟩=some vc6:=fun w' h=>⟨h.cell hc0 (by simp),h.cell hc1 (by simp),h.cell hc2 (by simp)⟩
 have HB:=Lib.hid hbx;clear hbx
 have hE:=l10Order_ok (w.alloc (.cells #[vo,vp,vc] 28)) _ P Any hP ⟨_,_,_,rfl,h36⟩
 have HX:=Lib.hid hX;clear hX hp0 hu hv hx
 go_enter Tryz.func178,Tryz.ntmps178
 go_wp2_with fail
 have HS:=Lib.hid hs0;clear hs0 hc0 hc1 hc2
 generalize hw0:w.alloc (.cells #[vo,vp,vc] 28)=w0 at *
 clear hw0
 refine Calls.mono hE ?_
 rintro e2 w2 ⟨v2,rfl,hg2,rfl⟩
 clear hE
 have hle2:=hg2.size
 obtain⟨N,hN⟩:∃N,N=(ordP P).toNat:=⟨_,rfl⟩
 have hNo:(N:Int)=ordP P:=by omega
 rw[←hNo]
 have HNo:=Lib.hid (And.intro hN hNo)
 have hN729:N≤729:=by omega
 clear hN hNo
 go_wp2_with (first|(at_make;refine wp_make_bools rfl _ _ rfl w2.heap.size N w2.heap.size rfl (N:Int) rfl rfl rfl (by omega) (Nat.le_refl _) ?_;intro w3 hM3 hg3 hlt3)|fail)
 have hg03:=grown_trans hg2 hg3
 obtain⟨hc0,hc1,hc2⟩:=HB.out w3 hg03
 have hs2:w.heap.size<w2.heap.size:=by have:=HS.out;omega
 have f1:∀w',Ext w3 w'→w'.cell? ⟨w.heap.size,0,none⟩=some vo6:=fun w' h=>h.cell hc0 (by simp)
 have f2:∀w',Ext w3 w'→w'.cell? ⟨w.heap.size,1,none⟩=some vp6:=fun w' h=>h.cell hc1 (by simp)
 have f3:∀w',Ext w3 w'→w'.cell? ⟨w.heap.size,2,none⟩=some vc6:=fun w' h=>h.cell hc2 (by simp)
 clear hc0 hc1 hc2
 have hla:=elemsIn_len hP H
 have hlb:=elemsIn_len hP K
 go_wp2
 go_region_held3 (fun w'=>Ext w3 w') (first|exact grown_drew _ _|assumption)
  (first
   | (revert hgA;intro hgA;go_at_call 254;refine Calls.mono (Calls.rel2 (w0:=w3) (by assumption) (l12Elements_ok P G _ _ _ K Any Any R ⟨_,_,_,rfl,Pres3.ext h36 (grown_trans hg03 (by assumption))⟩ (Rows2.sub (Rows2.ext hv0 (grown_trans hg03 (by assumption))) (fun _ _ _=>trivial)))) ?_;rintro eB wB ⟨vB,rfl,hgB,hgB2,hsB,hOB⟩;obtain⟨aB,capB,hvB,_,_⟩:=SlD.shape (hOB.toD (by omega));subst hvB)
   | (go_at_call 254;refine Calls.mono (Calls.rel (w0:=w3) (by assumption) (l12Elements_ok P G _ _ _ H Any Any S ⟨_,_,_,rfl,Pres3.ext h36 (grown_trans hg03 (by assumption))⟩ (Rows2.sub (Rows2.ext hu0 (grown_trans hg03 (by assumption))) (fun _ _ _=>trivial)))) ?_;rintro eA wA ⟨vA,rfl,hgA,hsA,hOA⟩;obtain⟨aA,capA,hvA,_,_⟩:=SlD.shape (hOA.toD (by omega));subst hvA))
 clear f1 f2 f3
 have hge:w2.heap.size<w3.heap.size:=hlt3
 have hsA3:w3.heap.size≤w3.drew.heap.size:=(grown_drew w3 none).size
 have hA5:Rows2 (fun k=>w2.heap.size<k) wB (.slice aA (elemsIn P H).length capA) (elemsIn P H):=Rows2.sub (Rows2.ext (RowsD.rows (hOA.toD (by omega))) hgB2) (fun k hk _=>by have:_≤k:=hk;omega)
 have hB5:Rows2 (fun k=>w2.heap.size<k) wB (.slice aB (elemsIn P K).length capB) (elemsIn P K):=Rows2.sub (RowsD.rows (hOB.toD (by omega))) (fun k hk _=>by have h1:_≤k:=hk;have:=hgA.size;omega)
 have hVA:∀z∈elemsIn P H,Vec P.orders z:=fun z hz=>S.vec z ((elemsIn_mem hP S.vec z).1 hz)
 have hVB:∀z∈elemsIn P K,Vec P.orders z:=fun z hz=>R.vec z ((elemsIn_mem hP R.vec z).1 hz)
 obtain⟨A,hA⟩:∃A,A=elemsIn P H:=⟨_,rfl⟩
 obtain⟨B,hB⟩:∃B,B=elemsIn P K:=⟨_,rfl⟩
 rw[←hA] at hla hA5 hVA ⊢
 rw[←hB] at hlb hB5 hVB ⊢
 have HAB:=Lib.hid (And.intro hA (And.intro hB (And.intro hVA hVB)));clear hA hB hVA hVB hOA hOB
 have hM5:BOwn w2.heap.size wB (.slice (some ⟨w2.heap.size,0,none⟩) N N) (markL N (rowM P A B X 0)):=by
  have:=hM3.ext0 hgB
  rw[←markL_nil] at this;exact this
 have hE25:=grown_trans hg3 hgB
 have hsz5:w3.heap.size≤wB.heap.size:=hgB.size
 clear hM3 hgA hgB hgB2 hsA hsB hsA3
 go_wp2
 go_loopw [12] (fun iv wr=>∃i:Nat,iv=.int .i64 i∧i≤A.length∧wB.grownBy wr (some w2.heap.size)∧BOwn w2.heap.size wr (.slice (some ⟨w2.heap.size,0,none⟩) N N) (markL N (rowM P A B X i))) (fun iv _=>A.length-(intOf iv).toNat)
 case atStart=>exact⟨0,rfl,by omega,grown_refl _ _,hM5⟩
 case round=>
  clear hM5
  obtain⟨i,rfl,hi,hgi,hM⟩:=hrel
  have hE2r:Ext w2 wr:=grown_own hE25 hgi (fun j hj hlt=>by cases hj;omega)
  have hE0r:=grown_trans hg2 hE2r
  by_cases hlt:i<A.length
  ·have hlt':(i:Int)<A.length:=by omega
   have hAr:Rows2 Any wr (.slice aA A.length capA) A:=Rows2.mono hA5 (frame_of hgi (fun j hj _=>⟨trivial,fun e=>by cases e;omega⟩))
   have hyV:=HAB.out.2.2.1 _ (gtMem hlt)
   have hmV:=G.mulV hyV HX.out
   obtain⟨y,hy⟩:∃y,y=rMul P (gt A i) X:=⟨_,rfl⟩
   rw[←hy] at hmV
   have hml:y.length≤6:=by rw[hmV.1];exact hn6
   have hrow:rowM P A B X (i+1)=innM P y B B.length++rowM P A B X i:=by rw[hy];rfl
   have HY:=Lib.hid (And.intro hy (And.intro hyV (And.intro hmV (And.intro hml hrow))));clear hy hyV hmV hml hrow
   obtain⟨b1,o1,a1,c1,rfl,_,_,hca,hra⟩:=Rows2.at hAr i hlt
   obtain⟨hc0,hc1,hc2⟩:=HB.out wr hE0r
   have f1:∀w',Ext wr w'→w'.cell? ⟨w.heap.size,0,none⟩=some vo6:=fun w' h=>h.cell hc0 (by simp)
   have f2:∀w',Ext wr w'→w'.cell? ⟨w.heap.size,1,none⟩=some vp6:=fun w' h=>h.cell hc1 (by simp)
   have f3:∀w',Ext wr w'→w'.cell? ⟨w.heap.size,2,none⟩=some vc6:=fun w' h=>h.cell hc2 (by simp)
   have f4:∀w',Ext wr w'→w'.cell? ⟨b1,o1+i,none⟩=some (.slice a1 (gt A i).length c1):=fun w' h=>h.cell hca (by simp)
   clear hc0 hc1 hc2 hca
   go_wp2
   go_region_held3 (fun w'=>Ext wr w') (first|exact grown_drew _ _|assumption)
    (first
     | (go_at_call 240;refine Calls.mono (Calls.rel (w0:=wr) (by assumption) (l08Mul_ok P hP _ _ _ _ (gt A i) X Any Any Any ⟨_,_,_,rfl,Pres3.ext h36 (grown_trans hE0r (by assumption))⟩ (Ints.sub (Ints.ext hra (by assumption)) (fun _ _ _=>trivial)) (Ints.sub (Ints.ext hx0 (grown_trans hE0r (by assumption))) (fun _ _ _=>trivial)) HY.out.2.1 HX.out)) ?_;rintro eC wC ⟨vC,rfl,hgC,hsC,hOC⟩;rw[←HY.out.1] at hOC;have hCi:Ints (fun k=>w2.heap.size<k) wC vC y:=ints_of_own hOC (by have:=HY.out.2.2.2.1;omega) (fun k hk=>by have h1:=(hOC.lt k hk).1;have h2:=hgi.size;have h3:wr.heap.size≤wr.drew.heap.size:=(grown_drew wr none).size;omega);obtain⟨aC,capC,hvC,_,_⟩:=hCi.shape;subst hvC))
   clear f1 f2 f3 f4
   have hgwC:wB.grownBy wC (some w2.heap.size):=grown_trans hgi (grown_of_ext _ hgC)
   have hMC:BOwn w2.heap.size wC (.slice (some ⟨w2.heap.size,0,none⟩) N N) (markL N (innM P y B 0++rowM P A B X i)):=hM.ext0 hgC
   have hE2C:=grown_trans hE2r hgC
   clear hM hOC hsC hgC hgi hAr hra hE2r hE0r
   go_wp2
   go_loopw [14] (fun jv wr=>∃j:Nat,jv=.int .i64 j∧j≤B.length∧wC.grownBy wr (some w2.heap.size)∧BOwn w2.heap.size wr (.slice (some ⟨w2.heap.size,0,none⟩) N N) (markL N (innM P y B j++rowM P A B X i))) (fun jv _=>B.length-(intOf jv).toNat)
   case atStart=>exact⟨0,rfl,by omega,grown_refl _ _,hMC⟩
   case round=>
    clear hMC
    obtain⟨j,rfl,hj,hgj,hM⟩:=hrel
    have hE2r:Ext w2 wr:=grown_own hE2C hgj (fun k hk hlt=>by cases hk;omega)
    have hE0r:=grown_trans hg2 hE2r
    have hgB:=grown_trans hgwC hgj
    by_cases hltj:j<B.length
    ·have hltj':(j:Int)<B.length:=by omega
     have hBr:Rows2 (fun k=>w2.heap.size<k) wr (.slice aB B.length capB) B:=Rows2.mono hB5 (frame_of hgB (fun k hk _=>⟨hk,fun e=>by cases e;omega⟩))
     have hyr:Ints Any wr (.slice aC y.length capC) y:=Ints.mono hCi (frame_of hgj (fun k hk _=>⟨trivial,fun e=>by cases e;omega⟩))
     obtain⟨b1,o1,a1,c1,rfl,hb1s,_,hcb,hrb⟩:=Rows2.at hBr j hltj
     have hb1s:w2.heap.size<b1:=hb1s
     have hzV:=HAB.out.2.2.2 _ (gtMem hltj)
     have hpV:=G.mulV HY.out.2.2.1 hzV
     have hpl:(rMul P y (gt B j)).length≤6:=by rw[hpV.1];exact hn6
     obtain⟨n0,n1⟩:=num_bd hP hpV
     obtain⟨m,hm⟩:∃m,m=num P (rMul P y (gt B j)):=⟨_,rfl⟩
     rw[←hm] at n0 n1
     have hst:markL N (innM P y B (j+1)++rowM P A B X i)=(markL N (innM P y B j++rowM P A B X i)).set m.toNat true:=by rw[markL_set n0,hm];rfl
     have hmN:m<N:=by have:=HNo.out.2;omega
     have hcel:=hM.cell m.toNat (by rw[markL_len];omega)
     have hfr:=hM.frozen m.toNat
     have HZ:=Lib.hid (And.intro hzV (And.intro hpV (And.intro hpl (And.intro hm hst))));clear hzV hpV hpl hm hst
     obtain⟨hc0,hc1,hc2⟩:=HB.out wr hE0r
     have e1:∀w',Near wr w2.heap.size w'→w'.cell? ⟨w.heap.size,0,none⟩=some vo6:=fun w' h=>h.cell hc0 (by simp;omega)
     have e2:∀w',Near wr w2.heap.size w'→w'.cell? ⟨w.heap.size,1,none⟩=some vp6:=fun w' h=>h.cell hc1 (by simp;omega)
     have e3:∀w',Near wr w2.heap.size w'→w'.cell? ⟨w.heap.size,2,none⟩=some vc6:=fun w' h=>h.cell hc2 (by simp;omega)
     have e4:∀w',Near wr w2.heap.size w'→w'.cell? ⟨b1,o1+j,none⟩=some (.slice a1 (gt B j).length c1):=fun w' h=>h.cell hcb (by simp;omega)
     clear hc0 hc1 hc2 hcb
     have h3r:=Pres3.ext h36 hE0r
     go_wp2
     go_region_held3 (fun w'=>Near wr w2.heap.size w') (first|exact Near.of (grown_drew _ _)|exact Near.of (by assumption)|exact Near.store (by assumption)|assumption)
      (first
       | (go_at_call 240;refine Calls.mono (Calls.rel (w0:=wr) (by first|exact grown_drew _ _|assumption) (l08Mul_ok P hP _ _ _ _ y (gt B j) Any Any Any ⟨_,_,_,rfl,Pres3.ext h3r (by first|exact grown_drew _ _|assumption)⟩ (Ints.ext hyr (by first|exact grown_drew _ _|assumption)) (Ints.sub (Ints.ext hrb (by first|exact grown_drew _ _|assumption)) (fun _ _ _=>trivial)) HY.out.2.2.1 HZ.out.1)) ?_;rintro eF wF ⟨vF,rfl,hgF,hsF,hOF⟩;have hFi:=hOF.ints (by have:=HZ.out.2.2.1;omega))
       | (go_at_call 255;refine Calls.mono (Calls.rel (w0:=wr) (by assumption) (l10Number_ok P hP _ _ _ _ Any Any ⟨_,_,_,rfl,Pres3.ext h3r (by assumption)⟩ hFi HZ.out.2.1)) ?_;rintro eG wG ⟨vG,rfl,hgG,hsG,hvG⟩;rw[←HZ.out.2.2.2.1] at hvG;subst hvG;have hcel2:=hgG.cell hcel (by simp);have hfr2:=(hM.ext0 hgG).frozen m.toNat))
     clear e1 e2 e3 e4
     obtain⟨hO3,hgs⟩:=(hM.ext0 hgG).store m.toNat true
     have hgn:wC.grownBy (wG.setCell ⟨w2.heap.size,m.toNat,none⟩ (.bool true)) (some w2.heap.size):=grown_trans (grown_trans hgj (grown_of_ext _ hgG)) hgs
     rw[←HZ.out.2.2.2.2] at hO3
     clear hcel hcel2 hfr hfr2 hgs
     go_wp2
     go_roundw
     case rel=>exact⟨j+1,by go_num,by omega,hgn,hO3⟩
     case measure=>simp[intOf];omega
    ·have hje:j=B.length:=by omega
     subst hje
     rw[←HY.out.2.2.2.2] at hM
     go_wp2
     go_roundw
     case rel=>exact⟨i+1,by go_num,by omega,hgB,hM⟩
     case measure=>simp[intOf];omega
  ·have hie:i=A.length:=by omega
   have HIE:=Lib.hid hie;clear hie
   go_wp2
   go_ret
   exact ⟨_,rfl,grown_trans hg0 hE0r,by
    rw[←HNo.out.1,←HAB.out.1,←HAB.out.2.1,←HIE.out]
    exact hM.weak (by omega)⟩
end Go.Proofs.YtdcobapnlpeaaaaGreat
namespace Go.Proofs.YtdcobapnlpeaaaaGreat
open Go.RowKit
open Classical in
noncomputable def dcsC (P:Pr) (U V:List (List Int)):Int:=if twoOk P U V then (if 128<ordP P then 3 else 0) else 1
open Classical in
noncomputable def dcsL (P:Pr) (U V:List (List Int)):List (List Int):=if twoOk P U V∧¬ 128<ordP P then dcTo P (gU P U) (gU P V) (ordP P).toNat else []
theorem dcs_bad {P:Pr}{U V:List (List Int)} (h:¬twoOk P U V):dcsC P U V=1∧dcsL P U V=[]:=by
 unfold dcsC dcsL;rw[if_neg h,if_neg (fun e=>h e.1)];exact⟨rfl,rfl⟩
theorem dcs_big {P:Pr}{U V:List (List Int)} (h:twoOk P U V) (h2:128<ordP P):dcsC P U V=3∧dcsL P U V=[]:=by
 unfold dcsC dcsL;rw[if_pos h,if_pos h2,if_neg (fun e=>e.2 h2)];exact⟨rfl,rfl⟩
theorem dcs_ok {P:Pr}{U V:List (List Int)} (h:twoOk P U V) (h2:¬ 128<ordP P):dcsC P U V=0∧dcsL P U V=dcTo P (gU P U) (gU P V) (ordP P).toNat:=by
 unfold dcsC dcsL;rw[if_pos h,if_neg h2,if_pos ⟨h,h2⟩];exact⟨rfl,rfl⟩
theorem SlO.over {α:Type} [Inhabited α] {El:(Nat→Prop)→World→Value→α→Prop}{E B g:Nat}{w:World}{v:Value}{xs:List α} (h:SlO El E B w v xs) (hg:g<B):SlOA El E B (fun k=>k=g) w v xs:=by
 obtain⟨vs,F,h1,h2,h3,h4,h5⟩:=h
 exact⟨vs,F,h1,h2,h3,h4,h5,fun i k hi hk e=>by have:=(h3 i k hi hk).1;omega,fun k hk e=>by have:=(h2.lt k hk).1;omega⟩
def mixL (N:Nat) (ns ms:List Int) (j:Nat):List Bool:=(List.range N).map (fun i:Nat=>decide ((i:Int)∈ns) || (decide (i<j) && decide ((i:Int)∈ms)))
theorem mixL_len (N:Nat) (ns ms:List Int) (j:Nat):(mixL N ns ms j).length=N:=by unfold mixL;simp
theorem mixL_zero (N:Nat) (ns ms:List Int):mixL N ns ms 0=markL N ns:=by unfold mixL markL;simp
theorem mixL_all (N:Nat) (ns ms:List Int):mixL N ns ms N=markL N (ms++ns):=by
 refine List.ext_getElem (by simp[mixL,markL]) (fun i h1 h2 => ?_)
 have hi:i<N:=by rw[mixL_len] at h1;exact h1
 simp[mixL,markL,hi,Bool.or_comm]
theorem mixL_at {N:Nat}{ns ms:List Int}{j i:Nat} (hi:i<N):gt (mixL N ns ms j) i=(decide ((i:Int)∈ns) || (decide (i<j) && decide ((i:Int)∈ms))):=by
 rw[gt_eq _ _ (by rw[mixL_len];exact hi)];simp[mixL]
theorem markL_at {N:Nat}{ns:List Int}{i:Nat} (hi:i<N):gt (markL N ns) i=decide ((i:Int)∈ns):=by
 rw[gt_eq _ _ (by rw[markL_len];exact hi)];simp[markL]
theorem mixL_set {N:Nat}{ns ms:List Int}{j:Nat} (hj:j<N):(mixL N ns ms j).set j (gt (mixL N ns ms j) j || gt (markL N ms) j)=mixL N ns ms (j+1):=by
 rw[mixL_at hj,markL_at hj]
 refine List.ext_getElem (by simp[mixL]) (fun i h1 h2 => ?_)
 rw[List.getElem_set]
 by_cases he:j=i
 ·subst he;simp[mixL]
 ·rw [if_neg he]
  have:(i<j+1)↔i<j:=by omega
  simp[mixL,this]
set_option maxRecDepth 100000 in
set_option maxHeartbeats 8000000 in
theorem sDcs_ok (P:Pr) (w:World) (pv uv vv:Value) (U V:List (List Int)) (Sp Su Sv:Nat→Prop) (hpv:PresV Sp w pv P) (hu:Rows2 Su w uv U) (hv:Rows2 Sv w vv V) :
  Calls Tryz.prog 82 #[pv,uv,vv] w (Ret w fun w' v=>∃a n c,v=.tuple #[.slice a n c,.int .i64 (dcsC P U V)]∧Rows2 Any w' (.slice a n c) (dcsL P U V)):=by
 obtain⟨vo,vp,vc,rfl,h3⟩:=hpv
 have hp0:=PresP.box h3 28
 have hg0:Ext w (w.alloc (.cells #[vo,vp,vc] 28)):=World.grownBy_alloc _ _ _
 have hs0:(w.alloc (.cells #[vo,vp,vc] 28)).heap.size=w.heap.size+1:=by simp
 have hu0:=Rows2.ext hu hg0
 have hv0:=Rows2.ext hv hg0
 obtain⟨au,capu,rfl,_,_⟩:=Sl.shape hu
 obtain⟨av,capv,rfl,_,_⟩:=Sl.shape hv
 obtain⟨vo6,vp6,vc6,_,_,hc0,hc1,hc2,h36⟩:=hp0.at
 simp only[Nat.zero_add] at hc1 hc2
 have hbx:∀w',Ext (w.alloc (.cells #[vo,vp,vc] 28)) w'→w'.cell? ⟨w.heap.size,0,none⟩=some vo6∧w'.cell? ⟨w.heap.size,1,none⟩=some vp6∧w'.cell? ⟨w.heap.size,2,none⟩=some vc6:=fun w' h=>⟨h.cell hc0 (by simp),h.cell hc1 (by simp),h.cell hc2 (by simp)⟩
 have HB:=Lib.hid hbx;clear hbx
 have hE:=l13Two_ok P (w.alloc (.cells #[vo,vp,vc] 28)) _ _ _ U V Any Su Sv ⟨_,_,_,rfl,h36⟩ hu0 hv0
 clear hp0 hu hv
 go_enter Tryz.func82,Tryz.ntmps82
 go_wp2_with fail
 clear hc0 hc1 hc2
 have HS:=Lib.hid hs0;clear hs0
 generalize hw0:w.alloc (.cells #[vo,vp,vc] 28)=w0 at *
 clear hw0
 refine Calls.mono hE ?_
 rintro e1 w1 ⟨v1,rfl,hg1,r1,rfl,hr1⟩
 clear hE
 obtain⟨hb0,hb1,hb2⟩:=HB.out w1 hg1
 cases r1 with
 | false=>
  obtain⟨hc,hL⟩:=dcs_bad (P:=P) (U:=U) (V:=V) (fun h=>by have:=hr1.2 h;cases this)
  have HC:=Lib.hid (And.intro hc hL);clear hc hL hr1
  go_wp2
  go_ret2
  exact⟨_,rfl,grown_trans hg0 hg1,none,0,0,by rw[HC.out.1];rfl,by rw[HC.out.2];exact⟨none,0,rfl,⟨by simp,by simp,fun _=>rfl⟩,fun i hi=>by simp at hi⟩⟩
 | true =>
  have hok:twoOk P U V:=hr1.1 rfl
  have G:=grp_of_r hok.1
  have hP:=G.v
  have hn6:=hP.n6
  have h729:ordP P≤729:=hP.le729
  have hpos:=hP.ordP_pos
  have hU:=hok.2.1.2
  have hV:=hok.2.2.2
  have HOK:=Lib.hid hok;clear hr1 hok
  have hu1:Rows2 Su w1 (.slice au U.length capu) (cseq P (gU P U)):=by rw[←hU];exact Rows2.ext hu0 hg1
  have hv1:Rows2 Sv w1 (.slice av V.length capv) (cseq P (gU P V)):=by rw[←hV];exact Rows2.ext hv0 hg1
  have HUV:=Lib.hid (And.intro hU hV);clear hU hV
  obtain⟨N,hN⟩:∃N,N=(ordP P).toNat:=⟨_,rfl⟩
  have hNo:(N:Int)=ordP P:=by omega
  have HNo:=Lib.hid (And.intro hN hNo)
  have hN729:N≤729:=by omega
  go_wp2_with fail
  clear hb0 hb1 hb2
  refine Calls.mono (l10Order_ok w1 _ P Any hP ⟨_,_,_,rfl,Pres3.ext h36 hg1⟩) ?_
  rintro e2 w2 ⟨v2,rfl,hg2,rfl⟩
  rw[←hNo]
  have hg02:=grown_trans hg1 hg2
  obtain⟨hb0,hb1,hb2⟩:=HB.out w2 hg02
  by_cases hbig:128<ordP P
  ·obtain ⟨hc,hL⟩:=dcs_big HOK.out hbig
   have hbN:(128:Int)<N:=by omega
   have HC:=Lib.hid (And.intro hc hL);clear hc hL hbig hN hNo h729 hpos
   go_wp2
   go_ret2
   exact⟨_,rfl,grown_trans hg0 hg02,none,0,0,by rw[HC.out.1];rfl,by rw[HC.out.2];exact⟨none,0,rfl,⟨by simp,by simp,fun _=>rfl⟩,fun i hi=>by simp at hi⟩⟩
  ·obtain ⟨hc,hL⟩:=dcs_ok HOK.out hbig
   have hbN:¬(128:Int)<N:=by omega
   have HC:=Lib.hid (And.intro hc hL);clear hc hL hbig hN hNo h729 hpos
   go_wp2_with fail
   clear hb0 hb1 hb2
   refine Calls.mono (l10Order_ok w2 _ P Any hP ⟨_,_,_,rfl,Pres3.ext h36 hg02⟩) ?_
   rintro e3 w3 ⟨v3,rfl,hg3,rfl⟩
   rw[←HNo.out.2]
   have hg03:=grown_trans hg02 hg3
   go_wp2_with (first|(at_make;refine wp_make_bools rfl _ _ rfl w3.heap.size N w3.heap.size rfl (N:Int) rfl rfl rfl (by omega) (Nat.le_refl _) ?_;intro w4 hM4 hg4 hlt4)|fail)
   have hur3:=Rows2.ext hu1 (grown_trans hg2 hg3)
   have hvr3:=Rows2.ext hv1 (grown_trans hg2 hg3)
   clear hg1 hg2 hg02 hu1 hv1
   obtain⟨H,hH⟩:∃H,H=gU P U:=⟨_,rfl⟩
   obtain⟨K,hK⟩:∃K,K=gU P V:=⟨_,rfl⟩
   have hSH:Sub P H:=by rw[hH];exact G.subB HOK.out.2.1
   have hSK:Sub P K:=by rw[hK];exact G.subB HOK.out.2.2
   have hur:Rows2 Su w3 (.slice au U.length capu) (cseq P H):=by rw[hH];exact hur3
   have hvr:Rows2 Sv w3 (.slice av V.length capv) (cseq P K):=by rw[hK];exact hvr3
   have hM0:BOwn w3.heap.size w4 (.slice (some ⟨w3.heap.size,0,none⟩) N N) (markL N (dcM P H K 0)):=by
    rw[show dcM P H K 0=[] from rfl,markL_nil];exact hM4
   have HHK:=Lib.hid (And.intro hH (And.intro hK (And.intro hSH hSK)));clear hH hK hSH hSK hM4 hur3 hvr3
   go_wp2
   go_loopw [9,10] (fun ov iv wr=>∃(k:Nat) (v9:Value),v9=ov∧iv=.int .i64 k∧k≤N∧w4.heap.size≤wr.heap.size∧Ext w3 wr∧BOwn w3.heap.size wr (.slice (some ⟨w3.heap.size,0,none⟩) N N) (markL N (dcM P H K k))∧RowsO w4.heap.size wr v9 (dcTo P H K k)) (fun _ iv _=>N-(intOf iv).toNat)
   case atStart=>exact⟨0,_,rfl,rfl,by omega,(World.grownBy_alloc w4 _ none).size,grown_trans hg4 (World.grownBy_alloc _ _ _),hM0.ext0 (World.grownBy_alloc _ _ _),[],fun _ _=>False,rfl,World.ownsRow_lit w4 #[] 0 (Nat.le_refl _) (by decide) rfl,by simp,by simp,by simp[dcTo]⟩
   case round=>
    clear hM0
    obtain⟨k,v9,rfl,rfl,hk,hsr,hg,hM,hO⟩:=hrel
    have hg0r:=grown_trans hg03 hg
    obtain⟨hb0,hb1,hb2⟩:=HB.out wr hg0r
    have hdl:=dcTo_len P H K k
    go_wp2_with fail
    clear hb0 hb1 hb2
    refine Calls.mono (l10Order_ok wr _ P Any hP ⟨_,_,_,rfl,Pres3.ext h36 hg0r⟩) ?_
    rintro e5 w5 ⟨v5,rfl,hg5,rfl⟩
    rw[←HNo.out.2]
    have hM5:=hM.ext0 hg5
    have hO5:=SlO.ext rdOwn hO hg5
    have hg35:=grown_trans hg hg5
    have hs45:w4.heap.size≤w5.heap.size:=Nat.le_trans hsr hg5.size
    clear hsr
    clear hM hO hg0r
    have hg05:=grown_trans hg03 hg35
    obtain⟨hb0,hb1,hb2⟩:=HB.out w5 hg05
    by_cases hlt:k<N
    ·have hlt':(k:Int)<N:=by omega
     have hcel:=hM5.cell k (by rw[markL_len];exact hlt)
     rw[markL_at hlt] at hcel
     by_cases hin:(k:Int)∈dcM P H K k
     ·have hds:=(G.dcM_mem HHK.out.2.2.1 HHK.out.2.2.2 k k).1 hin
      rw[decide_eq_true hin] at hcel
      rw[←dcM_seen hds] at hM5
      rw[←dcTo_seen hds] at hO5
      have HDS:=Lib.hid (And.intro hin hds);clear hin hds
      go_wp2
      go_roundw
      case rel=>exact⟨k+1,v9,rfl,by go_num,by omega,hs45,hg35,hM5,hO5⟩
      case measure=>simp[intOf];omega
     ·have hds:¬dcSeen P H K (dcTo P H K k) k:=fun h=>hin ((G.dcM_mem HHK.out.2.2.1 HHK.out.2.2.2 k k).2 h)
      rw[decide_eq_false hin] at hcel
      have hX:=elAt_vec hP (k:Int) (by omega)
      have hXl:(elAt P (k:Int)).length≤6:=by rw[hX.1];exact hn6
      have hnext:dcTo P H K (k+1)=dcTo P H K k++[elAt P k]:=dcTo_new hds
      have hnextM:dcM P H K (k+1)=rowM P (elemsIn P H) (elemsIn P K) (elAt P k) (elemsIn P H).length++dcM P H K k:=dcM_new hds
      have HDS:=Lib.hid (And.intro hX (And.intro hXl (And.intro hnext hnextM)));clear hin hds hX hXl hnext hnextM
      go_wp2_with fail
      clear hb0 hb1 hb2
      refine Calls.mono (l10At_ok P hP w5 _ (k:Int) Any ⟨_,_,_,rfl,Pres3.ext h36 hg05⟩ (by omega) (by omega)) ?_
      rintro e6 w6 ⟨v6,rfl,hg6,hO6⟩
      have hYO:OwnIn (From w5.heap.size) w6 v6 (elAt P k):=OwnIn.of hO6 (by have:=HDS.out.2.1;omega) (fun j h1 _=>h1)
      have hXi:Ints (fun j=>w5.heap.size≤j) w6 v6 (elAt P k):=ints_of_own hO6 (by have:=HDS.out.2.1;omega) (fun j hj=>(hO6.lt j hj).1)
      obtain⟨ax,capx,hvx,_,_⟩:=hXi.shape
      subst hvx
      clear hO6
      go_wp2_with (first|(at_builtin;refine wp_app_row rfl _ _ rfl w4.heap.size w5 w6 v9 _ (dcTo P H K k) (elAt P k) rfl hO5 hg6 hYO rfl rfl (by omega) hs45 ?_;intro v7 w7 hO7 hg7 hg7b;have hE37:=hO5.extw hg35 (by omega) hg7;obtain⟨hb0,hb1,hb2⟩:=HB.out w7 (grown_trans hg03 hE37))|fail)
      clear hb0 hb1 hb2
      have hob:∀b,v9.ownBlock=some b→w4.heap.size≤b∧b<w5.heap.size:=fun b hb=>hO5.lt b hb
      have hM7:BOwn w3.heap.size w7 (.slice (some ⟨w3.heap.size,0,none⟩) N N) (markL N (dcM P H K k)):=(hM5.ext0 hg6).kept hg7b (.inr (fun e=>by have:=(hob w3.heap.size e.symm).1;omega))
      have hX7:Ints Any w7 (.slice ax (elAt P (k:Int)).length capx) (elAt P k):=Ints.mono hXi (frame_of hg7b (fun b hb _=>⟨trivial,fun e=>by have:=(hob b e).2;omega⟩))
      have hs7:w5.heap.size≤w7.heap.size:=hg7.size
      rw[←HDS.out.2.2.1] at hO7
      clear hM5 hO5 hYO hXi hg7 hg7b hob hg05
      refine Calls.mono (l14Double_ok P G w7 _ _ _ _ H K (elAt P k) Any Su Sv Any HHK.out.2.2.1 HHK.out.2.2.2 ⟨_,_,_,rfl,Pres3.ext h36 (grown_trans hg03 hE37)⟩ (Rows2.ext hur hE37) (Rows2.ext hvr hE37) hX7 HDS.out.1) ?_
      rintro e8 w8 ⟨v8,rfl,hg8,hD⟩
      rw[←HNo.out.1] at hD
      obtain⟨ms,hms⟩:∃ms,ms=rowM P (elemsIn P H) (elemsIn P K) (elAt P k) (elemsIn P H).length:=⟨_,rfl⟩
      rw[←hms] at hD
      obtain⟨gd,capd,hvd,hgd1,hgd2⟩:=hD.form (by rw[markL_len];omega)
      rw[markL_len] at hvd
      subst hvd
      have hM8:BOwn w3.heap.size w8 (.slice (some ⟨w3.heap.size,0,none⟩) N N) (mixL N (dcM P H K k) ms 0):=by rw[mixL_zero];exact hM7.ext0 hg8
      have hO8:=SlO.over (SlO.ext rdOwn hO7 hg8) hlt4
      have hE38:=grown_trans hE37 hg8
      have HMS:=Lib.hid hms;clear hms hM7 hO7
      go_wp2
      go_loopw [13] (fun jv wr=>∃j:Nat,jv=.int .i64 j∧j≤N∧w8.grownBy wr (some w3.heap.size)∧BOwn w3.heap.size wr (.slice (some ⟨w3.heap.size,0,none⟩) N N) (mixL N (dcM P H K k) ms j)) (fun jv _=>N-(intOf jv).toNat)
      case atStart=>exact⟨0,rfl,by omega,grown_refl _ _,hM8⟩
      case round=>
       clear hM8
       obtain⟨j,rfl,hj,hgj,hM⟩:=hrel
       by_cases hltj:j<N
       ·have hltj':(j:Int)<N:=by omega
        have hDr:BOwn w7.heap.size wr (.slice (some ⟨gd,0,none⟩) N capd) (markL N ms):=hD.keep hgj (by omega)
        have hcd:=hDr.cell j (by rw[markL_len];exact hltj)
        have hcs:=hM.cell j (by rw[mixL_len];exact hltj)
        have hfr:=hM.frozen j
        have hst:=mixL_set (ns:=dcM P H K k) (ms:=ms) hltj
        obtain⟨p,hp⟩:∃p,p=gt (mixL N (dcM P H K k) ms j) j:=⟨_,rfl⟩
        obtain⟨q,hq⟩:∃q,q=gt (markL N ms) j:=⟨_,rfl⟩
        rw[←hp,←hq] at hst
        rw[←hp] at hcs
        rw[←hq] at hcd
        obtain⟨hO3,hgs⟩:=hM.store j (p || q)
        rw[hst] at hO3
        have hgn:=grown_trans hgj hgs
        clear hp hq hst hDr hgs hM
        cases p with
        | true=>
         go_wp2
         go_roundw
         case rel=>exact⟨j+1,by go_num,by omega,hgn,hO3⟩
         case measure=>simp[intOf];omega
        | false=>
         go_wp2
         go_roundw
         case rel=>exact⟨j+1,by go_num,by omega,hgn,hO3⟩
         case measure=>simp[intOf];omega
       ·have hje:j=N:=by omega
        subst hje
        rw[mixL_all,HMS.out,←HDS.out.2.2.2] at hM
        have hE3r:Ext w3 wr:=grown_own hE38 hgj (fun b hb hlt=>by cases hb;omega)
        have hOr:=(SlOA.kept rdOwn hO8 hgj rfl).o
        have hsrr:w4.heap.size≤wr.heap.size:=by have h1:=hgj.size;have h2:=hg8.size;omega
        go_wp2
        go_roundw
        case rel=>exact⟨k+1,_,rfl,by go_num,by omega,hsrr,hE3r,hM,hOr⟩
        case measure=>simp[intOf];omega
    ·have hke:k=N:=by omega
     subst hke
     have hR5:Rows2 Any w5 v9 (dcsL P U V):=by
      rw[HC.out.2,←HHK.out.1,←HHK.out.2.1,←HNo.out.1]
      exact Rows2.sub (RowsD.rows (hO5.toD (by omega))) (fun _ _ _=>trivial)
     obtain⟨az,capz,hvz,_,_⟩:=SlD.shape (hO5.toD (by omega))
     subst hvz
     go_wp2
     go_ret2
     exact⟨_,rfl,grown_trans hg0 hg05,_,_,_,by rw[HC.out.1];rfl,hR5⟩
end Go.Proofs.YtdcobapnlpeaaaaGreat
namespace Go.Proofs.YtdcobapnlpeaaaaGreat
open Go.RowKit
open Go.Maps (Keyed)
theorem und_seen:Tryz.prog.underlying 147=some (.map 2 4):=by kernel_rfl
theorem und_bool:Tryz.prog.underlying 4=some .bool:=by kernel_rfl
theorem und_int64:Tryz.prog.underlying 2=some (.int .i64):=by kernel_rfl
def Seen (w:World) (b:Nat) (ns:List Int):Prop:=
 ∃ (n:Nat) (D:DataW Unit),w.ownsMap Tryz.prog 2 (plainElem Tryz.prog 4) b n D∧n≤ns.length∧Maps.IsMap D ∧
  ∀a:Int,(Lit.int .i64 a).wf=true→D.atKey (.int .i64 a) (.lit (.bool false))=.lit (.bool (decide (a∈ns)))
theorem Seen.made (w:World):Seen (w.alloc (.map #[] 0)) w.heap.size []:=
 ⟨0,.map [],World.ownsMap_made _ _ _ _,Nat.le_refl _,Maps.isMap_empty,fun a _=>by simp[WideAt.atKey_none]⟩
theorem Seen.kept {w w':World}{b:Nat}{ns:List Int}{r:Option Nat} (h:Seen w b ns) (hg:w.grownBy w' r) (hne:some b≠r):Seen w' b ns:=by
 obtain⟨n,D,h,h2⟩:=h
 exact⟨n,D,h.kept hg hne,h2⟩
theorem Seen.look {w:World}{b:Nat}{ns:List Int} (h:Seen w b ns) (a:Int) (ha:(Lit.int .i64 a).wf=true) :
  (Instr.lookup 147 (.map (some b)) (.int .i64 a) false).run Tryz.prog w=.ok (.bool (decide (a∈ns))) w:=by
 obtain⟨n,D,h,_,_,hat⟩:=h
 obtain⟨v,ps,hrun,hv⟩:=h.lookup (Maps.int_keyed und_int64) und_seen (z := .bool false) (by kernel_rfl) (plainElem_bool und_bool false) (Maps.keyOf_int_mk und_int64 ha)
 rw[hat a ha] at hv
 have hvv:v=.bool (decide (a∈ns)):=by
  unfold plainElem at hv
  rw[und_bool] at hv
  cases v<;>simp at hv
  rw[hv.1]
 rw[hrun,hvv]
end Go.Proofs.YtdcobapnlpeaaaaGreat
namespace Go.Proofs.YtdcobapnlpeaaaaGreat
open Go.RowKit
theorem num_wf2 {P:Pr} (hP:Valid P) {x:List Int} (hx:Vec P.orders x):(Lit.int .i64 (num P x)).wf=true:=by
 have h1:=num_bd hP hx
 have h2:ordP P≤729:=hP.le729
 have e1:IntKind.i64.min = -9223372036854775808:=by decide
 have e2:IntKind.i64.max=9223372036854775807:=by decide
 simp[Lit.wf]
 omega
theorem run_makeSeen2 (w:World):(Instr.makeMap 147 none).run Tryz.prog w=.ok (.map (some w.heap.size)) (w.alloc (.map #[] 0)):=by kernel_rfl
theorem Seen.updateL {w:World}{b:Nat}{ns:List Int} (h:Seen w b ns) (a:Int) (ha:(Lit.int .i64 a).wf=true) (hl:ns.length≤1000000000) :
  ∃w',(Instr.mapUpdate 147 (.map (some b)) (.int .i64 a) (.bool true)).run Tryz.prog w=.ok () w'∧Seen w' b (a :: ns)∧w.grownBy w' (some b):=by
 obtain⟨n,D,h,hn,hM,hat⟩:=h
 obtain⟨w',hrun,hown,hg⟩:=h.update (Maps.int_keyed und_int64) und_seen (by unfold maxLen;omega) (Maps.keyOf_int_mk und_int64 ha) (plainElem_bool und_bool true)
 refine⟨w',hrun,⟨n+1,_,hown,by simp;omega,hM.put _ _,?_⟩,hg⟩
 intro c hc
 by_cases he:c=a
 ·subst he
  rw[Maps.atKey_put_same hM (by trivial)]
  simp
 ·rw [Maps.atKey_put_other (by intro e;cases e;exact he rfl),hat c hc]
  simp[he]
theorem dcsL_len (P:Pr) (U V:List (List Int)):(dcsL P U V).length≤729:=by
 by_cases h:twoOk P U V
 ·have h9:=(grp_of_r h.1).v.le729
  by_cases h2:128<ordP P
  ·rw[(dcs_big h h2).2];simp
  ·rw [(dcs_ok h h2).2]
   have:=dcTo_len P (gU P U) (gU P V) (ordP P).toNat
   omega
 ·rw[(dcs_bad h).2];simp
theorem dcTo_mem {P:Pr} (hP:Valid P) {H K:List Int→Prop}{k:Nat} : ∀x∈dcTo P H K k,Vec P.orders x:=by
 induction k with
 | zero=>intro x hx;cases hx
 | succ k ih=>
  intro x hx
  by_cases h:dcSeen P H K (dcTo P H K k) k
  ·rw[dcTo_seen h] at hx;exact ih x hx
  ·rw [dcTo_new h] at hx
   rcases List.mem_append.1 hx with h1|h1
   ·exact ih x h1
   ·have:x=elAt P k:=by simpa using h1
    rw[this];exact elAt_vec hP (k:Int) (by omega)
theorem SlOA.with_low {α:Type} [Inhabited α] {El:(Nat→Prop)→World→Value→α→Prop}{E B m:Nat}{A:Nat→Prop}{w:World}{v:Value}{xs:List α} (h:SlOA El E B A w v xs) (hm:m<B):SlOA El E B (fun b=>b=m∨A b) w v xs:=by
 obtain⟨vs,G,h1,h2,h3,h4,h5,h6,h7⟩:=h
 exact ⟨vs,G,h1,h2,h3,h4,h5,fun i k hi hk e=>by
  rcases e with e|e
  ·have:=(h3 i k hi hk).1;omega
  ·exact h6 i k hi hk e,fun k hk e=>by
  rcases e with e|e
  ·have:=(h2.lt k hk).1;omega
  ·exact h7 k hk e⟩
set_option maxRecDepth 100000 in
set_option maxHeartbeats 8000000 in
theorem iDcs_ok (P:Pr) (w:World) (pv uv vv:Value) (U V:List (List Int)) (Sp Su Sv:Nat→Prop) (hpv:PresV Sp w pv P) (hu:Rows2 Su w uv U) (hv:Rows2 Sv w vv V) :
  Calls Tryz.prog 81 #[pv,uv,vv] w (Ret w fun w' v=>∃a n c,v=.tuple #[.slice a n c,.int .i64 (dcsC P U V)]∧RowsO w.heap.size w' (.slice a n c) (dcsL P U V)):=by
 obtain⟨vo,vp,vc,rfl,h3⟩:=hpv
 have hp0:=PresP.box h3 28
 have hg0:Ext w (w.alloc (.cells #[vo,vp,vc] 28)):=World.grownBy_alloc _ _ _
 have hs0:(w.alloc (.cells #[vo,vp,vc] 28)).heap.size=w.heap.size+1:=by simp
 have hu0:=Rows2.ext hu hg0
 have hv0:=Rows2.ext hv hg0
 obtain⟨au,capu,rfl,_,_⟩:=Sl.shape hu
 obtain⟨av,capv,rfl,_,_⟩:=Sl.shape hv
 have hg1:Ext (w.alloc (.cells #[vo,vp,vc] 28)) ((w.alloc (.cells #[vo,vp,vc] 28)).alloc (.cells #[.slice au U.length capu,.slice av V.length capv] 25)):=World.grownBy_alloc _ _ _
 have hl:=rows3Two hu0 hv0
 have hcon:=areSubgroups_ok P _ _ _ [U,V] Any Any (hp0.ext hg1) hl
 rw[hs0] at hcon
 clear hl hu hv
 go_enter Tryz.func81,Tryz.ntmps81
 go_wp2_with fail
 refine Calls.mono hcon ?_
 rintro e1 w1 ⟨v1,rfl,hgA,r1,rfl,hr1⟩
 clear hcon
 have hr1:r1=true↔twoOk P U V:=by rw[hr1];unfold twoOk;simp
 have hg01:=grown_trans hg1 hgA
 have HS:=Lib.hid hs0;clear hs0
 generalize hw0:w.alloc (.cells #[vo,vp,vc] 28)=w0 at *
 clear hw0 hg1 hgA
 cases r1 with
 | false=>
  obtain⟨hc,hL⟩:=dcs_bad (P:=P) (U:=U) (V:=V) (fun h=>by have:=hr1.2 h;cases this)
  have HC:=Lib.hid (And.intro hc hL);clear hc hL hr1
  go_wp2
  go_ret2
  exact⟨_,rfl,grown_trans hg0 hg01,none,0,0,by rw[HC.out.1];rfl,by rw[HC.out.2];exact SlO.nil _ _ _ _⟩
 | true =>
  have hok:=hr1.1 rfl
  have G:=grp_of_r hok.1
  have hP:=G.v
  have hn6:=hP.n6
  have h729:ordP P≤729:=hP.le729
  have hpos:=hP.ordP_pos
  have hU:=hok.2.1.2
  have hV:=hok.2.2.2
  have HOK:=Lib.hid hok;clear hr1 hok
  have hu1:Rows2 Su w1 (.slice au U.length capu) (cseq P (gU P U)):=by rw[←hU];exact Rows2.ext hu0 hg01
  have hv1:Rows2 Sv w1 (.slice av V.length capv) (cseq P (gU P V)):=by rw[←hV];exact Rows2.ext hv0 hg01
  have HUV:=Lib.hid (And.intro hU hV);clear hU hV hr1
  obtain⟨N,hN⟩:∃N,N=(ordP P).toNat:=⟨_,rfl⟩
  have hNo:(N:Int)=ordP P:=by omega
  have HNo:=Lib.hid (And.intro hN hNo)
  go_wp2_with fail
  refine Calls.mono (orderOf_ok w1 _ P Any hP (hp0.ext hg01)) ?_
  rintro e2 w2 ⟨rfl,rfl⟩
  rw[←hNo]
  by_cases hbig:128<ordP P
  ·obtain ⟨hc,hL⟩:=dcs_big HOK.out hbig
   have hbN:(128:Int)<N:=by omega
   have HC:=Lib.hid (And.intro hc hL);clear hc hL hbig hN hNo h729 hpos
   go_wp2
   go_ret2
   exact⟨_,rfl,grown_trans hg0 hg01,none,0,0,by rw[HC.out.1];rfl,by rw[HC.out.2];exact SlO.nil _ _ _ _⟩
  ·obtain ⟨hc,hL⟩:=dcs_ok HOK.out hbig
   have hbN:¬(128:Int)<N:=by omega
   have hN128:N≤128:=by omega
   have hN1:1≤N:=by omega
   have HC:=Lib.hid (And.intro hc hL);clear hc hL hbig hN hNo h729 hpos
   obtain⟨H,hH⟩:∃H,H=gU P U:=⟨_,rfl⟩
   obtain⟨K,hK⟩:∃K,K=gU P V:=⟨_,rfl⟩
   have hSH:Sub P H:=by rw[hH];exact G.subB HOK.out.2.1
   have hSK:Sub P K:=by rw[hK];exact G.subB HOK.out.2.2
   rw[←hH] at hu1
   rw[←hK] at hv1
   have hlH:=G.cseq_len hSH
   have hlK:=G.cseq_len hSK
   have hqH:=(G.seq_facts hSH).1
   have hqK:=(G.seq_facts hSK).1
   have heH:=G.els_sorted hSH
   have heK:=G.els_sorted hSK
   have hla:=elemsIn_len hP H
   have hlb:=elemsIn_len hP K
   have HHK:=Lib.hid (And.intro hH (And.intro hK (And.intro hSH (And.intro hSK (And.intro hqH (And.intro hqK (And.intro heH heK)))))));clear hH hK hSH hSK hqH hqK heH heK
   have hmk:=run_makeSeen2 w1
   have hS2:=Seen.made w1
   have hg2:Ext w1 (w1.alloc (.map #[] 0)):=World.grownBy_alloc _ _ _
   have hsz2:(w1.alloc (.map #[] 0)).heap.size=w1.heap.size+1:=by simp
   have hs01:w.heap.size<w1.heap.size:=by have:=hg01.size;have:=HS.out;omega
   go_wp2_with fail
   clear hmk
   generalize hw2:w1.alloc (.map #[] 0)=w2 at *
   clear hw2
   have hg02:=grown_trans hg01 hg2
   refine Calls.mono (elementsOf_ok P G w2 _ _ (cseq P H) Any Su (hp0.ext hg02) (Rows2.ext hu1 hg2) HHK.out.2.2.2.2.1 (by omega)) ?_
   rintro e3 w3 ⟨v3,rfl,hg3,hOA⟩
   rw[HHK.out.2.2.2.2.2.2.1] at hOA
   obtain⟨aA,capA,hvA,_,_⟩:=SlD.shape (hOA.toD (by omega))
   subst hvA
   have hg23:=grown_trans hg2 hg3
   go_wp2_with fail
   refine Calls.mono (elementsOf_ok P G w3 _ _ (cseq P K) Any Sv (hp0.ext (grown_trans hg01 hg23)) (Rows2.ext hv1 hg23) HHK.out.2.2.2.2.2.1 (by omega)) ?_
   rintro e4 w4 ⟨v4,rfl,hg4,hOB⟩
   rw[HHK.out.2.2.2.2.2.2.2] at hOB
   obtain⟨aB,capB,hvB,_,_⟩:=SlD.shape (hOB.toD (by omega))
   subst hvB
   have hg14:=grown_trans hg23 hg4
   go_wp2_with fail
   refine Calls.mono (allElements_ok P hP w4 _ Any (hp0.ext (grown_trans hg01 hg14))) ?_
   rintro e5 w5 ⟨v5,rfl,hg5,hOE⟩
   have hg15:=grown_trans hg14 hg5
   have hel:(allEl P).length=N:=by rw[HNo.out.1];simp[allEl]
   obtain⟨aE,capE,hvE,_,_⟩:=SlD.shape (hOE.toD (by omega))
   rw[hel] at hvE
   subst hvE
   have hSz:w1.heap.size+1≤w4.heap.size∧w4.heap.size≤w5.heap.size∧w2.heap.size=w1.heap.size+1:=⟨by have:=hg3.size;have:=hg4.size;omega,hg5.size,hsz2⟩
   obtain⟨mb,hmb⟩:∃mb,mb=w1.heap.size:=⟨_,rfl⟩
   rw[←hmb] at hS2 hSz hs01 ⊢
   have hm0:w0.heap.size≤mb:=by rw[hmb];exact hg01.size
   have hS5:=((hS2.kept hg3 (by simp)).kept hg4 (by simp)).kept hg5 (by simp)
   have hA5:Rows2 (fun b=>mb<b) w5 (.slice aA (elemsIn P H).length capA) (elemsIn P H):=Rows2.sub (Rows2.ext (RowsD.rows (hOA.toD (by omega))) (grown_trans hg4 hg5)) (fun b hb _=>by have h1:w2.heap.size≤b:=hb;omega)
   have hB5:Rows2 (fun b=>mb<b) w5 (.slice aB (elemsIn P K).length capB) (elemsIn P K):=Rows2.sub (Rows2.ext (RowsD.rows (hOB.toD (by omega))) hg5) (fun b hb _=>by have h1:w3.heap.size≤b:=hb;have:=hg3.size;omega)
   have hVA:∀z∈elemsIn P H,Vec P.orders z:=fun z hz=>HHK.out.2.2.1.vec z ((elemsIn_mem hP HHK.out.2.2.1.vec z).1 hz)
   have hVB:∀z∈elemsIn P K,Vec P.orders z:=fun z hz=>HHK.out.2.2.2.1.vec z ((elemsIn_mem hP HHK.out.2.2.2.1.vec z).1 hz)
   have hdcL:=dcM_len (P:=P) (H:=H) (K:=K)
   have hdcN:∀k,¬dcSeen P H K (dcTo P H K k) k→dcM P H K (k+1)=rowM P (elemsIn P H) (elemsIn P K) (elAt P k) (elemsIn P H).length++dcM P H K k:=fun k h=>dcM_new h
   obtain⟨A,hA⟩:∃A,A=elemsIn P H:=⟨_,rfl⟩
   obtain⟨B,hB⟩:∃B,B=elemsIn P K:=⟨_,rfl⟩
   rw[←hA] at hla hA5 hVA hdcL hdcN ⊢
   rw[←hB] at hlb hB5 hVB hdcL hdcN ⊢
   have hg05:=grown_trans hg01 hg15
   have hg5w:=grown_trans hg0 hg05
   obtain⟨vs,F,hvl,hOv,hF,hFd,hFE⟩:=hOE
   rw[hel] at hvl hF hFd hFE
   have hgE:∃g,aE=some ⟨g,0,none⟩∧w4.heap.size≤g:=by
    rcases hOv.form with⟨h1,h2⟩|⟨g,cp,h1,_,h2,_⟩
    ·rw[h2] at hvl;simp at hvl;omega
    ·simp only[Value.slice.injEq] at h1;exact⟨g,h1.1,h2⟩
   obtain⟨gE,rfl,hgEb⟩:=hgE
   have hel2:∀k,k<N→gt (allEl P) k=elAt P k:=fun k hk=>by
    rw[gt_eq _ _ (by rw[hel];exact hk)];simp[allEl]
   have HV:=Lib.hid (And.intro hVA (And.intro hVB (And.intro hF (And.intro hFd (And.intro hFE (And.intro hmb (And.intro hdcL (And.intro hdcN (And.intro hel2 (And.intro hvl (And.intro hA hB)))))))))));clear hVA hVB hF hFd hFE hmb hS2 hOA hOB hg2 hg3 hg4 hg23 hg14 hg02 hsz2 hdcL hdcN hel2 hvl hA hB hel
   have hS0:Seen w5 mb (dcM P H K 0):=hS5
   have hm5:mb<w5.heap.size:=by omega
   clear hS5
   go_wp2
   go_loopw [8,33] (fun ov iv wr=>∃(k:Nat) (v9:Value),v9=ov∧iv=.int .i64 k∧k≤N∧w5.grownBy wr (some mb)∧SlOA OwnIn 24 w4.heap.size (Rest w5.heap.size F k N) wr v9 (dcTo P H K k)∧Seen wr mb (dcM P H K k)∧Hid (∀b,v9.ownBlock=some b→w5.heap.size≤b)) (fun _ iv _=>N-(intOf iv).toNat)
   case atStart=>exact⟨0,_,rfl,rfl,by omega,grown_refl _ _,SlOA.nil _ _ _ _ _,hS0,Lib.hid (fun b hb=>by simp[Value.ownBlock] at hb)⟩
   case round=>
    clear hS0
    obtain⟨k,v9,rfl,rfl,hk,hg,hO,hS,hob⟩:=hrel
    have hg0r:Ext w0 wr:=grown_own hg05 hg (fun b hb hlt=>by cases hb;omega)
    have hdl:=dcTo_len P H K k
    by_cases hlt:k<N
    ·have hlt':(k:Int)<N:=by omega
     have hxE:=HV.out.2.2.2.2.1 k hlt
     rw[HV.out.2.2.2.2.2.2.2.2.1 k hlt] at hxE
     have hxV:=elAt_vec hP (k:Int) (by omega)
     have hxn:num P (elAt P (k:Int))=k:=num_elAt hP _ (by omega) (by have:=HNo.out.2;omega)
     obtain⟨x,hx⟩:∃x,x=elAt P (k:Int):=⟨_,rfl⟩
     rw[←hx] at hxE hxV hxn
     have hxl:x.length≤6:=by rw[hxV.1];exact hn6
     have hwfk:(Lit.int .i64 (k:Int)).wf=true:=by rw[←hxn];exact num_wf2 hP hxV
     obtain⟨ax,cx,hvx,_,_⟩:=hxE.ints.shape
     have hcx:=hg.cell (hOv.cell k (by rw[HV.out.2.2.2.2.2.2.2.2.2.1];exact hlt)) (by simp;omega)
     rw[hvx] at hcx hxE
     have hxE2:=rdOwn.mono (F':=F k) hxE (fun b hb hlt2=>⟨hb,Nat.lt_of_lt_of_le hlt2 hg.size,hg.block b hlt2 (fun e=>by have:=(HV.out.2.2.1 k b hlt hb).1;cases e;omega)⟩)
     have hlook:=hS.look (k:Int) hwfk
     have HX:=Lib.hid (And.intro hxV (And.intro hxn (And.intro hx (And.intro hxl hwfk))));clear hvx hxE hxV hxn hx hxl hwfk
     go_wp2_with fail
     refine Calls.mono (numberOf_ok P hP wr _ _ x _ _ (hp0.ext hg0r) hxE2.ints HX.out.1) ?_
     rintro e6 w6 ⟨rfl,rfl⟩
     rw[HX.out.2.1]
     by_cases hin:(k:Int)∈dcM P H K k
     ·have hds:=(G.dcM_mem HHK.out.2.2.1 HHK.out.2.2.2.1 k k).1 hin
      rw[decide_eq_true hin] at hlook
      have HDS:=Lib.hid (And.intro hin hds);clear hin hds
      go_wp2
      clear hlook
      go_roundw
      case rel=>
       refine⟨k+1,v9,rfl,by go_num,by omega,hg,?_,?_,hob⟩
       ·rw[dcTo_seen HDS.out.2];exact hO.less (fun b ⟨h1,i,h2,h3,h4⟩=>⟨h1,i,by omega,h3,h4⟩)
       ·rw[dcM_seen HDS.out.2];exact hS
      case measure=>simp[intOf];omega
     ·have hds:¬dcSeen P H K (dcTo P H K k) k:=fun h=>hin ((G.dcM_mem HHK.out.2.2.1 HHK.out.2.2.2.1 k k).2 h)
      rw[decide_eq_false hin] at hlook
      have hnext:dcTo P H K (k+1)=dcTo P H K k++[x]:=by rw[HX.out.2.2.1];exact dcTo_new hds
      have hnextM:=HV.out.2.2.2.2.2.2.2.1 k hds
      rw[←HX.out.2.2.1] at hnextM
      have hF1:∀b,F k b→b<wr.heap.size→Rest w5.heap.size F k N b∧w4.heap.size≤b:=fun b hb _=>by
       obtain⟨f1,_,f3⟩:=HV.out.2.2.1 k b hlt hb
       exact⟨⟨f3,k,Nat.le_refl _,hlt,hb⟩,f1⟩
      have hF2:∀b,Rest w5.heap.size F (k+1) N b→Rest w5.heap.size F k N b∧¬F k b:=fun b ⟨h1,i,h2,h3,h4⟩=>
       ⟨⟨h1,i,by omega,h3,h4⟩,fun h=>by have:=HV.out.2.2.2.1 i k b h3 hlt h4 h;omega⟩
      have hF3:∀b,Rest w5.heap.size F k N b→b<wr.heap.size:=fun b hb=>Nat.lt_of_lt_of_le hb.1 hg.size
      have hF4:∀b,F k b→b<w5.heap.size∧mb<b:=fun b hb=>by obtain⟨f1,_,f3⟩:=HV.out.2.2.1 k b hlt hb;exact⟨f3,by omega⟩
      have HD:=Lib.hid (And.intro hnext (And.intro hnextM (And.intro hF1 (And.intro hF2 (And.intro hF3 hF4)))));clear hin hds hnext hnextM hF1 hF2 hF3 hF4
      go_wp2_with (first|(at_builtin;refine wp_app_take rfl _ _ rfl w4.heap.size (Rest w5.heap.size F k N) (Rest w5.heap.size F (k+1) N) (F k) wr v9 _ (dcTo P H K k) x rfl hO hxE2 HD.out.2.2.1 HD.out.2.2.2.1 HD.out.2.2.2.2.1 rfl rfl (by omega) (by have:=hg.size;omega) ?_;intro v7 w7 hA7 hg7 hob7)|fail)
      have hg57:w5.grownBy w7 (some mb):=grown_own hg hg7 (fun b hb hlt2=>by have:=hob.out b hb;omega)
      have hS7:=hS.kept hg7 (fun e=>by have:=hob.out mb e.symm;omega)
      have hx7:Ints (fun b=>mb<b) w7 (.slice ax x.length cx) x:=Ints.mono hxE2.ints (fun b hb hlt2=>⟨(HD.out.2.2.2.2.2 b hb).2,Nat.lt_of_lt_of_le hlt2 hg7.size,hg7.block b hlt2 (fun e=>by have:=hob.out b e.symm;have:=(HD.out.2.2.2.2.2 b hb).1;omega)⟩)
      have hob8:∀b,v7.ownBlock=some b→w5.heap.size≤b:=fun b hb=>by
       rcases hob7 with h|h
       ·exact hob.out b (by rw[←h];exact hb)
       ·have:=h b hb;have:=hg.size;omega
      have HOB:=Lib.hid hob8;clear hob8 hob7 hob
      rw[←HD.out.1] at hA7
      have hS70:Seen w7 mb (rowM P A B x 0++dcM P H K k):=hS7
      have hm7:w5.heap.size≤w7.heap.size:=hg57.size
      clear hO hS hg hg7 hxE2 hlook hS7
      go_wp2
      go_loopw [47] (fun jv wr=>∃j:Nat,jv=.int .i64 j∧j≤A.length∧w7.grownBy wr (some mb)∧Seen wr mb (rowM P A B x j++dcM P H K k)) (fun jv _=>A.length-(intOf jv).toNat)
      case atStart=>exact⟨0,rfl,by omega,grown_refl _ _,hS70⟩
      case round=>
       clear hS70
       obtain⟨j,rfl,hj,hgj,hS⟩:=hrel
       have hg5r:=grown_trans hg57 hgj
       have hg0j:Ext w0 wr:=grown_own hg05 hg5r (fun b hb hlt=>by cases hb;omega)
       by_cases hltj:j<A.length
       ·have hltj':(j:Int)<A.length:=by omega
        have hAr:Rows2 Any wr (.slice aA A.length capA) A:=Rows2.mono hA5 (frame_of hg5r (fun b hb _=>⟨trivial,fun e=>by cases e;omega⟩))
        obtain⟨b1,o1,a1,c1,rfl,_,_,hca,hra⟩:=Rows2.at hAr j hltj
        have hxr:Ints Any wr (.slice ax x.length cx) x:=Ints.mono hx7 (frame_of hgj (fun b hb _=>⟨trivial,fun e=>by cases e;omega⟩))
        have hyV:=HV.out.1 _ (gtMem hltj)
        have hmV:=G.mulV hyV HX.out.1
        have hmT:=G.tv_eq hyV HX.out.1
        obtain⟨y,hy⟩:∃y,y=rMul P (gt A j) x:=⟨_,rfl⟩
        rw[←hy] at hmV hmT
        have hml:y.length≤6:=by rw[hmV.1];exact hn6
        have hrow:rowM P A B x (j+1)=innM P y B B.length++rowM P A B x j:=by rw[hy];rfl
        have hM1:=rowM_len P A B x j
        have hM2:=HV.out.2.2.2.2.2.2.1 k
        have hM3:j*B.length≤729*729:=Nat.mul_le_mul (by omega) hlb
        have hM4:k*(A.length*B.length)≤128*(729*729):=Nat.mul_le_mul (by omega) (Nat.mul_le_mul hla hlb)
        have hML:(rowM P A B x j++dcM P H K k).length≤500000000:=by rw[List.length_append];omega
        obtain⟨R,hR⟩:∃R,R=rowM P A B x j++dcM P H K k:=⟨_,rfl⟩
        have hrow2:rowM P A B x (j+1)++dcM P H K k=innM P y B B.length++R:=by rw[hrow,hR,List.append_assoc]
        rw[←hR] at hS hML
        have HY:=Lib.hid (And.intro hyV (And.intro hmV (And.intro hmT (And.intro hml (And.intro hrow2 (And.intro hR hML))))));clear hy hyV hmV hmT hml hrow hrow2 hR hML hM1 hM2 hM3 hM4
        go_wp2_with fail
        refine Calls.mono (multiply_ok P hP wr _ _ _ (gt A j) x Any Any Any (hp0.ext hg0j) hra hxr HY.out.1 HX.out.1) ?_
        rintro eC wC ⟨vC,rfl,hgC,hOC⟩
        rw[HY.out.2.2.1] at hOC
        have hCi:Ints (fun b=>mb<b) wC vC y:=ints_of_own hOC (by have:=HY.out.2.2.2.1;omega) (fun b hb=>by have h1:=(hOC.lt b hb).1;have:=hgj.size;omega)
        obtain⟨aC,capC,hvC,_,_⟩:=hCi.shape
        subst hvC
        have hg7C:w7.grownBy wC (some mb):=grown_trans hgj (grown_of_ext _ hgC)
        have hSC:Seen wC mb (innM P y B 0++R):=hS.kept hgC (by simp)
        have hm7C:w7.heap.size≤wC.heap.size:=hg7C.size
        clear hS hgj hg5r hg0j hAr hra hxr hca hgC hOC
        go_wp2
        go_loopw [56] (fun tv wr=>∃t:Nat,tv=.int .i64 t∧t≤B.length∧wC.grownBy wr (some mb)∧Seen wr mb (innM P y B t++R)) (fun tv _=>B.length-(intOf tv).toNat)
        case atStart=>exact⟨0,rfl,by omega,grown_refl _ _,hSC⟩
        case round=>
         clear hSC
         obtain⟨t,rfl,ht,hgt,hS⟩:=hrel
         have hg7r:=grown_trans hg7C hgt
         have hg5r:=grown_trans hg57 hg7r
         have hg0t:Ext w0 wr:=grown_own hg05 hg5r (fun b hb hlt=>by cases hb;omega)
         by_cases hltt:t<B.length
         ·have hltt':(t:Int)<B.length:=by omega
          have hBr:Rows2 Any wr (.slice aB B.length capB) B:=Rows2.mono hB5 (frame_of hg5r (fun b hb _=>⟨trivial,fun e=>by cases e;omega⟩))
          obtain⟨b2,o2,a2,c2,rfl,_,_,hcb,hrb⟩:=Rows2.at hBr t hltt
          have hyr:Ints Any wr (.slice aC y.length capC) y:=Ints.mono hCi (frame_of hgt (fun b hb _=>⟨trivial,fun e=>by cases e;omega⟩))
          have hzV:=HV.out.2.1 _ (gtMem hltt)
          have hpV:=G.mulV HY.out.2.1 hzV
          have hpT:=G.tv_eq HY.out.2.1 hzV
          obtain⟨z,hz⟩:∃z,z=rMul P y (gt B t):=⟨_,rfl⟩
          rw[←hz] at hpV hpT
          have hzl:z.length≤6:=by rw[hpV.1];exact hn6
          have hinn:innM P y B (t+1)++R=num P z :: (innM P y B t++R):=by rw[hz];rfl
          have hil:=innM_len P y B t
          have hIL:(innM P y B t++R).length≤1000000000:=by rw[List.length_append];have:=HY.out.2.2.2.2.2.2;omega
          obtain⟨m,hm⟩:∃m,m=num P z:=⟨_,rfl⟩
          have hwfm:(Lit.int .i64 m).wf=true:=by rw[hm];exact num_wf2 hP hpV
          have HZ:=Lib.hid (And.intro hzV (And.intro hpV (And.intro hpT (And.intro hzl (And.intro hinn (And.intro hIL (And.intro hm hwfm)))))));clear hzV hpV hpT hz hzl hinn hil hIL hm hwfm
          go_wp2_with fail
          refine Calls.mono (multiply_ok P hP wr _ _ _ y (gt B t) Any Any Any (hp0.ext hg0t) hyr hrb HY.out.2.1 HZ.out.1) ?_
          rintro eD wD ⟨vD,rfl,hgD,hOD⟩
          rw[HZ.out.2.2.1] at hOD
          have hDi:Ints Any wD vD z:=ints_of_own hOD (by have:=HZ.out.2.2.2.1;omega) (fun _ _=>trivial)
          obtain⟨aD,capD,hvD,_,_⟩:=hDi.shape
          subst hvD
          go_wp2_with fail
          refine Calls.mono (numberOf_ok P hP wD _ _ z _ _ (hp0.ext (grown_trans hg0t hgD)) hDi HZ.out.2.1) ?_
          rintro eF wF ⟨rfl,rfl⟩
          rw[←HZ.out.2.2.2.2.2.2.1]
          obtain⟨wU,hrun,hSU,hgU⟩:=(hS.kept hgD (by simp)).updateL m HZ.out.2.2.2.2.2.2.2 HZ.out.2.2.2.2.2.1
          have hSU2:Seen wU mb (innM P y B (t+1)++R):=by rw[HZ.out.2.2.2.2.1,←HZ.out.2.2.2.2.2.2.1];exact hSU
          have hgn:wC.grownBy wU (some mb):=grown_trans (grown_trans hgt (grown_of_ext _ hgD)) hgU
          clear hSU hgU hOD hDi hyr hrb hcb hBr hg0t hg5r hg7r
          go_wp2
          clear hrun
          go_roundw
          case rel=>exact⟨t+1,by go_num,by omega,hgn,hSU2⟩
          case measure=>simp[intOf];omega
         ·have hte:t=B.length:=by omega
          subst hte
          rw[←HY.out.2.2.2.2.1] at hS
          go_wp2
          go_roundw
          case rel=>exact⟨j+1,by go_num,by omega,hg7r,hS⟩
          case measure=>simp[intOf];omega
       ·have hje:j=A.length:=by omega
        rw[hje,←HD.out.2.1] at hS
        have hA9:SlOA OwnIn 24 w4.heap.size (fun b=>b=mb∨Rest w5.heap.size F (k+1) N b) w7 v7 (dcTo P H K (k+1)):=hA7.with_low (by omega)
        have hA10:=(hA9.kept rdOwn hgj (.inl rfl)).less (A':=Rest w5.heap.size F (k+1) N) (fun b hb => .inr hb)
        go_wp2
        go_roundw
        case rel=>exact⟨k+1,v7,rfl,by go_num,by omega,hg5r,hA10,hS,HOB⟩
        case measure=>simp[intOf];omega
    ·have hke:k=N:=by omega
     have hOR:RowsO w.heap.size wr v9 (dcsL P U V):=by
      rw[HC.out.2,←HHK.out.1,←HHK.out.2.1,←HNo.out.1,←hke]
      exact hO.o.weak (by omega)
     obtain⟨az,capz,hvz,_,_⟩:=SlD.shape (hO.o.toD (by omega))
     subst hvz
     go_wp2
     go_ret2
     exact⟨_,rfl,grown_trans hg0 hg0r,_,_,_,by rw[HC.out.1];rfl,hOR⟩
end Go.Proofs.YtdcobapnlpeaaaaGreat
namespace Go.Proofs.YtdcobapnlpeaaaaGreat
open Go.RowKit
set_option maxRecDepth 100000 in
set_option maxHeartbeats 2000000 in
theorem areElements_ok (Q:Pr) (w:World) (p lv:Value) (L:List (List Int)) (Sp Sl':Nat→Prop) (hp:PresP Sp w p Q) (hl:Rows2 Sl' w lv L) :
  Calls Tryz.prog 133 #[p,lv] w (Ret w fun _ v=>∃r:Bool,v=.bool r∧(r=true↔rconsB Q=true∧∀x∈L,Vec Q.orders x)):=by
 obtain⟨pb,po,rfl⟩:=hp.shape
 obtain⟨al,capl,rfl,_,_⟩:=Sl.shape hl
 obtain⟨vo,vp,vc,_,_,hc0,hc1,hc2,h3⟩:=hp.at
 obtain⟨ao,capo,rfl,_,_⟩:=h3.o.shape
 obtain⟨ap,capp,rfl,_,_⟩:=Sl.shape h3.p
 obtain⟨ac,capc,rfl,_,_⟩:=Sl.shape h3.c
 have hcon:=isConsistent_ok Q w (.agg #[.slice ao Q.orders.length capo,.slice ap Q.powers.length capp,.slice ac Q.conj.length capc]) Sp ⟨_,_,_,rfl,h3⟩
 rw[icons_eq] at hcon
 go_enter Tryz.func133,Tryz.ntmps133
 go_wp2_with fail
 refine Calls.mono hcon ?_
 rintro e1 w1 ⟨v,rfl,hg1,rfl⟩
 clear hcon
 cases hq:rconsB Q with
 | false=>
  have HQ:=Lib.hid hq;clear hq
  go_wp2
  go_ret
  exact⟨_,rfl,hg1,false,rfl,by simp only[Bool.false_eq_true,false_iff];rintro⟨h,_⟩;rw[HQ.out] at h;cases h⟩
 | true =>
  have G:=grp_of_r hq
  have hn6:=G.v.n6
  have HQ:=Lib.hid hq;clear hq hc0 hc1 hc2
  go_wp2
  go_loopw [14] (fun jv wr=>∃j:Nat,jv=.int .i64 j∧j≤L.length∧Ext w wr∧Hid (∀l,l<j→Vec Q.orders (gt L l))) (fun jv _=>L.length-(intOf jv).toNat)
  case atStart=>exact⟨0,rfl,by omega,hg1,Lib.hid (fun j h=>by omega)⟩
  case round=>
   obtain⟨j,rfl,hj,hg,hV⟩:=hrel
   by_cases hjl:j<L.length
   ·have hjl':(j:Int)<L.length:=by omega
    obtain⟨b3,off3,a3,cap3,rfl,_,_,hc3,hr3⟩:=Rows2.at (Rows2.ext hl hg) j hjl
    have hex:=isExponents_ok wr _ _ Q (gt L j) Sp Sl' (hp.ext hg) hr3 (fun i hi=>by have:=G.v.ord7 i hi;omega)
    cases hb:expB Q.orders (gt L j) with
    | true=>
     rw[hb] at hex
     have HB:=Lib.hid (expB_vec.1 hb);clear hb
     go_wp2_with fail
     refine Calls.mono hex ?_
     rintro eE wE ⟨rfl,rfl⟩
     clear hex
     go_wp2
     go_roundw
     case rel=>exact⟨j+1,by go_num,by omega,hg,Lib.hid (fun l hl=>by
      rcases Nat.lt_succ_iff_lt_or_eq.1 hl with h|h
      ·exact hV.out l h
      ·rw[h];exact HB.out)⟩
     case measure=>simp[intOf];omega
    | false=>
     rw[hb] at hex
     have hno:¬ ∀x∈L,Vec Q.orders x:=fun h=>by
      have:=expB_vec.2 (h _ (gtMem hjl))
      rw[hb] at this;cases this
     have HB:=Lib.hid hno;clear hb hno
     go_wp2_with fail
     refine Calls.mono hex ?_
     rintro eE wE ⟨rfl,rfl⟩
     clear hex
     go_wp2
     go_ret
     exact⟨_,rfl,hg,false,rfl,by simp only[Bool.false_eq_true,false_iff];rintro⟨_,h⟩;exact HB.out h⟩
   ·have hke:j=L.length:=by omega
    subst hke
    go_wp2
    go_ret
    exact ⟨_,rfl,hg,true,rfl,by
     simp only[true_iff]
     refine⟨HQ.out,fun x hx => ?_⟩
     obtain⟨l,hl,rfl⟩:=List.getElem_of_mem hx
     rw[←gt_eq L l hl];exact hV.out l hl⟩
end Go.Proofs.YtdcobapnlpeaaaaGreat
namespace Go.Proofs.YtdcobapnlpeaaaaGreat
open Go.RowKit
def gsOk (P:Pr) (L:List (List Int)):Prop:=rconsB P=true∧∀x∈L,Vec P.orders x
open Classical in
noncomputable def gsC (P:Pr) (L:List (List Int)):Int:=if gsOk P L then (if 24<L.length then 3 else 0) else 1
open Classical in
noncomputable def gsL (P:Pr) (L:List (List Int)):List (List Int):=if gsOk P L∧¬ 24<L.length then cseq P (gU P L) else []
theorem gs_bad {P:Pr}{L:List (List Int)} (h:¬gsOk P L):gsC P L=1∧gsL P L=[]:=by
 unfold gsC gsL;rw[if_neg h,if_neg (fun hh=>h hh.1)];exact⟨rfl,rfl⟩
theorem gs_big {P:Pr}{L:List (List Int)} (h:gsOk P L) (hl:24<L.length):gsC P L=3∧gsL P L=[]:=by
 unfold gsC gsL;rw[if_pos h,if_pos hl,if_neg (fun hh=>hh.2 hl)];exact⟨rfl,rfl⟩
theorem gs_ok {P:Pr}{L:List (List Int)} (h:gsOk P L) (hl:¬ 24<L.length):gsC P L=0∧gsL P L=cseq P (gU P L):=by
 unfold gsC gsL;rw[if_pos h,if_neg hl,if_pos ⟨h,hl⟩];exact⟨rfl,rfl⟩
set_option maxRecDepth 100000 in
set_option maxHeartbeats 4000000 in
theorem iGenSub_ok (P:Pr) (w:World) (pv lv:Value) (L:List (List Int)) (Sp Sr:Nat→Prop) (hpv:PresV Sp w pv P) (hl:Rows2 Sr w lv L) :
  Calls Tryz.prog 56 #[pv,lv] w (Ret w fun w' v=>∃a n c,v=.tuple #[.slice a n c,.int .i64 (gsC P L)]∧RowsO w.heap.size w' (.slice a n c) (gsL P L)):=by
 obtain⟨vo,vp,vc,rfl,h3⟩:=hpv
 have hp0:=PresP.box h3 28
 have hg0:Ext w (w.alloc (.cells #[vo,vp,vc] 28)):=World.grownBy_alloc _ _ _
 have hs0:(w.alloc (.cells #[vo,vp,vc] 28)).heap.size=w.heap.size+1:=by simp
 have hl0:=Rows2.ext hl hg0
 obtain⟨al,cl,rfl,_,_⟩:=Sl.shape hl
 have hE:=areElements_ok P _ _ _ L Any Sr hp0 hl0
 have HS:=Lib.hid hs0;clear hs0 hl
 go_enter Tryz.func56,Tryz.ntmps56
 go_wp2_with fail
 generalize hw0:w.alloc (.cells #[vo,vp,vc] 28)=w0 at *
 clear hw0
 refine Calls.mono hE ?_
 rintro e1 w1 ⟨v1,rfl,hg1,r1,rfl,hr1⟩
 clear hE
 cases r1 with
 | false=>
  have hbad:¬gsOk P L:=fun h=>by have:=hr1.2 h;cases this
  have HC:=Lib.hid (gs_bad hbad);clear hbad hr1
  go_wp2
  go_ret2
  exact⟨_,rfl,grown_trans hg0 hg1,none,0,0,by rw[HC.out.1];rfl,by rw[HC.out.2];exact SlO.nil _ _ _ _⟩
 | true=>
  have hok:gsOk P L:=hr1.1 rfl
  clear hr1
  by_cases hb:24<L.length
  ·have HC:=Lib.hid (gs_big hok hb);clear hok
   go_wp2
   go_ret2
   exact⟨_,rfl,grown_trans hg0 hg1,none,0,0,by rw[HC.out.1];rfl,by rw[HC.out.2];exact SlO.nil _ _ _ _⟩
  ·have HC:=Lib.hid (gs_ok hok hb)
   have G:=grp_of_r hok.1
   have HV:=Lib.hid hok.2;clear hok
   have hle:L.length≤24:=by omega
   go_wp2_with fail
   refine Calls.mono (generated_ok P G w1 _ _ L Any Sr (hp0.ext hg1) (Rows2.ext hl0 hg1) HV.out (by omega)) ?_
   rintro e2 w2 ⟨v2,rfl,hg2,hO⟩
   have hcl:(cseq P (gU P L)).length≤P.orders.length:=G.cseq_len (G.genP_sub HV.out)
   have hn6:=G.v.n6
   obtain⟨ac,nc,cc,hvc⟩:∃a n c,v2=Value.slice a n c:=by obtain⟨a,c,e,_⟩:=Sl.shape (RowsD.rows (SlO.toD hO (by show(cseq P (gU P L)).length≤_;omega)));exact⟨_,_,_,e⟩
   subst hvc
   have HO:=Lib.hid hO;clear hO hcl
   have hsz:=hg1.size
   go_wp2
   go_ret2
   exact⟨_,rfl,grown_trans hg0 (grown_trans hg1 hg2),_,_,_,by rw[HC.out.1];rfl,by rw[HC.out.2];exact HO.out.weak (by have:=HS.out;omega)⟩
end Go.Proofs.YtdcobapnlpeaaaaGreat
namespace Go.Proofs.YtdcobapnlpeaaaaGreat
open Go.RowKit
theorem sm_take_succ {α:Type} [Inhabited α] (f:α→Nat) (l:List α) (i:Nat) (hi:i<l.length):sm f (l.take (i+1))=sm f (l.take i)+f (gt l i):=by
 induction l generalizing i with
 | nil=>simp at hi
 | cons a l ih=>
  cases i with
  | zero=>simp[sm,gt]
  | succ i=>
   have h:=ih i (by simp at hi;omega)
   simp only[List.take_succ_cons,sm]
   rw[h]
   have e:gt (a :: l) (i+1)=gt l i:=by simp[gt]
   rw[e];omega
theorem sm_take_le {α:Type} (f:α→Nat) (l:List α) (i:Nat):sm f (l.take i)≤sm f l:=by
 induction l generalizing i with
 | nil=>simp
 | cons a l ih=>
  cases i with
  | zero=>simp[sm]
  | succ i=>have:=ih i;simp only[List.take_succ_cons,sm];omega
theorem dcs_zero {P:Pr}{U V:List (List Int)} (h:dcsC P U V=0):twoOk P U V∧¬ 128<ordP P:=by
 by_cases h1:twoOk P U V
 ·refine ⟨h1,fun h2 => ?_⟩
  rw[(dcs_big h1 h2).1] at h;exact absurd h (by decide)
 ·rw[(dcs_bad h1).1] at h;exact absurd h (by decide)
section
variable {P:Pr} (G:Grp P)
include G
theorem Grp.ord_le {U:List (List Int)} (hU:SubB P U):prodU P U U.length≤ordP P:=by
 have h1:=Go.Proofs.YtdcobapnlpeaaaaGreat.idx_mul G hU
 have h2:=G.v.ordP_pos
 obtain⟨z,hz⟩:∃z,z=szR P (frI P U).reverse:=⟨_,rfl⟩
 rw[←hz] at h1
 obtain⟨u,hu⟩:∃u,u=prodU P U U.length:=⟨_,rfl⟩
 rw[←hu] at h1 ⊢
 have hz0:1≤z:=by
  rcases Nat.eq_zero_or_pos z with h|h
  ·rw[h] at h1;simp at h1;omega
  ·exact h
 have hu0:0≤u:=by
  refine Decidable.byContradiction (fun hc => ?_)
  have:u*(z:Int)≤0:=Int.mul_nonpos_of_nonpos_of_nonneg (by omega) (by omega)
  omega
 have:u*1≤u*(z:Int):=Int.mul_le_mul_of_nonneg_left (by omega) hu0
 omega
theorem Grp.db_size {U V:List (List Int)} (h:twoOk P U V) (h2:¬ 128<ordP P):∃f:List Int→Nat,(∀x∈dcsL P U V,Vec P.orders x∧dcC P U V x=0∧dcV P U V x=(f x:Int)∧1≤f x)∧((sm f (dcsL P U V):Nat):Int)=ordP P:=by
 refine⟨fun x=>cd (dD (toE G (gP P U)) (toE G (gP P V)) (mkE G x)),fun x hx => ?_,?_⟩
 ·rw [(dcs_ok h h2).2] at hx
  have hV:=dcTo_mem G.v x hx
  refine⟨hV,(dc_ok ⟨h,hV⟩).1,?_,cd_pos' (dD_self (toE_sg (G:=G) (G.subB h.2.1)) (toE_sg (G:=G) (G.subB h.2.2)) _)⟩
  rw[(dc_ok ⟨h,hV⟩).2]
  exact G.dc_size h.2.1 (G.subB h.2.2) hV
 ·rw [(dcs_ok h h2).2]
  exact G.dc_total h.2.1 h.2.2
theorem Grp.db_fix {U V:List (List Int)} (h:twoOk P U V) (h2:¬ 128<ordP P):selC P V=0∧dcsC P V U=0∧∃g:List Int→Nat,(∀y∈selL P V,Vec P.orders y∧gsC P [y]=0∧SubB P (gsL P [y])∧fixN P U (gsL P [y])=g y)∧sm g (selL P V)=(dcsL P V U).length*(selL P V).length:=by
 have hl:=G.ord_le h.2.2
 have hs:=selL_ok (U:=V) ⟨h.1,h.2.2⟩ (by omega)
 have hVU:twoOk P V U:=⟨h.1,h.2.2,h.2.1⟩
 have hd:=dcs_ok hVU h2
 refine⟨hs.1,hd.1,fun y=>fixN P U (cseq P (gU P [y])),fun y hy => ?_,?_⟩
 ·rw [hs.2] at hy
  have hv:Vec P.orders y:=(G.subB h.2.2).vec y ((elemsIn_mem G.v (G.subB h.2.2).vec y).1 hy)
  have h1:∀x∈[y],Vec P.orders x:=fun x hx=>by rw[List.mem_singleton.1 hx];exact hv
  have hg:=gs_ok (P:=P) (L:=[y]) ⟨h.1,h1⟩ (by simp)
  refine⟨hv,hg.1,?_,by rw[hg.2]⟩
  rw[hg.2]
  exact G.subB_cseq (G.genP_sub h1)
 ·rw [hs.2,hd.2]
  exact G.burn_prog h.2.1 h.2.2
end
end Go.Proofs.YtdcobapnlpeaaaaGreat
namespace Go.Proofs.YtdcobapnlpeaaaaGreat
open Go.RowKit
theorem Ints.extA {S:Nat→Prop}{w w':World}{v:Value}{xs:List Int} (h:Ints S w v xs) (hg:Ext w w'):Ints Any w' v xs:=Ints.sub (Ints.ext h hg) (fun _ _ _=>trivial)
end Go.Proofs.YtdcobapnlpeaaaaGreat
namespace Go.Proofs.YtdcobapnlpeaaaaGreat
open Go.RowKit
set_option maxHeartbeats 400000 in
theorem likeInts_ok (v1 v2:Value) (l1 l2:List Int) (w:World) (S1 S2:Nat→Prop) (h1:Ints S1 w v1 l1) (h2:Ints S2 w v2 l2) :
  Calls Tryz.prog 26 #[v1,v2] w (Ret w fun _ v=>v=.bool (eqB l1 l2)):=by
 obtain⟨a,cap,rfl,_,_⟩:=h1.shape
 obtain⟨a2,cap2,rfl,_,_⟩:=h2.shape
 by_cases hl:l1.length=l2.length
 ·have hd:((l1.length:Int) != (l2.length:Int))=false:=by simp[hl]
  have hl1:l1.length≤l2.length∧l2.length≤l1.length:=by omega
  have HL:=Lib.hid hl;clear hl
  go_enter Tryz.func26,Tryz.ntmps26
  go_wp2
  go_loopw [5] (fun i wr=>∃k:Nat,i=.int .i64 k∧k≤l1.length∧Ext w wr∧∀i,i<k→gt l1 i=gt l2 i) (fun i _=>l1.length-(intOf i).toNat)
  case atStart=>exact⟨0,rfl,by omega,Ext.refl _,fun i hi=>by omega⟩
  case round=>
   obtain⟨k,rfl,hk,hg,hz⟩:=hrel
   have HZ:=Lib.hid hz;clear hz
   by_cases hlt:k<l1.length
   ·obtain ⟨b,off,rfl,_,_,hc⟩:=Ints.at (h1.ext hg) k hlt
    obtain⟨b2,off2,rfl,_,_,hc2⟩:=Ints.at (h2.ext hg) k (by omega)
    by_cases hx:gt l1 k=gt l2 k
    ·have hb:(gt l1 k != gt l2 k)=false:=by simp[hx]
     have hx2:=Lib.hid hx;clear hx
     go_wp2
     go_quiet (fail)
     go_wp2
     go_roundw
     case rel=>exact⟨k+1,by go_num,by omega,grown_trans hg (grown_drewN _ _ _),fun i hi=>by
      rcases Nat.lt_or_ge i k with h1|h1
      ·exact HZ.out i h1
      ·have:i=k:=by omega
       rw[this,hx2.out]⟩
     case measure=>simp[intOf];omega
    ·have hb:(gt l1 k != gt l2 k)=true:=by simp[hx]
     have hx2:=Lib.hid hx;clear hx
     go_wp2
     go_quiet (fail)
     go_wp2
     go_ret
     exact ret_bool (grown_trans hg (grown_drewN _ _ _)) (by rw[eqB_false_at (hx:=hx2.out)])
   ·go_wp2
    go_ret
    exact ret_bool hg (by rw[eqB_true.2 (ext_gt HL.out (fun i hi=>HZ.out i (by omega)))])
 ·have hd:((l1.length:Int) != (l2.length:Int))=true:=by simp;omega
  have HL:=Lib.hid hl;clear hl
  go_enter Tryz.func26,Tryz.ntmps26
  go_wp2
  go_ret
  exact ret_bool (Ext.refl _) (by rw[eqB_false.2 (fun h=>HL.out (by rw[h]))])
set_option maxRecDepth 100000 in
set_option maxHeartbeats 2000000 in
theorem like29_ok (v1 v2:Value) (l1 l2:List (List Int)) (w:World) (S1 S2:Nat→Prop) (h1:Rows2 S1 w v1 l1) (h2:Rows2 S2 w v2 l2) :
  Calls Tryz.prog 19 #[v1,v2] w (Ret w fun _ v=>v=.bool (eqB l1 l2)):=by
 obtain⟨a,cap,rfl,_,_⟩:=Sl.shape h1
 obtain⟨a2,cap2,rfl,_,_⟩:=Sl.shape h2
 by_cases hl:l1.length=l2.length
 ·have hd:((l1.length:Int) != (l2.length:Int))=false:=by simp[hl]
  have hl1:l1.length≤l2.length∧l2.length≤l1.length:=by omega
  have HL:=Lib.hid hl;clear hl
  go_enter Tryz.func19,Tryz.ntmps19
  go_wp2
  go_loopw [5] (fun i wr=>∃k:Nat,i=.int .i64 k∧k≤l1.length∧Ext w wr∧∀i,i<k→gt l1 i=gt l2 i) (fun i _=>l1.length-(intOf i).toNat)
  case atStart=>exact⟨0,rfl,by omega,Ext.refl _,fun i hi=>by omega⟩
  case round=>
   obtain⟨k,rfl,hk,hg,hz⟩:=hrel
   have HZ:=Lib.hid hz;clear hz
   by_cases hlt:k<l1.length
   ·obtain ⟨b,off,x1,c1,rfl,_,_,hc,hi1⟩:=Rows2.at (Rows2.ext h1 hg) k hlt
    obtain⟨b2,off2,x2,c2,rfl,_,_,hc2,hi2⟩:=Rows2.at (Rows2.ext h2 hg) k (by omega)
    have e1:∀w',Ext wr w'→w'.cell? ⟨b,off+k,none⟩=some (.slice x1 (gt l1 k).length c1):=fun w' h=>h.cell hc (by simp)
    have e2:∀w',Ext wr w'→w'.cell? ⟨b2,off2+k,none⟩=some (.slice x2 (gt l2 k).length c2):=fun w' h=>h.cell hc2 (by simp)
    clear hc hc2
    have hlt2:k<l2.length:=by omega
    go_wp2
    cases hx:eqB (gt l1 k) (gt l2 k) with
    | true=>
     have hx2:=Lib.hid hx
     go_region_held3 (fun w'=>Ext wr w') (first|exact grown_drew _ _|assumption)
      (first
       | (go_at_call 26;refine Calls.mono (Calls.rel (w0:=wr) (by assumption) (likeInts_ok _ _ _ _ _ Any Any ((Ints.extA hi1 (by assumption))) (Ints.extA hi2 (by assumption)))) ?_;rintro eA wA ⟨vA,rfl,hgA,hsA,rfl⟩))
     clear e1 e2
     go_wp2
     go_roundw
     case rel=>exact⟨k+1,by go_num,by omega,grown_trans hg hgA,fun i hi=>by
      rcases Nat.lt_or_ge i k with h1|h1
      ·exact HZ.out i h1
      ·have:i=k:=by omega
       rw[this];exact eqB_true.1 hx2.out⟩
     case measure=>simp[intOf];omega
    | false=>
     have hx2:=Lib.hid hx
     go_region_held3 (fun w'=>Ext wr w') (first|exact grown_drew _ _|assumption)
      (first
       | (go_at_call 26;refine Calls.mono (Calls.rel (w0:=wr) (by assumption) (likeInts_ok _ _ _ _ _ Any Any (Ints.extA hi1 (by assumption)) (Ints.extA hi2 (by assumption)))) ?_;rintro eA wA ⟨vA,rfl,hgA,hsA,rfl⟩))
     clear e1 e2
     go_wp2
     go_ret
     exact ret_bool (grown_trans hg hgA) (by rw[eqB_false_at (hx:=eqB_false.1 hx2.out)])
   ·go_wp2
    go_ret
    exact ret_bool hg (by rw[eqB_true.2 (ext_gt HL.out (fun i hi=>HZ.out i (by omega)))])
 ·have hd:((l1.length:Int) != (l2.length:Int))=true:=by simp;omega
  have HL:=Lib.hid hl;clear hl
  go_enter Tryz.func19,Tryz.ntmps19
  go_wp2
  go_ret
  exact ret_bool (Ext.refl _) (by rw[eqB_false.2 (fun e=>HL.out (by rw[e]))])
end Go.Proofs.YtdcobapnlpeaaaaGreat
namespace Go.Proofs.YtdcobapnlpeaaaaGreat
open Go.RowKit
set_option maxRecDepth 100000 in
set_option maxHeartbeats 2000000 in
theorem sOrder_ok (P:Pr) (hr:rconsB P=true) (w:World) (pv:Value) (Sp:Nat→Prop) (hpv:PresV Sp w pv P) :
  Calls Tryz.prog 146 #[pv] w (Ret w fun _ v=>v=.tuple #[.int .i64 (ordP P),.int .i64 0]):=by
 have G:=grp_of_r hr
 have hP:=G.v
 obtain⟨vo,vp,vc,rfl,h3⟩:=hpv
 have hp0:=PresP.box h3 28
 have hg0:Ext w (w.alloc (.cells #[vo,vp,vc] 28)):=World.grownBy_alloc _ _ _
 obtain⟨vo6,vp6,vc6,_,_,hc0,hc1,hc2,h36⟩:=hp0.at
 simp only[Nat.zero_add] at hc1 hc2
 have hE:=sIsPresentation_ok (w.alloc (.cells #[vo,vp,vc] 28)) (.agg #[vo6,vp6,vc6]) P Any ⟨_,_,_,rfl,h36⟩
 have hv:=validB_true hP
 rw[hv] at hE
 have hbx:∀w',Ext (w.alloc (.cells #[vo,vp,vc] 28)) w'→w'.cell? ⟨w.heap.size,0,none⟩=some vo6:=fun w' h=>h.cell hc0 (by simp)
 have HB:=Lib.hid hbx;clear hbx hv
 go_enter Tryz.func146,Tryz.ntmps146
 go_wp2_with fail
 clear hc0 hc1 hc2
 generalize w.alloc (.cells #[vo,vp,vc] 28)=w0 at *
 refine Calls.mono hE ?_
 rintro e1 w1 ⟨v1,rfl,hg1,rfl⟩
 clear hE
 have hb0:=HB.out w1 hg1
 have hob:∀i,i<P.orders.length→1≤gt P.orders i∧gt P.orders i≤7:=fun i hi=>by have:=hP.ord7 i hi;omega
 have hpr:=l07Product_ok w1 vo6 P.orders Any (h36.o.ext hg1) hob
 have hcap:capTo P.orders P.orders.length=ordP P:=by
  have h:=capTo_le P.orders.length (fun i hi=>(hob i hi).1)
  have h2:=hP.le729
  exact h.2 (h.1.2 h2)
 rw[hcap] at hpr
 have HPR:=Lib.hid hpr;clear hpr hcap hob
 go_wp2_with fail
 refine Calls.mono HPR.out ?_
 rintro _ _ ⟨rfl,rfl⟩
 go_wp2
 go_ret2
 exact⟨_,rfl,grown_trans hg0 hg1,rfl⟩
set_option maxRecDepth 100000 in
set_option maxHeartbeats 1000000 in
theorem size9_ok (P:Pr) (hr:rconsB P=true) (w:World) (pv:Value) (Sp:Nat→Prop) (hpv:PresV Sp w pv P) :
  Calls Tryz.prog 44 #[pv] w (Ret w fun _ v=>v=.int .i64 (ordP P)):=by
 have hrH:=Lib.hid hr;clear hr
 obtain⟨vo,vp,vc,rfl,h3⟩:=hpv
 have hp0:=PresP.box h3 28
 have hg0:Ext w (w.alloc (.cells #[vo,vp,vc] 28)):=World.grownBy_alloc _ _ _
 obtain⟨vo6,vp6,vc6,_,_,hc0,hc1,hc2,h36⟩:=hp0.at
 simp only[Nat.zero_add] at hc1 hc2
 clear hp0
 go_enter Tryz.func44,Tryz.ntmps44
 go_wp2_with fail
 clear hc0 hc1 hc2
 refine Calls.mono (sOrder_ok P hrH.out _ _ _ ⟨_,_,_,rfl,h36⟩) ?_
 rintro e1 w1 ⟨v1,rfl,hg1,rfl⟩
 go_wp2
 go_ret
 exact⟨_,rfl,grown_trans hg0 hg1,rfl⟩
end Go.Proofs.YtdcobapnlpeaaaaGreat
namespace Go.Proofs.YtdcobapnlpeaaaaGreat
open Go.Proofs Go.Shelf Go.RowKit Go.Lib
def Tryz.growRows_ren:Go.Shelf.Ren:=⟨fun|4=>253|n=>n,fun|22=>25|25=>24|3=>3|4=>4|9=>9|20=>20|0=>0|n=>n,fun|n=>n⟩
theorem Tryz.growRows:Go.Proofs.Lays8.n4 Tryz.prog Tryz.growRows_ren := {
  mixed:=by kernel_rfl
  f4:=⟨Tryz.f253.name,by decide,Tryz.func253.trans (congrArg some (by kernel_rfl))⟩
  t0:=Tryz.underlying0
  a0:=Tryz.isAgg0
  z0:=Tryz.sizeOf0
  v0:=Tryz.zeroValue0
  t3:=Tryz.underlying3
  a3:=Tryz.isAgg3
  z3:=Tryz.sizeOf3
  v3:=Tryz.zeroValue3
  t4:=Tryz.underlying4
  a4:=Tryz.isAgg4
  z4:=Tryz.sizeOf4
  v4:=Tryz.zeroValue4
  t9:=Tryz.underlying9
  a9:=Tryz.isAgg9
  z9:=Tryz.sizeOf9
  v9:=Tryz.zeroValue9
  t20:=Tryz.underlying20
  a20:=Tryz.isAgg20
  z20:=Tryz.sizeOf20
  v20:=Tryz.zeroValue20
  t22:=Tryz.underlying25
  a22:=Tryz.isAgg25
  z22:=Tryz.sizeOf25
  v22:=Tryz.zeroValue25 }
end Go.Proofs.YtdcobapnlpeaaaaGreat
namespace Go.Proofs.YtdcobapnlpeaaaaGreat
open Go.RowKit
set_option maxRecDepth 100000 in
set_option maxHeartbeats 4000000 in
theorem indexCode_ok (P:Pr) (hr:rconsB P=true) (w:World) (p uv:Value) (U:List (List Int)) (Sp Su:Nat→Prop) (hp:PresP Sp w p P) (hu:Rows2 Su w uv U) (hU:SubB P U) (h128:ordP P≤128) :
  Calls Tryz.prog 179 #[p,uv] w (Ret w fun _ v=>v=.int .i64 0):=by
 have G:=grp_of_r hr
 have hn6:=G.v.n6
 have hop:=G.v.ordP_pos
 obtain⟨pb,po,rfl⟩:=hp.shape
 obtain⟨au,capu,rfl,_,_⟩:=Sl.shape hu
 have hg1:Ext w (w.alloc (.cells #[.slice au U.length capu] 25)):=World.grownBy_alloc _ _ _
 have hl:=rows3One hu
 have hcon:=areSubgroups_ok P _ _ _ [U] Sp Any (hp.ext hg1) hl
 have hulU:U.length≤P.orders.length:=G.sub_len hU
 have HH:=Lib.hid (And.intro hr (And.intro hU hl));clear hr hU hl
 go_enter Tryz.func179,Tryz.ntmps179
 go_wp2_with fail
 refine Calls.mono hcon ?_
 rintro e1 w1 ⟨v1,rfl,hgA,r1,rfl,hr1⟩
 clear hcon
 obtain rfl:r1=true:=hr1.2 (by have:=HH.out;simp only[List.mem_cons,List.mem_nil_iff,or_false];exact⟨this.1,fun u hu=>by subst hu;exact this.2.1⟩)
 clear hr1
 have hg01:=grown_trans hg1 hgA
 clear hg1 hgA
 have hp1:=hp.ext hg01
 have hu1:=Rows2.ext hu hg01
 have hfac:=G.seq_facts (G.subB HH.out.2.1)
 rw[←HH.out.2.1.2] at hfac
 have HF:=Lib.hid hfac;clear hfac
 go_wp2_with fail
 refine Calls.mono (orderOf_ok w1 _ P Sp G.v hp1) ?_
 rintro _ _ ⟨rfl,rfl⟩
 go_wp2_with fail
 refine Calls.mono (sizeOf_ok P G.v w1 _ _ U Sp Su hp1 hu1 HF.out.1 (by omega)) ?_
 rintro e2 w2 ⟨v2,rfl,hg2,rfl⟩
 have h729:=prodU_729 G.v HF.out.1 U.length (Nat.le_refl _)
 obtain⟨y,hy⟩:∃y,y=prodU P U U.length:=⟨_,rfl⟩
 obtain⟨x,hx⟩:∃x,x=ordP P:=⟨_,rfl⟩
 rw[←hy] at h729 ⊢
 rw[←hx] at h128 hop ⊢
 have hy0:y≠0:=by omega
 have htd:x.tdiv y=x/y:=Int.tdiv_eq_ediv_of_nonneg (by omega)
 have hd1:0≤x/y:=Int.ediv_nonneg (by omega) (by omega)
 have hd2:x/y≤128:=Int.le_trans (Int.ediv_le_self _ (by omega)) (by omega)
 have hwr:IntKind.i64.wrap (x/y)=x/y:=IntWalk.i64_in _ (by omega)
 have hng:¬ 128<x/y:=by omega
 clear hx hy
 go_wp2
 go_ret
 exact⟨_,rfl,grown_trans hg01 hg2,rfl⟩
end Go.Proofs.YtdcobapnlpeaaaaGreat
namespace Go.Proofs.YtdcobapnlpeaaaaGreat
open Go.RowKit
set_option maxRecDepth 100000 in
set_option maxHeartbeats 1000000 in
theorem indexI_ok (l:List Int) (x:Int) (w:World) (v:Value) (S:Nat→Prop) (hv:Ints S w v l) :
  Calls Tryz.prog 334 #[v,.int .i64 x] w (Ret w fun _ r=>∃k:Int,r=.int .i64 k∧(0≤k↔x∈l)):=by
 obtain⟨a,c,rfl,_,_⟩:=hv.shape
 have HV:=Lib.hid hv;clear hv
 go_enter Tryz.func334,Tryz.ntmps334
 go_wp2
 go_loopw [8] (fun iv wr=>∃i:Nat,iv=.int .i64 i∧i≤l.length∧Ext w wr∧Hid (∀j,j<i→gt l j≠x)) (fun iv _=>l.length-(intOf iv).toNat)
 case atStart=>exact⟨0,by go_num,by omega,Ext.refl _,Lib.hid (fun j hj=>by omega)⟩
 case round=>
  obtain⟨i,rfl,hi,hg,hN⟩:=hrel
  by_cases hlt:i<l.length
  ·have hlt':(i:Int)<l.length:=by omega
   obtain⟨b,o,hab,_,_,hc⟩:=Ints.at HV.out i hlt
   subst hab
   have hcr:=hg.cell hc (by simp)
   by_cases he:gt l i=x
   ·have hd:x∈l:=by rw[←he];exact gt_mem hlt
    rw[he] at hcr
    have HD:=Lib.hid hd;clear hd he hc
    go_wp2
    go_ret
    exact⟨_,rfl,hg,(i:Int),rfl,⟨fun _=>HD.out,fun _=>by omega⟩⟩
   ·have hne:(x == gt l i)=false:=by
     have:¬x=gt l i:=fun e=>he e.symm
     simpa using this
    have hN2:∀j,j<i+1→gt l j≠x:=fun j hj=>by
     rcases Nat.lt_succ_iff_lt_or_eq.1 hj with h|h
     ·exact hN.out j h
     ·rw[h];exact he
    have HN2:=Lib.hid hN2;clear hN2 he hc hN
    generalize gt l i=y at *
    go_wp2
    clear hne
    go_roundw
    case rel=>exact⟨i+1,by go_num,by omega,hg,HN2⟩
    case measure=>simp[intOf];omega
  ·have hie:i=l.length:=by omega
   have hd:¬x∈l:=fun h=>by
    obtain⟨j,hj,e⟩:=mem_gt h
    exact hN.out j (by omega) e
   have hnl:¬(i:Int)<l.length:=by omega
   have HD:=Lib.hid hd;clear hd hie hN
   go_wp2
   go_ret
   exact⟨_,rfl,hg,-1,rfl,⟨fun h=>by omega,fun h=>absurd h HD.out⟩⟩
set_option maxRecDepth 100000 in
set_option maxHeartbeats 1000000 in
theorem containsI_ok (l:List Int) (x:Int) (w:World) (v:Value) (S:Nat→Prop) (hv:Ints S w v l) :
  Calls Tryz.prog 300 #[v,.int .i64 x] w (Ret w fun _ r=>r=.bool (decide (x∈l))):=by
 have hi:=indexI_ok l x w v S hv
 obtain⟨a,c,rfl,_,_⟩:=hv.shape
 go_enter Tryz.func300,Tryz.ntmps300
 go_wp2_with fail
 refine Calls.mono hi ?_
 rintro e1 w1 ⟨v1,rfl,hg1,k,rfl,hk⟩
 have HK:=Lib.hid hk;clear hk hi
 go_wp2
 go_ret
 refine⟨_,rfl,hg1,?_⟩
 show Value.bool (decide (0≤k))=_
 rw[decide_eq_decide.2 HK.out]
def idxV (l:List Nat):List Value:=l.map (fun i:Nat=>Value.int .i64 (i:Int))
def frT (U:List (List Int)) (k:Nat):List Nat:=(List.range k).filter (fun i => !(U.map dep).contains i)
theorem frT_yes {U:List (List Int)}{k:Nat} (h:¬k∈U.map dep):frT U (k+1)=frT U k++[k]:=by
 unfold frT
 rw[List.range_succ,List.filter_append,List.filter_cons_of_pos (by simpa using h),List.filter_nil]
theorem frT_no {U:List (List Int)}{k:Nat} (h:k∈U.map dep):frT U (k+1)=frT U k:=by
 unfold frT
 rw[List.range_succ,List.filter_append,List.filter_cons_of_neg (by simpa using h),List.filter_nil,List.append_nil]
theorem frT_len (U:List (List Int)) (k:Nat):(frT U k).length≤k:=by
 unfold frT;exact Nat.le_trans (List.length_filter_le _ _) (by rw[List.length_range];exact Nat.le_refl _)
theorem depV_map (U:List (List Int)):depV U=(U.map (fun z=>(dep z:Int))).map (Value.int .i64):=by unfold depV;rw[List.map_map];rfl
theorem dep_mem {U:List (List Int)}{k:Nat} : ((k:Nat):Int)∈U.map (fun z=>(dep z:Int))↔k∈U.map dep:=by
 rw[List.mem_map,List.mem_map]
 constructor
 ·rintro⟨z,hz,e⟩;exact⟨z,hz,by omega⟩
 ·rintro⟨z,hz,e⟩;exact⟨z,hz,by rw[e]⟩
set_option maxRecDepth 100000 in
set_option maxHeartbeats 2000000 in
theorem otherIndices_ok (P:Pr) (hn6:P.orders.length≤6) (w:World) (p uv:Value) (U:List (List Int)) (Sp Su:Nat→Prop) (hp:PresP Sp w p P) (hu:Rows2 Su w uv U) (hU:∀z∈U,dep z<z.length) (hul:U.length≤6) :
  Calls Tryz.prog 256 #[p,uv] w (Ret w fun w' r=>OwnV w.heap.size 3 w' r (idxV (frI P U))):=by
 obtain⟨pb,po,rfl⟩:=hp.shape
 have hp0:=hp
 obtain⟨ao,co,hco,hoi⟩:=hp.ordAt
 obtain⟨au,capu,rfl,_,_⟩:=Sl.shape hu
 go_enter Tryz.func256,Tryz.ntmps256
 go_wp2_with fail
 refine Calls.mono (pivots_ok _ U w Su hu hU (by omega)) ?_
 rintro e1 w1 ⟨v1,rfl,hg1,hO⟩
 have hdl:(depV U).length≤6:=by unfold depV;rw[List.length_map];exact hul
 rw[depV_map] at hO hdl
 have hI:=ints_of_ownV (S:=Any) hO (by rw[List.length_map];rw[List.length_map] at hdl;omega) (fun _ _=>trivial)
 obtain⟨dv,hdv⟩:∃dv,dv=U.map (fun z=>(dep z:Int)):=⟨_,rfl⟩
 rw[←hdv] at hI
 obtain⟨da,dc,rfl,_,_⟩:=hI.shape
 have hIx:∀w',Ext w1 w'→Ints Any w' (.slice da dv.length dc) dv:=fun w' h=>Ints.ext hI h
 have HI:=Lib.hid (And.intro hdv hIx);clear hdv hIx hI hO hdl
 have hc1:=hg1.cell hco (by simp)
 obtain⟨N,hN⟩:∃N,N=P.orders.length:=⟨_,rfl⟩
 rw[←hN] at hn6 hc1
 have HN:=Lib.hid hN;clear hN
 obtain⟨wk,rfl⟩:∃wk:World,wk=w1:=⟨_,rfl⟩
 go_wp2
 go_loopw [6,15] (fun ov iv wr=>∃(k:Nat) (v4:Value),v4=ov∧iv=.int .i64 k∧k≤N∧Ext wk wr∧OwnV wk.heap.size 3 wr v4 (idxV (frT U k))) (fun _ iv _=>N-(intOf iv).toNat)
 case atStart=>exact⟨0,_,rfl,rfl,by omega,Ext.refl _,World.ownsRow_nil _ _ _ _⟩
 case round=>
  obtain⟨k,v4,rfl,rfl,hk,hg,hO⟩:=hrel
  by_cases hlt:k<N
  ·have hlt':(k:Int)<N:=by omega
   have hfl:=frT_len U k
   have hvl:(idxV (frT U k)).length≤1000000:=by unfold idxV;rw[List.length_map];omega
   by_cases hm:k∈U.map dep
   ·have hst:=frT_no hm
    have hd:decide (((k:Nat):Int)∈dv)=true:=by rw[HI.out.1];exact decide_eq_true (dep_mem.2 hm)
    have HS:=Lib.hid hst;clear hst hm
    go_wp2_with fail
    refine Calls.mono (containsI_ok dv (k:Int) wr _ Any (HI.out.2 wr hg)) ?_
    rintro e2 w2 ⟨v2,rfl,hg2,rfl⟩
    rw[hd];clear hd
    have hO2:=World.ownsRow.kept hO hg2 (by cases hv:v4.ownBlock<;>simp)
    have hgn:=grown_trans hg hg2
    go_wp2
    go_roundw
    case rel=>exact⟨k+1,v4,rfl,by go_num,by omega,hgn,by rw[HS.out];exact hO2⟩
    case measure=>simp[intOf];omega
   ·have hst:idxV (frT U (k+1))=idxV (frT U k)++[.int .i64 (k:Int)]:=by rw[frT_yes hm];unfold idxV;rw[List.map_append];rfl
    have hd:decide (((k:Nat):Int)∈dv)=false:=by rw[HI.out.1];exact decide_eq_false (fun h=>hm (dep_mem.1 h))
    have HS:=Lib.hid hst;clear hst hm
    go_wp2_with fail
    refine Calls.mono (containsI_ok dv (k:Int) wr _ Any (HI.out.2 wr hg)) ?_
    rintro e2 w2 ⟨v2,rfl,hg2,rfl⟩
    rw[hd];clear hd
    have hO2:=World.ownsRow.kept hO hg2 (by cases hv:v4.ownBlock<;>simp)
    have hgn:=grown_trans hg hg2
    go_wp2_with (first|(at_builtin;refine wp_app_val 113 3 (.int .i64 0) 8 und_intsG Tryz.infoIntG rfl (by decide) rfl _ _ rfl wk.heap.size v4 _ (idxV (frT U k)) rfl w2 hO2 rfl rfl rfl hvl hgn.size ?_;intro v5 w5 hO5 hg5)|fail)
    have hg6:Ext wk w5:=grown_own hgn hg5 (fun j hj hlt=>by have:=(hO2.lt j hj).1;omega)
    go_roundw
    case rel=>exact⟨k+1,v5,rfl,by go_num,by omega,hg6,by rw[HS.out];exact hO5⟩
    case measure=>simp[intOf];omega
  ·have hke:k=N:=by omega
   subst hke
   have he:frT U k=frI P U:=by unfold frT frI;rw[HN.out]
   have hfl:=frT_len U k
   have hsh:∃az capz,v4=.slice az (frT U k).length capz:=by
    rcases hO.form with⟨h1,h2⟩|⟨g,cp,h1,_⟩
    ·have h3:(frT U k).length=0:=by unfold idxV at h2;rw[List.map_eq_nil_iff] at h2;rw[h2];rfl
     exact⟨none,0,by rw[h1,h3]⟩
    ·exact⟨_,_,by rw[h1];unfold idxV;rw[List.length_map]⟩
   obtain⟨az,capz,rfl⟩:=hsh
   have hgw:=grown_trans hg1 hg
   have hfin:OwnV w.heap.size 3 wr (.slice az (frT U k).length capz) (idxV (frI P U)):=by rw[←he];exact hO.weak hg1.size
   have HF:=Lib.hid hfin;clear hfin he hO
   go_wp2
   go_ret
   exact⟨_,rfl,hgw,HF.out⟩
end Go.Proofs.YtdcobapnlpeaaaaGreat
namespace Go.Proofs.YtdcobapnlpeaaaaGreat
open Go.RowKit
theorem trT_snoc (P:Pr) (l:List Nat) (i:Nat):trT P (l++[i])=trS P (trT P l) i:=by unfold trT;rw[List.foldl_append];rfl
theorem trS_len (P:Pr) (out:List (List Int)) (i:Nat):(trS P out i).length=out.length*ordN' P i:=by
 unfold trS
 exact flatMap_len' _ _ _ (fun x _=>by rw[List.length_map,List.length_range])
theorem trT_len (P:Pr) (h7:∀i,i<P.orders.length→ordN' P i≤7):∀l:List Nat,(∀i∈l,i<P.orders.length)→(trT P l.reverse).length≤7 ^ l.length
 | [],_=>by simp[trT]
 | i :: l,h=>by
  rw[List.reverse_cons,trT_snoc,trS_len,List.length_cons,Nat.pow_succ]
  exact Nat.mul_le_mul (trT_len P h7 l (fun j hj=>h j (List.mem_cons_of_mem _ hj))) (h7 i (h i (List.mem_cons_self ..)))
theorem trT_row (P:Pr):∀l:List Nat,∀x∈trT P l.reverse,x.length=P.orders.length
 | [],x,hx=>by
  have:x=zeros P.orders.length:=by simpa [trT] using hx
  rw[this];simp[zeros]
 | i :: l,x,hx=>by
  rw[List.reverse_cons,trT_snoc] at hx
  unfold trS at hx
  obtain⟨y,hy,hx⟩:=List.mem_flatMap.1 hx
  obtain⟨e,_,rfl⟩:=List.mem_map.1 hx
  rw[List.length_set];exact trT_row P l y hy
theorem trT_bd (P:Pr) (h7:∀i,i<P.orders.length→ordN' P i≤7) (l:List Nat) (hl:l.length≤6) (h:∀i∈l,i<P.orders.length):(trT P l).length≤117649∧∀x∈trT P l,x.length=P.orders.length:=by
 have h1:=trT_len P h7 l.reverse (fun i hi=>h i (List.mem_reverse.1 hi))
 have h2:=trT_row P l.reverse
 rw[List.reverse_reverse] at h1 h2
 rw[List.length_reverse] at h1
 exact⟨Nat.le_trans h1 (Nat.pow_le_pow_right (by decide) hl),h2⟩
set_option maxRecDepth 100000 in
set_option maxHeartbeats 4000000 in
theorem transversal_ok (P:Pr) (G:Grp P) (w:World) (p uv:Value) (U:List (List Int)) (Sp Su:Nat→Prop) (hp:PresP Sp w p P) (hu:Rows2 Su w uv U) (hU:SubB P U) :
  Calls Tryz.prog 180 #[p,uv] w (Ret w fun w' v=>RowsO w.heap.size w' v (trT P (frI P U))):=by
 have hP:=G.v
 have hn6:=hP.n6
 obtain⟨pb,po,rfl⟩:=hp.shape
 obtain⟨ao,capo,hco0,hoi⟩:=hp.ordAt
 obtain⟨au,capu,rfl,_,_⟩:=Sl.shape hu
 have hul:U.length≤6:=by have:=G.sub_len hU;omega
 have hUz:∀z∈U,dep z<z.length:=fun z hz=>by
  have h1:=(G.seq_facts (G.subB hU)).1
  rw[←hU.2] at h1
  have:=h1.1 z hz;rw[this.1.1];exact this.2.1
 have hord:∀i,i<P.orders.length→gt P.orders i=((ordN' P i:Nat):Int)∧ordN' P i≤7:=fun i hi=>by
  have:=hP.ord7 i hi;unfold ordN';omega
 have hfi:∀i∈frI P U,i<P.orders.length:=fun i hi=>(frI_mem.1 hi).1
 have hfl:(frI P U).length≤6:=by
  have:=frT_len U P.orders.length
  have e:frT U P.orders.length=frI P U:=rfl
  rw[e] at this;omega
 have hbd:∀k,(trT P ((frI P U).take k)).length≤117649∧∀x∈trT P ((frI P U).take k),x.length=P.orders.length:=fun k=>
  trT_bd P (fun i hi=>(hord i hi).2) _ (by rw[List.length_take];omega) (fun i hi=>hfi i (List.mem_of_mem_take hi))
 obtain⟨m,hm⟩:∃m,m=(frI P U).length:=⟨_,rfl⟩
 rw[←hm] at hfl
 have HB:=Lib.hid (And.intro hbd (And.intro hord (And.intro hfi hm)));clear hbd hord hfi hm hU
 go_enter Tryz.func180,Tryz.ntmps180
 go_wp2_with (first|(at_make;refine wp_make_ints rfl _ _ rfl w.heap.size P.orders.length w.heap.size rfl _ rfl rfl rfl (by omega) (Nat.le_refl _) ?_;intro w1 ho1 hg1 hlt1)|fail)
 have hz1:OwnIn (From w.heap.size) w1 (.slice (some ⟨w.heap.size,0,none⟩) P.orders.length P.orders.length) (zeros P.orders.length):=OwnIn.of ho1 (by simp[zeros];omega) (fun j h1 _=>h1)
 have hO1:=rowsOne hz1 hg1.size
 have hga:Ext w1 (w1.alloc (.cells #[.slice (some ⟨w.heap.size,0,none⟩) P.orders.length P.orders.length] 24)):=World.grownBy_alloc _ _ _
 have hg2:=grown_trans hg1 hga
 clear ho1 hz1 hga hg1 hlt1
 generalize hw2:w1.alloc (.cells #[.slice (some ⟨w.heap.size,0,none⟩) P.orders.length P.orders.length] 24)=w2 at *
 clear hw2
 refine Calls.mono (otherIndices_ok P hn6 w2 _ _ U Sp Su (hp.ext hg2) (Rows2.ext hu hg2) hUz hul) ?_
 rintro e3 w3 ⟨iv,rfl,hg3,hV3⟩
 have hg03:=grown_trans hg2 hg3
 have hO3:=SlO.ext rdOwn hO1 hg3
 clear hO1 hg2 hg3 hUz
 have hivs:∃az capz,iv=.slice az m capz:=by
  rcases hV3.form with⟨h1,h2⟩|⟨g,cp,h1,_⟩
  ·have h3:m=0:=by unfold idxV at h2;rw[List.map_eq_nil_iff] at h2;rw[HB.out.2.2.2,h2];rfl
   exact⟨none,0,by rw[h1,h3]⟩
  ·exact⟨_,_,by rw[h1];unfold idxV;rw[List.length_map,←HB.out.2.2.2]⟩
 obtain⟨ai,capi,rfl⟩:=hivs
 have hIi:Ints Any w3 (.slice ai m capi) ((frI P U).map (fun i:Nat=>(i:Int))):=by
  have e:idxV (frI P U)=((frI P U).map (fun i:Nat=>(i:Int))).map (Value.int .i64):=by unfold idxV;rw[List.map_map];rfl
  rw[e] at hV3
  exact ints_of_ownV hV3 (by rw[List.length_map,←HB.out.2.2.2];omega) (fun _ _=>trivial)
 have HI:=Lib.hid hIi;clear hIi hV3
 have hO3:RowsO w.heap.size w3 _ (trT P ((frI P U).take 0)):=hO3
 go_wp2
 go_loopw [5,24] (fun ov jv wr=>∃(k:Nat) (v5:Value),v5=ov∧jv=.int .i64 k∧k≤m∧Ext w3 wr∧RowsO w.heap.size wr v5 (trT P ((frI P U).take k))) (fun _ jv _=>m-(intOf jv).toNat)
 case atStart=>exact⟨0,_,rfl,rfl,by omega,Ext.refl _,hO3⟩
 case round=>
  clear hO3
  obtain⟨k,v5,rfl,rfl,hk,hg,hO⟩:=hrel
  by_cases hlt:k<m
  ·have hlt':(k:Int)<m:=by omega
   have hkl:k<(frI P U).length:=by rw[←HB.out.2.2.2];exact hlt
   obtain⟨bi,oi,hai,_,_,hci⟩:=Ints.at (Ints.ext HI.out hg) k (by rw[List.length_map];exact hkl)
   subst hai
   rw[gt_map _ _ _ hkl] at hci
   obtain⟨i,hi⟩:∃i,i=gt (frI P U) k:=⟨_,rfl⟩
   have hin:i<P.orders.length:=by rw[hi];exact HB.out.2.2.1 _ (gtMem hkl)
   obtain⟨ho1,ho7⟩:=HB.out.2.1 i hin
   obtain⟨o,ho⟩:∃o,o=ordN' P i:=⟨_,rfl⟩
   obtain⟨X,hX⟩:∃X,X=trT P ((frI P U).take k):=⟨_,rfl⟩
   have hXb:=HB.out.1 k
   have hXn:trT P ((frI P U).take (k+1))=X.flatMap (fun x=>(List.range o).map (fun e:Nat=>x.set i (e:Int))):=by
    rw[take_succ_gt _ k hkl,trT_snoc,←hX,←hi,ho];rfl
   have hXb2:=HB.out.1 (k+1)
   rw[hXn] at hXb2
   rw[←hi] at hci
   rw[←ho] at ho1 ho7
   rw[←hX] at hO hXb
   have hXr:=RowsD.rows (SlO.toD hO (by omega))
   obtain⟨ax,capx,hv5,_⟩:=Sl.shape hXr
   subst hv5
   obtain⟨wo,rfl⟩:∃wo:World,wo=wr:=⟨_,rfl⟩
   have hgw:=grown_trans hg03 hg
   have hXr2:Rows2 Any wo (.slice ax X.length capx) X:=Rows2.sub hXr (fun _ _ _=>trivial)
   obtain⟨bo,oo,hao,_,_,hcod⟩:=Ints.at (hoi.ext hgw) i hin
   subst hao
   rw[ho1] at hcod
   have hc0:=hgw.cell hco0 (by simp)
   have hin':(i:Int)<P.orders.length:=by omega
   have HX:=Lib.hid (And.intro hXn (And.intro hXb (And.intro hXb2 (And.intro hXr2 (And.intro hc0 hcod)))));clear hXn hXb hXb2 hXr2 hXr hc0 hcod hX hi ho ho1 hO hkl
   have hXl:X.length≤117649:=HX.out.2.1.1
   go_wp2
   clear hci
   go_loopw [8,30] (fun nv jv wr=>∃(j:Nat) (v8:Value),v8=nv∧jv=.int .i64 j∧j≤X.length∧Ext wo wr∧RowsO wo.heap.size wr v8 ((X.take j).flatMap (fun x=>(List.range o).map (fun e:Nat=>x.set i (e:Int))))) (fun _ jv _=>X.length-(intOf jv).toNat)
   case atStart=>exact⟨0,_,rfl,rfl,by omega,Ext.refl _,SlO.nil _ _ _ _⟩
   case round=>
    obtain⟨j,v8,rfl,rfl,hj,hgj,hA⟩:=hrel
    by_cases hjl:j<X.length
    ·have hjl':(j:Int)<X.length:=by omega
     obtain⟨bx,ox,ar,cr,hax,_,_,hcx,hxi⟩:=Rows2.at HX.out.2.2.2.1 j hjl
     subst hax
     have hcx:=hgj.cell hcx (by simp)
     have hxl:=HX.out.2.1.2 _ (gtMem hjl)
     have hc0:=hgj.cell HX.out.2.2.2.2.1 (by simp)
     have hcod:=hgj.cell HX.out.2.2.2.2.2 (by simp)
     have hst:(X.take (j+1)).flatMap (fun x=>(List.range o).map (fun e:Nat=>x.set i (e:Int)))=(X.take j).flatMap (fun x=>(List.range o).map (fun e:Nat=>x.set i (e:Int)))++(List.range o).map (fun e:Nat=>(gt X j).set i (e:Int)):=by
      rw[take_succ_gt X j hjl,List.flatMap_append,List.flatMap_singleton]
     have hpl:((X.take j).flatMap (fun x=>(List.range o).map (fun e:Nat=>x.set i (e:Int)))).length≤117649*7:=by
      rw[flatMap_len' _ _ o (fun x _=>by rw[List.length_map,List.length_range]),List.length_take]
      exact Nat.mul_le_mul (by omega) ho7
     obtain⟨x,hx⟩:∃x,x=gt X j:=⟨_,rfl⟩
     obtain⟨L,hL⟩:∃L,L=(X.take j).flatMap (fun x=>(List.range o).map (fun e:Nat=>x.set i (e:Int))):=⟨_,rfl⟩
     rw[←hx] at hcx hxi hxl hst
     rw[←hL] at hst hpl hA
     have hxi2:∀w',Ext wo w'→Ints Any w' (.slice ar x.length cr) x:=fun w' h=>Ints.sub (Ints.ext hxi h) (fun _ _ _=>trivial)
     obtain⟨wj,rfl⟩:∃wj:World,wj=wr:=⟨_,rfl⟩
     have HJ:=Lib.hid (And.intro hst (And.intro hL (And.intro hx (And.intro hxi2 hxl))));clear hst hL hx hxi2 hxi hxl
     go_wp2
     clear hc0 hcod hcx
     go_loopw [8,41] (fun nv tv wr=>∃(e:Nat) (v9:Value),v9=nv∧tv=.int .i64 e∧e≤o∧Ext wo wr∧RowsO wo.heap.size wr v9 (L++(List.range e).map (fun e:Nat=>x.set i (e:Int)))) (fun _ tv _=>o-(intOf tv).toNat)
     case atStart=>exact⟨0,_,rfl,rfl,by omega,hgj,by rw[List.range_zero,List.map_nil,List.append_nil];exact hA⟩
     case round=>
      clear hA
      obtain⟨e,v9,rfl,rfl,he,hge,hA⟩:=hrel
      by_cases hel:e<o
      ·have hel':(e:Int)<o:=by omega
       have hst:L++(List.range (e+1)).map (fun e:Nat=>x.set i (e:Int))=(L++(List.range e).map (fun e:Nat=>x.set i (e:Int)))++[x.set i (e:Int)]:=by
        rw[List.range_succ,List.map_append,List.append_assoc];rfl
       have hll:(L++(List.range e).map (fun e:Nat=>x.set i (e:Int))).length≤1000000:=by
        rw[List.length_append,List.length_map,List.length_range];omega
       obtain⟨M,hM⟩:∃M,M=L++(List.range e).map (fun e:Nat=>x.set i (e:Int)):=⟨_,rfl⟩
       rw[←hM] at hst hll hA
       have HE:=Lib.hid hst;clear hst hM
       obtain⟨wr0,rfl⟩:∃wr0:World,wr0=wr:=⟨_,rfl⟩
       go_wp2_with fail
       refine Calls.mono (clone_ok wr0 _ x Any (HJ.out.2.2.2.1 wr0 hge) (by have:=HJ.out.2.2.2.2;omega)) ?_
       rintro e6 w6 ⟨v6,rfl,hg6,hO6⟩
       have hxl:=HJ.out.2.2.2.2
       obtain⟨g6,c6,rfl,hb6,hlt6⟩:=hO6.form (by omega)
       have hcl:=hO6.cell i (by omega)
       have hfz:=hO6.frozen i
       have hs6:=hO6.store i (e:Int)
       have hxl':(i:Int)<x.length:=by omega
       have hYO:OwnIn (From wr0.heap.size) (w6.setCell ⟨g6,i,none⟩ (.int .i64 e)) (.slice (some ⟨g6,0,none⟩) x.length c6) (x.set i (e:Int)):=OwnIn.of hs6.1 (by rw[List.length_set];omega) (fun j h1 _=>h1)
       have hg7:Ext wr0 (w6.setCell ⟨g6,i,none⟩ (.int .i64 e)):=grown_own hg6 hs6.2 (fun j hj hlt=>by have:=Option.some.inj hj;omega)
       have hsz:(w6.setCell ⟨g6,i,none⟩ (.int .i64 e)).heap.size=w6.heap.size:=by simp[World.setCell]
       have HY:=Lib.hid (And.intro hYO hsz);clear hYO hs6 hxl hsz
       go_wp2_with (first|(at_builtin;refine wp_app_row rfl _ _ rfl wo.heap.size wr0 (w6.setCell ⟨g6,i,none⟩ (.int .i64 e)) v9 _ M (x.set i (e:Int)) rfl hA hg7 HY.out.1 rfl (by rw[HY.out.2];rfl) hll hge.size ?_;intro v8 w8 hO8 hg8 _)|fail)
       have hgn:Ext wo w8:=grown_own hge hg8 (fun j hj hlt=>by have:=(hA.lt j hj).1;omega)
       go_roundw
       case rel=>exact⟨e+1,v8,rfl,by go_num,by omega,hgn,by rw[HE.out];exact hO8⟩
       case measure=>simp[intOf];omega
      ·have heo:e=o:=by omega
       subst heo
       have hfin:RowsO wo.heap.size wr v9 ((X.take (j+1)).flatMap (fun x=>(List.range e).map (fun e:Nat=>x.set i (e:Int)))):=by rw[HJ.out.1];exact hA
       have HF:=Lib.hid hfin;clear hfin hA
       have hgn:=hge
       go_wp2
       go_roundw
       case rel=>exact⟨j+1,v9,rfl,by go_num,by omega,hgn,HF.out⟩
       case measure=>simp[intOf];omega
    ·have hje:j=X.length:=by omega
     subst hje
     rw[List.take_length] at hA
     have hfin:RowsO w.heap.size wr v8 (trT P ((frI P U).take (k+1))):=by rw[HX.out.1];exact hA.weak hgw.size
     have HF:=Lib.hid hfin;clear hfin hA
     have hgn:=grown_trans hg hgj
     go_wp2
     go_roundw
     case rel=>exact⟨k+1,v8,rfl,by go_num,by omega,hgn,HF.out⟩
     case measure=>simp[intOf];omega
  ·have hke:k=m:=by omega
   subst hke
   have hfin:RowsO w.heap.size wr v5 (trT P (frI P U)):=by
    have e:(frI P U).take k=frI P U:=by rw[HB.out.2.2.2];exact List.take_length
    rw[e] at hO;exact hO
   have HF:=Lib.hid hfin;clear hfin hO
   have hgw:=grown_trans hg03 hg
   go_wp2
   go_ret
   exact⟨_,rfl,hgw,HF.out⟩
end Go.Proofs.YtdcobapnlpeaaaaGreat
namespace Go.Proofs.YtdcobapnlpeaaaaGreat
open Go.RowKit
open Classical
set_option maxRecDepth 100000 in
set_option maxHeartbeats 4000000 in
theorem fixCl_ok (P:Pr) (G:Grp P) (w:World) (yv p:Value) (y x:List Int) (U:List (List Int)) (ub xb:Nat) (au ax:Option Addr) (capu capx:Nat) (Sp Su Sx Sy:Nat→Prop) (hU:SubB P U) (hp:PresP Sp w p P)
  (hub:w.cell? ⟨ub,0,none⟩=some (.slice au U.length capu)) (hu:Rows2 Su w (.slice au U.length capu) U) (hxb:w.cell? ⟨xb,0,none⟩=some (.slice ax x.length capx)) (hx:Ints Sx w (.slice ax x.length capx) x) (hy:Ints Sy w yv y) (hyV:Vec P.orders y) (hz:Zr P U x) :
  Calls Tryz.prog 182 #[yv,p,.pointer (some ⟨ub,0,none⟩),.pointer (some ⟨xb,0,none⟩)] w (Ret w fun _ v=>v=.bool (!(decide (gP P U (rConj P y x))))):=by
 have hn6:=G.v.n6
 have S:=G.subB hU
 have hUe:cseq P (gP P U)=U:=hU.2.symm
 have hsq:=(G.seq_facts S).1
 rw[hUe] at hsq
 have hul:U.length≤100:=by have:=G.sub_len hU;omega
 have hfix:=fun Y (hR:RepTo P U (rMul P y x) U.length Y)=>G.fix_iff S (x:=x) (y:=y) (Y:=Y) (by rw[hUe];exact hz) hyV (by rw[hUe];exact hR)
 have hmV:=G.mulV hyV hz.1
 have htv:=G.tv_eq hyV hz.1
 have hxl:=hz.1.1
 obtain⟨pb,po,rfl⟩:=hp.shape
 obtain⟨ay,cy,rfl,_,_⟩:=hy.shape
 have HH:=Lib.hid (And.intro hsq (And.intro hfix (And.intro hmV (And.intro htv (And.intro hyV (And.intro hz hxl))))));clear hsq hfix hmV htv hyV hz hxl S hUe hU
 have f1_:∀w',Ext w w'→w'.cell? ⟨ub,0,none⟩=some (.slice au U.length capu):=fun w' h=>h.cell hub (by simp)
 have f2_:∀w',Ext w w'→w'.cell? ⟨xb,0,none⟩=some (.slice ax x.length capx):=fun w' h=>h.cell hxb (by simp)
 clear hub hxb
 go_enter Tryz.func182,Tryz.ntmps182
 go_wp2
 go_region_held3 (fun w'=>Ext w w') (first|exact grown_refl _ _|exact grown_drew _ _|assumption)
  (first
   | (revert hOR;intro hOR;go_at_call 151;refine Calls.mono (Calls.rel (w0:=w) (by assumption) (sEqual_ok _ _ Y x _ Any Any hOR.out (Ints.sub (Ints.ext hx (by assumption)) (fun _ _ _=>trivial)))) ?_;rintro eE wE ⟨vE,rfl,hgE,_,rfl⟩)
   | (revert hOM;intro hOM;go_at_call 117;refine Calls.mono (Calls.rel2 (w0:=w) (by assumption) (representative_ok P G _ _ _ _ U (rMul P y x) Sp Su Any (hp.ext (by assumption)) (Rows2.ext hu (by assumption)) HH.out.1 hul hOM.out HH.out.2.2.1)) ?_;rintro eR wR ⟨vR,rfl,hgR,_,_,Y,hOY,hRY⟩;have hOR:=Lib.hid (hOY.ints (by rw[hRY.vec.1];omega)))
   | (go_at_call 152;refine Calls.mono (Calls.rel2 (w0:=w) (by assumption) (multiply_ok P G.v _ _ _ _ y x Sp Sy Sx (hp.ext (by assumption)) (Ints.ext hy (by assumption)) (Ints.ext hx (by assumption)) HH.out.2.2.2.2.1 HH.out.2.2.2.2.2.1.1)) ?_;rintro eM wM ⟨vM,rfl,hgM,_,_,hO⟩;rw[HH.out.2.2.2.1] at hO;have hOM:=Lib.hid (hO.ints (by rw[HH.out.2.2.1.1];omega))))
 have he:eqB Y x=decide (gP P U (rConj P y x)):=by
  have:=HH.out.2.1 Y hRY
  by_cases h:Y=x
  ·rw[eqB_true.2 h];exact(decide_eq_true (this.1 h)).symm
  ·rw[eqB_false.2 h];exact(decide_eq_false (fun k=>h (this.2 k))).symm
 rw[he]
 clear f1_ f2_ he
 go_wp2
 go_ret
 exact⟨_,rfl,by assumption,rfl⟩
end Go.Proofs.YtdcobapnlpeaaaaGreat
namespace Go.Proofs.YtdcobapnlpeaaaaGreat
open Go.RowKit
open Classical
set_option maxRecDepth 100000 in
set_option maxHeartbeats 2000000 in
theorem fixIdx_ok (L:List (List Int)) (Q:List Int→Prop) (w:World) (lv p:Value) (ub xb:Nat) (SS:Nat→Prop) (hl:Rows2 SS w lv L)
  (hcl:∀w' yv y Sy,Ext w w'→Ints Sy w' yv y→y∈L→Calls Tryz.prog 182 #[yv,p,.pointer (some ⟨ub,0,none⟩),.pointer (some ⟨xb,0,none⟩)] w' (Ret w' fun _ v=>v=.bool (!(decide (Q y))))) :
  Calls Tryz.prog 257 #[lv,.func (.func 182) #[] #[p,.pointer (some ⟨ub,0,none⟩),.pointer (some ⟨xb,0,none⟩)]] w (Ret w fun _ v=>∃k:Int,v=.int .i64 k∧(0≤k↔∃y∈L,¬Q y)):=by
 obtain⟨la,lc,rfl,_,_⟩:=Sl.shape hl
 have HC:=Lib.hid hcl;clear hcl
 go_enter Tryz.func257,Tryz.ntmps257
 go_wp2
 go_loopw [8] (fun v wr=>∃k:Nat,v=.int .i64 k∧k≤L.length∧Ext w wr∧Hid (∀j,j<k→Q (gt L j))) (fun v _=>L.length-(intOf v).toNat)
 case atStart=>exact⟨0,rfl,by omega,Ext.refl _,Lib.hid (fun j h=>by omega)⟩
 case round=>
  obtain⟨k,rfl,hk,hg,hN⟩:=hrel
  by_cases hlt:k<L.length
  ·have hlt':(k:Int)<L.length:=by omega
   obtain⟨bl,ol,a2,cap2,hab,_,hbl,hcl,hru⟩:=Rows2.at hl k hlt
   subst hab
   have hcr:=hg.cell hcl (by simp)
   have hcon:=HC.out wr _ (gt L k) SS hg (Ints.ext hru hg) (gtMem hlt)
   have hm:=gtMem hlt
   obtain⟨r,hr⟩:∃r,r=decide (Q (gt L k)):=⟨_,rfl⟩
   rw[←hr] at hcon
   have HR:=Lib.hid (And.intro hr hm);clear hr hm hcl hru
   go_wp2_with fail
   refine Calls.mono hcon ?_
   rintro e1 w1 ⟨v1,rfl,hg1,rfl⟩
   clear hcon hcr
   have hgn:=grown_trans hg hg1
   cases r with
   | false=>
    have hex:∃y∈L,¬Q y:=⟨_,HR.out.2,of_decide_eq_false HR.out.1.symm⟩
    have HX:=Lib.hid hex;clear hex
    go_wp2
    go_ret
    exact⟨_,rfl,hgn,(k:Int),rfl,⟨fun _=>HX.out,fun _=>by omega⟩⟩
   | true=>
    have hN2:∀j,j<k+1→Q (gt L j):=fun j hj=>by
     rcases Nat.lt_succ_iff_lt_or_eq.1 hj with h|h
     ·exact hN.out j h
     ·rw[h];exact of_decide_eq_true HR.out.1.symm
    have HN2:=Lib.hid hN2;clear hN2
    go_wp2
    go_roundw
    case rel=>exact⟨k+1,by go_num,by omega,hgn,HN2⟩
    case measure=>simp[intOf];omega
  ·have hno:¬ ∃y∈L,¬Q y:=by
    rintro⟨y,hy,hq⟩
    obtain⟨j,hj,e⟩:=mem_gt hy
    exact hq (by rw[←e];exact hN.out j (by omega))
   have hnl:¬(k:Int)<L.length:=by omega
   have HX:=Lib.hid hno;clear hno
   go_wp2
   go_ret
   exact⟨_,rfl,hg,-1,rfl,⟨fun h=>by omega,fun h=>absurd h HX.out⟩⟩
set_option maxRecDepth 100000 in
set_option maxHeartbeats 2000000 in
theorem fixAny_ok (L:List (List Int)) (Q:List Int→Prop) (w:World) (lv p:Value) (ub xb:Nat) (SS:Nat→Prop) (hl:Rows2 SS w lv L)
  (hcl:∀w' yv y Sy,Ext w w'→Ints Sy w' yv y→y∈L→Calls Tryz.prog 182 #[yv,p,.pointer (some ⟨ub,0,none⟩),.pointer (some ⟨xb,0,none⟩)] w' (Ret w' fun _ v=>v=.bool (!(decide (Q y))))) :
  Calls Tryz.prog 181 #[lv,.func (.func 182) #[] #[p,.pointer (some ⟨ub,0,none⟩),.pointer (some ⟨xb,0,none⟩)]] w (Ret w fun _ v=>v=.bool (!(decide (∀y∈L,Q y)))):=by
 have hi:=fixIdx_ok L Q w lv p ub xb SS hl hcl
 clear hcl
 obtain⟨la,lc,rfl,_,_⟩:=Sl.shape hl
 go_enter Tryz.func181,Tryz.ntmps181
 go_wp2_with fail
 refine Calls.mono hi ?_
 rintro e1 w1 ⟨v1,rfl,hg1,k,rfl,hk⟩
 have HK:=Lib.hid hk;clear hk hi
 go_wp2
 go_ret
 refine⟨_,rfl,hg1,?_⟩
 show Value.bool (decide (0≤k))=_
 rw[decide_eq_decide.2 HK.out]
 by_cases h:∀y∈L,Q y
 ·rw[decide_eq_true h,decide_eq_false (fun ⟨y,hy,hq⟩=>hq (h y hy))];rfl
 ·rw [decide_eq_false h]
  obtain⟨y,hy⟩:=Classical.not_forall.1 h
  obtain⟨h1,h2⟩:=Classical.not_imp.1 hy
  rw[decide_eq_true ⟨y,h1,h2⟩];rfl
end Go.Proofs.YtdcobapnlpeaaaaGreat
namespace Go.Proofs.YtdcobapnlpeaaaaGreat
open Go.RowKit
open Classical
set_option maxRecDepth 100000 in
set_option maxHeartbeats 4000000 in
theorem iFix_ok (P:Pr) (hr:rconsB P=true) (w:World) (pv uv vv:Value) (U V:List (List Int)) (Sp Su Sv:Nat→Prop) (hpv:PresV Sp w pv P) (hu:Rows2 Su w uv U) (hv:Rows2 Sv w vv V) (hU:SubB P U) (hV:SubB P V) (h128:ordP P≤128) :
  Calls Tryz.prog 84 #[pv,uv,vv] w (Ret w fun _ v=>v=.tuple #[.int .i64 (fixN P U V:Nat),.int .i64 0]):=by
 have G:=grp_of_r hr
 have hn6:=G.v.n6
 obtain⟨vo,vp,vc,rfl,h3⟩:=hpv
 have hp0:=PresP.box h3 28
 have hg0:Ext w (w.alloc (.cells #[vo,vp,vc] 28)):=World.grownBy_alloc _ _ _
 have hs0:(w.alloc (.cells #[vo,vp,vc] 28)).heap.size=w.heap.size+1:=by simp
 have hu0:=Rows2.ext hu hg0
 have hv0:=Rows2.ext hv hg0
 obtain⟨au,capu,rfl,_,_⟩:=Sl.shape hu
 obtain⟨av,capv,rfl,_,_⟩:=Sl.shape hv
 have hg1:Ext (w.alloc (.cells #[vo,vp,vc] 28)) ((w.alloc (.cells #[vo,vp,vc] 28)).alloc (.cells #[.slice au U.length capu] 25)):=World.grownBy_alloc _ _ _
 have hx1:((w.alloc (.cells #[vo,vp,vc] 28)).alloc (.cells #[.slice au U.length capu] 25)).cell? ⟨w.heap.size+1,0,none⟩=some (.slice au U.length capu):=by
  rw[←hs0,World.cell?_alloc_at _ _ _ _ rfl];rfl
 have hu1:=Rows2.ext hu0 hg1
 have hv1:=Rows2.ext hv0 hg1
 have hp1:=hp0.ext hg1
 have hs1:((w.alloc (.cells #[vo,vp,vc] 28)).alloc (.cells #[.slice au U.length capu] 25)).heap.size=w.heap.size+1+1:=by simp
 have hgw1:=grown_trans hg0 hg1
 have hVv:∀y∈V,Vec P.orders y:=hV.1
 have hzr:∀x∈trT P (frI P U),Zr P U x:=fun x hx=>by
  have e:=trT_eq P (frI P U).reverse
  rw[List.reverse_reverse] at e
  rw[e] at hx
  obtain⟨t,_,rfl⟩:=List.mem_map.1 hx
  exact elR_zr G t
 have htl:(trT P (frI P U)).length≤117649:=(trT_bd P (fun i hi=>by have:=G.v.ord7 i hi;unfold ordN';omega) _ (by
  have h:=frT_len U P.orders.length
  have e:frT U P.orders.length=frI P U:=rfl
  rw[e] at h;omega) (fun i hi=>(frI_mem.1 hi).1)).1
 have HH:=Lib.hid (And.intro hr (And.intro hU (And.intro hV (And.intro hVv (And.intro hzr htl)))));clear hr hVv hzr htl hU hV
 go_enter Tryz.func84,Tryz.ntmps84
 go_wp2_with fail
 generalize hw1:(w.alloc (.cells #[vo,vp,vc] 28)).alloc (.cells #[.slice au U.length capu] 25)=w1 at *
 clear hw1 hg0 hg1 hu0 hv0 hp0
 have hl:=rows3Two hu1 hv1
 rw[hs1] at hl
 have hg2:Ext w1 (w1.alloc (.cells #[.slice au U.length capu,.slice av V.length capv] 25)):=World.grownBy_alloc _ _ _
 have hx2:=hg2.cell hx1 (by simp)
 have hp2:=hp1.ext hg2
 have hcon:=areSubgroups_ok P _ _ _ [U,V] Any Any hp2 hl
 generalize hw2:w1.alloc (.cells #[.slice au U.length capu,.slice av V.length capv] 25)=w2 at *
 clear hw2 hl
 refine Calls.mono hcon ?_
 rintro e3 w3 ⟨v3,rfl,hg3,r1,rfl,hr0⟩
 clear hcon hx1
 obtain rfl:r1=true:=hr0.2 (by have:=HH.out;simp only[List.mem_cons,List.mem_nil_iff,or_false];exact⟨this.1,fun u hu=>by rcases hu with rfl|rfl;exact this.2.1;exact this.2.2.1⟩)
 clear hr0
 have hg13:=grown_trans hg2 hg3
 have hall:∀w',Ext w3 w'→w'.cell? ⟨w.heap.size+1,0,none⟩=some (.slice au U.length capu)∧PresP Any w' (.pointer (some ⟨w.heap.size,0,none⟩)) P∧Rows2 Any w' (.slice au U.length capu) U∧Rows2 Any w' (.slice av V.length capv) V:=fun w' h=>
  ⟨h.cell (hg3.cell hx2 (by simp)) (by simp),PresP.sub (hp1.ext (grown_trans hg13 h)) (fun _ _ _=>trivial),Rows2.sub (Rows2.ext hu1 (grown_trans hg13 h)) (fun _ _ _=>trivial),Rows2.sub (Rows2.ext hv1 (grown_trans hg13 h)) (fun _ _ _=>trivial)⟩
 have hgw3:=grown_trans hgw1 hg13
 have HA:=Lib.hid hall;clear hall hp1 hp2 hu1 hv1 hx2 hg2 hg3 hg13
 obtain⟨c_,_⟩:=id (HA.out w3 (grown_refl _ _))
 go_wp2_with fail
 refine Calls.mono (indexCode_ok P HH.out.1 w3 _ _ U Any Any (HA.out w3 (grown_refl _ _)).2.1 (HA.out w3 (grown_refl _ _)).2.2.1 HH.out.2.1 h128) ?_
 rintro e4 w4 ⟨v4,rfl,hg4,rfl⟩
 clear c_
 obtain⟨c_,_⟩:=id (HA.out w4 hg4)
 go_wp2_with fail
 refine Calls.mono (transversal_ok P G w4 _ _ U Any Any (HA.out w4 hg4).2.1 (HA.out w4 hg4).2.2.1 HH.out.2.1) ?_
 rintro e5 w5 ⟨v5,rfl,hg5,hO⟩
 clear c_
 obtain⟨T,hT⟩:∃T,T=trT P (frI P U):=⟨_,rfl⟩
 have htl:=HH.out.2.2.2.2.2
 rw[←hT] at hO htl
 have hTr:=RowsD.rows (SlO.toD hO (by omega))
 obtain⟨ta,tc,rfl,_,_⟩:=Sl.shape hTr
 have hTx:∀w',Ext w5 w'→Rows2 Any w' (.slice ta T.length tc) T:=fun w' h=>Rows2.sub (Rows2.ext hTr h) (fun _ _ _=>trivial)
 have HT:=Lib.hid (And.intro hT hTx);clear hT hTx hTr hO
 have hg45:=grown_trans hg4 hg5
 have hgw5:=grown_trans hgw3 hg45
 go_wp2
 go_loopw [9,25] (fun nv iv wr=>∃(i n:Nat),iv=.int .i64 i∧nv=.int .i64 n∧i≤T.length∧n≤i∧Ext w5 wr∧Hid (n=((T.take i).filter (fun x=>decide (∀y∈V,gP P U (rConj P y x)))).length)) (fun _ iv _=>T.length-(intOf iv).toNat)
 case atStart=>exact⟨0,0,rfl,rfl,by omega,by omega,Ext.refl _,Lib.hid (by simp)⟩
 case round=>
  obtain⟨i,n,rfl,rfl,hi,hni,hg,hN⟩:=hrel
  by_cases hlt:i<T.length
  ·have hlt':(i:Int)<T.length:=by omega
   obtain⟨bx,ox,ax,cx,hab,_,_,hcx,hxi⟩:=Rows2.at (HT.out.2 wr hg) i hlt
   subst hab
   have hz:=HH.out.2.2.2.2.1 (gt T i) (by rw[←HT.out.1];exact gtMem hlt)
   have hst:(T.take (i+1)).filter (fun x=>decide (∀y∈V,gP P U (rConj P y x)))=(T.take i).filter (fun x=>decide (∀y∈V,gP P U (rConj P y x)))++[gt T i].filter (fun x=>decide (∀y∈V,gP P U (rConj P y x))):=by
    rw[take_succ_gt T i hlt,List.filter_append]
   obtain⟨x,hx⟩:∃x,x=gt T i:=⟨_,rfl⟩
   rw[←hx] at hcx hxi hz hst
   have hgx:Ext wr (wr.alloc (.cells #[.slice ax x.length cx] 24)):=World.grownBy_alloc _ _ _
   have hcell:(wr.alloc (.cells #[.slice ax x.length cx] 24)).cell? ⟨wr.heap.size,0,none⟩=some (.slice ax x.length cx):=by rw[World.cell?_alloc_at _ _ _ _ rfl];rfl
   have hgL:=grown_trans hg45 (grown_trans hg hgx)
   have hxi2:=Ints.ext hxi hgx
   have hcon:=fixAny_ok V (fun y=>gP P U (rConj P y x)) (wr.alloc (.cells #[.slice ax x.length cx] 24)) (.slice av V.length capv) (.pointer (some ⟨w.heap.size,0,none⟩)) (w.heap.size+1) wr.heap.size Any (HA.out _ hgL).2.2.2 (fun w' yv y Sy hg' hy hyV=>
    fixCl_ok P G w' yv _ y x U _ _ au ax capu cx Any Any Any Sy HH.out.2.1 (HA.out w' (grown_trans hgL hg')).2.1 (HA.out w' (grown_trans hgL hg')).1 (HA.out w' (grown_trans hgL hg')).2.2.1 (hg'.cell hcell (by simp)) (Ints.sub (Ints.ext hxi2 hg') (fun _ _ _=>trivial)) hy (HH.out.2.2.2.1 y hyV) hz)
   have HS:=Lib.hid (And.intro hst (And.intro hx hz));clear hst hx hz hxi hxi2 hcell
   have hgn:=grown_trans hg hgx
   go_wp2_with fail
   generalize wr.alloc (.cells #[.slice ax x.length cx] 24)=wx at *
   refine Calls.mono hcon ?_
   rintro e6 w6 ⟨v6,rfl,hg6,rfl⟩
   clear hcon hcx hgx hgL
   have hgn6:=grown_trans hgn hg6
   by_cases hq:∀y∈V,gP P U (rConj P y x)
   ·have hd:decide (∀y∈V,gP P U (rConj P y x))=true:=decide_eq_true hq
    have hn1:n+1=((T.take (i+1)).filter (fun x=>decide (∀y∈V,gP P U (rConj P y x)))).length:=by
     rw[HS.out.1,List.length_append,←hN.out,List.filter_cons_of_pos (by simpa using hq)];rfl
    have HN1:=Lib.hid hn1;clear hn1 hq
    rw[hd];clear hd
    go_wp2
    go_roundw
    case rel=>exact⟨i+1,n+1,by go_num,by go_num,by omega,by omega,hgn6,HN1⟩
    case measure=>simp[intOf];omega
   ·have hd:decide (∀y∈V,gP P U (rConj P y x))=false:=decide_eq_false hq
    have hn1:n=((T.take (i+1)).filter (fun x=>decide (∀y∈V,gP P U (rConj P y x)))).length:=by
     rw[HS.out.1,List.length_append,←hN.out,List.filter_cons_of_neg (by simpa using hq)];rfl
    have HN1:=Lib.hid hn1;clear hn1 hq
    rw[hd];clear hd
    go_wp2
    go_roundw
    case rel=>exact⟨i+1,n,by go_num,rfl,by omega,by omega,hgn6,HN1⟩
    case measure=>simp[intOf];omega
  ·have hie:i=T.length:=by omega
   have hfin:n=fixN P U V:=by
    unfold fixN
    rw[hN.out,hie,List.take_length,HT.out.1]
   have HF:=Lib.hid hfin;clear hfin
   have hgw:=grown_trans hgw5 hg
   go_wp2
   go_ret2
   exact⟨_,rfl,hgw,by rw[HF.out];rfl⟩
end Go.Proofs.YtdcobapnlpeaaaaGreat
namespace Go.Proofs.YtdcobapnlpeaaaaGreat
open Go.RowKit
attribute [local go_sem ↓] Go.wp_at_zero Go.wp_at_succ
set_option maxRecDepth 100000 in
set_option maxHeartbeats 8000000 in
theorem lawDb_ok (w:World) (cv:Value) (bs:List Int) (S:Nat→Prop) (hb:Bytes S w cv bs) :
  Calls Tryz.prog 12 #[cv] w (Ret w fun _ v=>v=.bool true):=by
 obtain⟨ca,cc,rfl,_,_⟩:=Sl.shape hb
 go_enter Tryz.func12,Tryz.ntmps12
 go_wp2_with fail
 refine Calls.mono (big_ok w _ bs S hb) ?_
 rintro _ _ ⟨rfl,rfl⟩
 by_cases hbg:4096<bs.length
 ·have hd:decide (4096<bs.length)=true:=by simp[hbg]
  rw[hd]
  go_wp2
  go_ret
  exact⟨_,rfl,grown_refl _ _,rfl⟩
 have hbl:bs.length≤4096:=by omega
 have hd:decide (4096<bs.length)=false:=by simp[hbg]
 rw[hd];clear hd hbg
 go_wp2_with fail
 refine Calls.mono (DrawDoubleCosets_ok w _ bs S hb) ?_
 rintro e1 w1 ⟨v1,rfl,hg1,vo,vp,vc,rv,sv,P,rfl,hPl,hP,⟨U,_,_,hU⟩,⟨V,_,_,hV⟩⟩
 obtain⟨a1,n1,c1,hy1⟩:∃a n c,vo=.slice a n c:=by obtain⟨a,c,e,_⟩:=hP.o.shape;exact⟨_,_,_,e⟩
 obtain⟨a2,n2,c2,hy2⟩:∃a n c,vp=.slice a n c:=by obtain⟨a,c,e,_⟩:=Sl.shape hP.p;exact⟨_,_,_,e⟩
 obtain⟨a3,n3,c3,hy3⟩:∃a n c,vc=.slice a n c:=by obtain⟨a,c,e,_⟩:=Sl.shape hP.c;exact⟨_,_,_,e⟩
 subst hy1 hy2 hy3
 obtain⟨ra,rn,rc,hrr⟩:∃a n c,rv=.slice a n c:=by obtain⟨a,c,e,_⟩:=Sl.shape hU;exact⟨_,_,_,e⟩
 subst hrr
 obtain⟨sa,sn,sc,hrs⟩:∃a n c,sv=.slice a n c:=by obtain⟨a,c,e,_⟩:=Sl.shape hV;exact⟨_,_,_,e⟩
 subst hrs
 have hgX:Ext w1 (w1.alloc (.cells #[.slice a1 n1 c1,.slice a2 n2 c2,.slice a3 n3 c3] 28)):=World.grownBy_alloc _ _ _
 have hX:=Box3.made w1 28 (.slice a1 n1 c1) (.slice a2 n2 c2) (.slice a3 n3 c3)
 have hPX:=hP.ext hgX
 have hUX:=Rows2.ext hU hgX
 have hVX:=Rows2.ext hV hgX
 have hgw:=grown_trans hg1 hgX
 have hbX:=Bytes.ext hb hgw
 have HA0:=Lib.hid (And.intro hPX (And.intro hUX (And.intro hVX (And.intro hgw hbX))));clear hPX hUX hVX hgw hbX hgX hP hU hV hg1 hb
 obtain⟨pb,hpb⟩:∃pb,pb=w1.heap.size:=⟨_,rfl⟩
 rw[←hpb] at hX
 have HP:=Lib.hid hpb;clear hpb
 go_wp2_with fail
 rw[←HP.out]
 generalize w1.alloc (.cells #[.slice a1 n1 c1,.slice a2 n2 c2,.slice a3 n3 c3] 28)=w2 at *
 clear HP
 have hall:∀w',Ext w2 w'→Box3 w' pb (.slice a1 n1 c1) (.slice a2 n2 c2) (.slice a3 n3 c3)∧PresV (From w.heap.size) w' (.agg #[.slice a1 n1 c1,.slice a2 n2 c2,.slice a3 n3 c3]) P∧Rows2 (From w.heap.size) w' (.slice ra rn rc) U∧Rows2 (From w.heap.size) w' (.slice sa sn sc) V∧Bytes S w' (.slice ca bs.length cc) bs:=
  fun w' h=>⟨hX.ext h,⟨_,_,_,rfl,HA0.out.1.ext h⟩,Rows2.ext HA0.out.2.1 h,Rows2.ext HA0.out.2.2.1 h,Bytes.ext HA0.out.2.2.2.2 h⟩
 have HA:=Lib.hid hall;clear hall hX
 have hgw:=grown_refl w2 none
 have hzl:=dcsL_len P U V
 obtain⟨b0_,b1_,b2_,b3_,_⟩:=id (HA.out w2 hgw).1
 go_wp2_with fail
 clear b0_ b1_ b2_ b3_
 refine Calls.mono (iDcs_ok P w2 _ _ _ U V _ _ _ (HA.out w2 hgw).2.1 (HA.out w2 hgw).2.2.1 (HA.out w2 hgw).2.2.2.1) ?_
 rintro e3 w3 ⟨v3,rfl,hg_,za,zn,zc,rfl,hZ_⟩
 replace hgw:=grown_trans hgw hg_
 have hZr:Rows2 Any w3 (.slice za zn zc) (dcsL P U V):=Rows2.sub (RowsD.rows (SlO.toD hZ_ (by omega))) (fun _ _ _=>trivial)
 have hZx:∀w',Ext w3 w'→Rows2 Any w' (.slice za zn zc) (dcsL P U V):=fun w' h=>Rows2.ext hZr h
 have HZ:=Lib.hid hZx;clear hZr hZx
 have hgZ:=grown_refl w3 none
 clear hZ_
 clear hg_
 obtain⟨b0_,b1_,b2_,b3_,_⟩:=id (HA.out w3 hgw).1
 go_wp2_with fail
 clear b0_ b1_ b2_ b3_
 refine Calls.mono (sDcs_ok P w3 _ _ _ U V _ _ _ (HA.out w3 hgw).2.1 (HA.out w3 hgw).2.2.1 (HA.out w3 hgw).2.2.2.1) ?_
 rintro e4 w4 ⟨v4,rfl,hg_,ta,tn,tc,rfl,hT_⟩
 replace hgw:=grown_trans hgw hg_
 replace hgZ:=grown_trans hgZ hg_
 have hTr:Rows2 Any w4 (.slice ta tn tc) (dcsL P U V):=hT_
 have hTx:∀w',Ext w4 w'→Rows2 Any w' (.slice ta tn tc) (dcsL P U V):=fun w' h=>Rows2.ext hTr h
 have HT:=Lib.hid hTx;clear hTr hTx
 have hgT:=grown_refl w4 none
 clear hT_
 clear hg_
 go_wp2_with fail
 refine Calls.mono (like29_ok _ _ (dcsL P U V) (dcsL P U V) w4 Any Any (HZ.out w4 hgZ) (HT.out w4 hgT)) ?_
 rintro e5 w5 ⟨v5,rfl,hg_,rfl⟩
 replace hgw:=grown_trans hgw hg_
 replace hgZ:=grown_trans hgZ hg_
 replace hgT:=grown_trans hgT hg_
 rw[show eqB (dcsL P U V) (dcsL P U V)=true from eqB_true.2 rfl]
 clear HT hgT
 clear hg_
 by_cases hz:dcsC P U V=0
 case neg=>
  have hzb:(dcsC P U V != 0)=true:=by simpa using hz
  clear hz
  generalize dcsC P U V=cc at *
  go_wp2
  go_ret
  exact⟨_,rfl,grown_trans HA0.out.2.2.2.1 hgw,rfl⟩
 obtain⟨h2U,h128'⟩:=dcs_zero hz
 rw[hz];clear hz
 have h128:ordP P≤128:=by omega
 have hr:=h2U.1
 have hUB:=h2U.2.1
 have hVB:=h2U.2.2
 have G:=grp_of_r hr
 have hn6:=G.v.n6
 have hop:=G.v.ordP_pos
 obtain⟨f,hf,hft⟩:=G.db_size h2U h128'
 obtain⟨hs0,hd0,g,hgf,hgt⟩:=G.db_fix h2U h128'
 obtain⟨D,hD⟩:∃D,D=dcsL P U V:=⟨_,rfl⟩
 rw[←hD] at HZ hf hft hzl
 obtain⟨N,hN⟩:∃N,N=D.length:=⟨_,rfl⟩
 obtain rfl:N=zn:=by
  obtain⟨a,c,e,_⟩:=Sl.shape (HZ.out _ hgZ)
  cases e;exact hN
 rw[←hN] at hzl
 have HF:=Lib.hid (And.intro hf (And.intro hft hN));clear hf hft hN hD
 have HG:=Lib.hid (And.intro hs0 (And.intro hd0 (And.intro hgf hgt)));clear hs0 hd0 hgf hgt h128' h2U
 obtain⟨wk,rfl⟩:∃wk:World,wk=w5:=⟨_,rfl⟩
 go_wp2
 go_loopw [10,11] (fun tv iv wr=>∃(i t:Nat),iv=.int .i64 (i:Int)∧tv=.int .i64 (t:Int)∧i≤N∧t≤1000∧Ext wk wr∧Hid (t=sm f (D.take i))) (fun _ iv _=>N-(intOf iv).toNat)
 case atStart=>exact⟨0,0,rfl,rfl,by omega,by omega,grown_refl _ _,Lib.hid (by simp[sm])⟩
 case round=>
  obtain⟨i,t,rfl,rfl,hi,ht,hg,hT⟩:=hrel
  obtain⟨wo,rfl⟩:∃wo:World,wo=wr:=⟨_,rfl⟩
  have hgr:=grown_trans hgw hg
  by_cases hlt:i<N
  ·have hlt':(i:Int)<N:=by omega
   have hiD:i<D.length:=by rw[←HF.out.2.2];exact hlt
   obtain⟨hxV,hxc,hxv,hx1⟩:=HF.out.1 _ (gtMem hiD)
   obtain⟨rb,ro,ax,capx,hab,_,_,hcx,hx⟩:=Rows2.at (HZ.out wo (grown_trans hgZ hg)) i hiD
   subst hab
   have hst:=sm_take_succ f D i hiD
   have hle:=sm_take_le f D (i+1)
   have htot:=HF.out.2.1
   obtain⟨x,hxe⟩:∃x,x=gt D i:=⟨_,rfl⟩
   rw[←hxe] at hcx hx hxV hxc hxv hx1 hst
   obtain⟨s,hs⟩:∃s,s=f x:=⟨_,rfl⟩
   rw[←hs] at hxv hx1 hst
   rw[←hT.out] at hst
   have hsb:t+s≤1000:=by omega
   have hdc:∀w',Ext wo w'→Calls Tryz.prog 83 #[.agg #[.slice a1 n1 c1,.slice a2 n2 c2,.slice a3 n3 c3],.slice ra rn rc,.slice sa sn sc,.slice ax x.length capx] w' (Ret w' fun _ v=>v=.tuple #[.int .i64 (s:Int),.int .i64 0]):=fun w' h=>by
    rw[←hxv,←hxc]
    exact iDc_ok P w' _ _ _ _ U V x _ _ _ _ (HA.out w' (grown_trans hgr h)).2.1 (HA.out w' (grown_trans hgr h)).2.2.1 (HA.out w' (grown_trans hgr h)).2.2.2.1 (Ints.ext hx h)
   have HX:=Lib.hid (And.intro hst hdc);clear hst hdc hle htot hxV hxc hxv hs hxe hx hiD
   have f1_:∀w',Ext wo w'→w'.cell? ⟨pb,0,none⟩=some (.slice a1 n1 c1):=fun w' h=>(HA.out w' (grown_trans hgr h)).1.2.1
   have f2_:∀w',Ext wo w'→w'.cell? ⟨pb,1,none⟩=some (.slice a2 n2 c2):=fun w' h=>(HA.out w' (grown_trans hgr h)).1.2.2.1
   have f3_:∀w',Ext wo w'→w'.cell? ⟨pb,2,none⟩=some (.slice a3 n3 c3):=fun w' h=>(HA.out w' (grown_trans hgr h)).1.2.2.2.1
   have f4_:∀w',Ext wo w'→w'.cell? ⟨rb,ro+i,none⟩=some (.slice ax x.length capx):=fun w' h=>h.cell hcx (by simp)
   clear hcx
   go_wp2
   go_region_held3 (fun w'=>Ext wo w') (first|exact grown_drew _ _|assumption)
    (first
     | (go_at_call 83;refine Calls.mono (Calls.rel (w0:=wo) (by assumption) (HX.out.2 _ (by assumption))) ?_;rintro e6 w6 ⟨v6,rfl,hg6,_,rfl⟩))
   clear f1_ f2_ f3_ f4_
   have hgn:=grown_trans hg hg6
   have hs1:¬(s:Int)<1:=by omega
   have hsum:(t:Int)+(s:Int)=((t+s:Nat):Int):=by omega
   have HST:=Lib.hid (And.intro HX.out.1.symm hsum);clear HX hsum hT
   go_wp2
   go_roundw
   case rel=>exact⟨i+1,t+s,by go_num,by rw[←HST.out.2],by omega,hsb,hgn,Lib.hid HST.out.1⟩
   case measure=>simp[intOf];omega
  ·have hie:i=N:=by omega
   have htt:(t:Int)=ordP P:=by
    rw[hT.out,hie,List.take_of_length_le (by rw[HF.out.2.2];exact Nat.le_refl _)]
    exact HF.out.2.1
   have hnl:¬(i:Int)<N:=by omega
   clear hT HF HZ hgZ
   replace hgw:=hgr
   clear hgr hg hi hlt hie
   clear ht
   obtain⟨w50,rfl⟩:∃w50:World,w50=wo:=⟨_,rfl⟩
   rw[htt]
   clear htt
   have hsl:=selL_len P V
   have hol:=dcsL_len P V U
   obtain⟨b0_,b1_,b2_,b3_,_⟩:=id (HA.out w50 hgw).1
   go_wp2_with fail
   clear b0_ b1_ b2_ b3_
   refine Calls.mono (size9_ok P hr w50 _ _ (HA.out w50 hgw).2.1) ?_
   rintro e51 w51 ⟨v51,rfl,hg_,rfl⟩
   replace hgw:=grown_trans hgw hg_
   clear hnl
   clear hg_
   obtain⟨b0_,b1_,b2_,b3_,_⟩:=id (HA.out w51 hgw).1
   go_wp2_with fail
   clear b0_ b1_ b2_ b3_
   refine Calls.mono (iSubEl_ok P w51 _ _ V _ _ (HA.out w51 hgw).2.1 (HA.out w51 hgw).2.2.2.1) ?_
   rintro e52 w52 ⟨v52,rfl,hg_,ea,en,ec,rfl,hE_⟩
   replace hgw:=grown_trans hgw hg_
   rw[HG.out.1]
   have hEr:Rows2 Any w52 (.slice ea en ec) (selL P V):=Rows2.sub (RowsD.rows (SlO.toD hE_ (by omega))) (fun _ _ _=>trivial)
   have hEx:∀w',Ext w52 w'→Rows2 Any w' (.slice ea en ec) (selL P V):=fun w' h=>Rows2.ext hEr h
   have HE:=Lib.hid hEx;clear hEr hEx
   have hgE:=grown_refl w52 none
   clear hE_
   clear hg_
   obtain⟨L,hL⟩:∃L,L=selL P V:=⟨_,rfl⟩
   have hgf:=HG.out.2.2.1
   have hgt:=HG.out.2.2.2
   rw[←hL] at HE hsl hgf hgt
   obtain⟨M,hM⟩:∃M,M=L.length:=⟨_,rfl⟩
   obtain rfl:M=en:=by
    obtain⟨a,c,e,_⟩:=Sl.shape (HE.out _ hgE)
    cases e;exact hM
   rw[←hM] at hsl
   have HLM:=Lib.hid (And.intro hL hM);clear hL hM
   have HGF:=Lib.hid (And.intro hgf hgt);clear hgf hgt
   obtain⟨b0_,b1_,b2_,b3_,_⟩:=id (HA.out w52 hgw).1
   go_wp2_with fail
   clear b0_ b1_ b2_ b3_
   refine Calls.mono (size9_ok P hr w52 _ _ (HA.out w52 hgw).2.1) ?_
   rintro e53 w53 ⟨v53,rfl,hg_,rfl⟩
   replace hgw:=grown_trans hgw hg_
   replace hgE:=grown_trans hgE hg_
   clear hg_
   by_cases h24:24<ordP P
   ·obtain ⟨op,hope⟩:∃op,op=ordP P:=⟨_,rfl⟩
    rw[←hope] at h24
    rw[←hope]
    clear hope
    go_wp2
    go_ret
    exact⟨_,rfl,grown_trans HA0.out.2.2.2.1 hgw,rfl⟩
   have h24':¬ 24<ordP P:=h24
   clear h24
   obtain⟨op,hope⟩:∃op,op=ordP P:=⟨_,rfl⟩
   rw[←hope] at h24'
   rw[←hope]
   have HOP:=Lib.hid hope;clear hope
   obtain⟨b0_,b1_,b2_,b3_,_⟩:=id (HA.out w53 hgw).1
   go_wp2_with fail
   clear b0_ b1_ b2_ b3_
   refine Calls.mono (iDcs_ok P w53 _ _ _ V U _ _ _ (HA.out w53 hgw).2.1 (HA.out w53 hgw).2.2.2.1 (HA.out w53 hgw).2.2.1) ?_
   rintro e54 w54 ⟨v54,rfl,hg_,oa,on,oc,rfl,hO_⟩
   replace hgw:=grown_trans hgw hg_
   replace hgE:=grown_trans hgE hg_
   rw[HG.out.2.1]
   obtain⟨K,hK⟩:∃K,K=(dcsL P V U).length:=⟨_,rfl⟩
   have hgf:=HGF.out.1
   have hgt:=HGF.out.2
   rw[←hK] at hol hgt
   obtain rfl:K=on:=by
    obtain⟨a,c,e,_⟩:=Sl.shape (RowsD.rows (SlO.toD hO_ (by omega)))
    cases e;exact hK
   clear hK hO_
   clear hg_
   have hKM:K*M≤729*729:=Nat.mul_le_mul hol hsl
   have HGG:=Lib.hid (And.intro hgf (And.intro hgt HLM.out.2));clear hgf hgt HG HGF HLM
   obtain⟨wq,rfl⟩:∃wq:World,wq=w54:=⟨_,rfl⟩
   clear h24'
   go_wp2
   go_loopw [18,19] (fun tv iv wr=>∃(i t:Nat),iv=.int .i64 (i:Int)∧tv=.int .i64 (t:Int)∧i≤M∧t≤729*729∧Ext wq wr∧Hid (t=sm g (L.take i))) (fun _ iv _=>M-(intOf iv).toNat)
   case atStart=>exact⟨0,0,rfl,rfl,by omega,by omega,grown_refl _ _,Lib.hid (by simp[sm])⟩
   case round=>
    obtain⟨i,t,rfl,rfl,hi,ht,hg,hT⟩:=hrel
    obtain⟨wo,rfl⟩:∃wo:World,wo=wr:=⟨_,rfl⟩
    have hgr:=grown_trans hgw hg
    by_cases hlt:i<M
    ·have hlt':(i:Int)<M:=by omega
     have hiL:i<L.length:=by rw[←HGG.out.2.2];exact hlt
     obtain⟨hyV,hyc,hyB,hyf⟩:=HGG.out.1 _ (gtMem hiL)
     obtain⟨rb,ro,ax,capx,hab,_,_,hcx,hx⟩:=Rows2.at (HE.out wo (grown_trans hgE hg)) i hiL
     subst hab
     have hst:=sm_take_succ g L i hiL
     have hle:=sm_take_le g L (i+1)
     have htot:=HGG.out.2.1
     rw[←HGG.out.2.2] at htot
     obtain⟨y,hye⟩:∃y,y=gt L i:=⟨_,rfl⟩
     rw[←hye] at hcx hx hyV hyc hyB hyf hst
     obtain⟨s,hs⟩:∃s,s=g y:=⟨_,rfl⟩
     rw[←hs] at hyf hst
     rw[←hT.out] at hst
     have hsb:t+s≤729*729:=by omega
     have hgl:=G.sub_len hyB
     have hgs:∀w' v,Ext wo w'→Rows2 Any w' v [y]→Calls Tryz.prog 56 #[.agg #[.slice a1 n1 c1,.slice a2 n2 c2,.slice a3 n3 c3],v] w' (Ret w' fun w'' v'=>∃a n c,v'=.tuple #[.slice a n c,.int .i64 0]∧Rows2 Any w'' (.slice a n c) (gsL P [y])):=fun w' v h hv=>by
      refine Calls.mono (iGenSub_ok P w' _ v [y] _ _ (HA.out w' (grown_trans hgr h)).2.1 hv) ?_
      rintro e1 w1 ⟨v1,rfl,hg1,a,n,c,rfl,hO⟩
      exact⟨_,rfl,hg1,a,n,c,by rw[hyc],Rows2.sub (RowsD.rows (SlO.toD hO (by omega))) (fun _ _ _=>trivial)⟩
     have hfx:∀w' v,Ext wo w'→Rows2 Any w' v (gsL P [y])→Calls Tryz.prog 84 #[.agg #[.slice a1 n1 c1,.slice a2 n2 c2,.slice a3 n3 c3],.slice ra rn rc,v] w' (Ret w' fun _ v'=>v'=.tuple #[.int .i64 (s:Int),.int .i64 0]):=fun w' v h hv=>by
      rw[←hyf]
      exact iFix_ok P hr w' _ _ v U (gsL P [y]) _ _ _ (HA.out w' (grown_trans hgr h)).2.1 (HA.out w' (grown_trans hgr h)).2.2.1 hv hUB hyB h128
     have HX:=Lib.hid (And.intro hst (And.intro hgs hfx));clear hst hgs hfx hle htot hyV hyc hyf hs hye hiL hyB hgl
     have f1_:∀w',Ext wo w'→w'.cell? ⟨pb,0,none⟩=some (.slice a1 n1 c1):=fun w' h=>(HA.out w' (grown_trans hgr h)).1.2.1
     have f2_:∀w',Ext wo w'→w'.cell? ⟨pb,1,none⟩=some (.slice a2 n2 c2):=fun w' h=>(HA.out w' (grown_trans hgr h)).1.2.2.1
     have f3_:∀w',Ext wo w'→w'.cell? ⟨pb,2,none⟩=some (.slice a3 n3 c3):=fun w' h=>(HA.out w' (grown_trans hgr h)).1.2.2.2.1
     have f4_:∀w',Ext wo w'→w'.cell? ⟨rb,ro+i,none⟩=some (.slice ax y.length capx):=fun w' h=>h.cell hcx (by simp)
     clear hcx
     go_wp2
     go_region_held3 (fun w'=>Ext wo w') (first|exact grown_drew _ _|assumption|exact grown_trans (grown_drew _ _) (World.grownBy_alloc _ _ _))
      (first
       | (go_at_call 56;refine Calls.mono (Calls.rel (w0:=wo) (by assumption) (HX.out.2.1 _ _ (by assumption) (rows2One (S':=Any) hx (fun _ _ _=>trivial) trivial))) ?_;rintro e6 w6 ⟨v6,rfl,hg6,_,ga,gn,gc,rfl,hG6⟩))
     clear f1_ f2_ f3_ f4_
     obtain⟨b0_,b1_,b2_,b3_,_⟩:=id (HA.out w6 (grown_trans hgr hg6)).1
     go_wp2_with fail
     clear b0_ b1_ b2_ b3_
     refine Calls.mono (HX.out.2.2 w6 _ hg6 hG6) ?_
     rintro e7 w7 ⟨v7,rfl,hg7,rfl⟩
     have hgn:=grown_trans hg (grown_trans hg6 hg7)
     have hsum:(t:Int)+(s:Int)=((t+s:Nat):Int):=by omega
     have HST:=Lib.hid (And.intro HX.out.1.symm hsum);clear HX hsum hT hG6
     go_wp2
     go_roundw
     case rel=>exact⟨i+1,t+s,by go_num,by rw[←HST.out.2],by omega,hsb,hgn,Lib.hid HST.out.1⟩
     case measure=>simp[intOf];omega
    ·have hie:i=M:=by omega
     have hnl:¬(i:Int)<M:=by omega
     have htt:(t:Int)=(K:Int)*(M:Int):=by
      rw[hT.out,hie,List.take_of_length_le (by rw[HGG.out.2.2];exact Nat.le_refl _),HGG.out.2.1,←HGG.out.2.2]
      exact Int.natCast_mul _ _
     have hwr:IntKind.i64.wrap ((K:Int)*(M:Int))=(K:Int)*(M:Int):=IntWalk.i64_in _ (by rw[←Int.natCast_mul];omega)
     rw[htt]
     clear htt hT
     go_wp2
     go_ret
     exact⟨_,rfl,grown_trans HA0.out.2.2.2.1 hgr,by simp⟩
end Go.Proofs.YtdcobapnlpeaaaaGreat
namespace Go.Proofs.YtdcobapnlpeaaaaGreat
open Go.RowKit Go.ChangeShapes Go.WideShapes Go.Deep
section
variable {H:Type}{enc:TypeId × Value→H}{W:World}{sp:Nat→Bool}
theorem open_sl {α:Type} [Inhabited α] {El:World→Value→α→Prop}{t e:TypeId} (ht:Tryz.prog.underlying t=some (.slice e)) (hc:Tryz.prog.cellsOf e=1)
  (hEl:∀n c x,DataW.trod enc Tryz.prog W 0 sp true n e [c]=some x→∃y,El W c y) {fuel:Nat}{c:Value}{x:DataW H × List MemPlace} (h:DataW.trod enc Tryz.prog W 0 sp true fuel t [c]=some x) :
  ∃xs:List α,Sl El Any W c xs:=by
 rcases open_slice1 ht hc h with⟨hcs,_⟩|⟨a,len,cap,m,n,V,D,Pl,hcs,_,hl,hm,hmm,_,hx⟩
 ·cases hcs
  exact⟨[],none,0,rfl,⟨by simp,by simp,fun _=>rfl⟩,fun i hi=>by simp at hi⟩
 ·cases hcs
  have hlm:len≤m:=by rw[hmm];split<;>omega
  obtain⟨Z,hZ⟩:=choose_lt (α:=α) (n:=len) (p:=fun i y=>El W (V i) y) (fun i hi=>hEl n (V i) _ (hx i (by omega)).2)
  refine⟨(List.range len).map Z,some a,cap,by simp,⟨by simpa using hl,by simp;unfold maxLen at hm;omega,fun h=>by cases h⟩,fun i hi => ?_⟩
  simp only[List.length_map,List.length_range] at hi
  obtain⟨h1,h2⟩:=hx i (by omega)
  obtain⟨b,off,spot⟩:=a
  have hs:spot=none:=by
   have h0:=(hx 0 (by omega)).1
   exact World.cell?_spot (by simpa [Addr.add] using h0)
  subst hs
  have hcell:W.cell? ⟨b,off+i,none⟩=some (V i):=by
   have e:(⟨b,off,none⟩:Addr).add i=⟨b,off+i,none⟩:=by
    unfold Addr.add;split
    ·rename_i h;subst h;rfl
    ·rfl
   rw[←e];exact h1
  refine⟨b,off,V i,rfl,trivial,World.block_lt_of_cell? W _ hcell,hcell,?_⟩
  have:gt ((List.range len).map Z) i=Z i:=by simp[gt,hi]
  rw[this];exact hZ i hi
end
end Go.Proofs.YtdcobapnlpeaaaaGreat
namespace Go.Proofs.YtdcobapnlpeaaaaGreat
open Go.RowKit Go.ChangeShapes Go.WideShapes Go.ChangeAt
theorem ownB:ownKnob Tryz.prog.godebug=none:=by kernel_rfl
theorem laidOutP:laidOutB Tryz.prog=true:=by kernel_rfl
theorem und_u8:Tryz.prog.underlying 5=some (.int .u8):=by kernel_rfl
theorem und_bytesB:Tryz.prog.underlying 22=some (.slice 5):=by kernel_rfl
theorem cells_u8:Tryz.prog.cellsOf 5=1:=by kernel_rfl
theorem open_u8 {H:Type}{enc:TypeId × Value→H}{W:World}{sp:Nat→Bool}{n:Nat}{c:Value}{x:DataW H × List MemPlace} (h:DataW.trod enc Tryz.prog W 0 sp true n 5 [c]=some x):∃y,ByteEl W c y:=by
 cases n with
 | zero=>simp[DataW.trod] at h
 | succ n=>
  unfold DataW.trod at h
  rw[und_u8] at h
  cases c<;>simp at h
  rename_i k z
  obtain⟨⟨rfl,hz⟩,_⟩:=h
  have hz2:0≤z∧z≤255:=by
   have h2:=hz
   simp[Lit.wf,IntKind.min,IntKind.max,IntKind.signed,IntKind.bits] at h2
   omega
  exact⟨z,rfl,hz2⟩
theorem open_bytes {H:Type}{enc:TypeId × Value→H}{W:World}{sp:Nat→Bool}{n:Nat}{c:Value}{x:DataW H × List MemPlace} (h:DataW.trod enc Tryz.prog W 0 sp true n 22 [c]=some x):∃l,Bytes Any W c l:=
 open_sl (El:=ByteEl) und_bytesB cells_u8 (fun _ _ _ h=>open_u8 h) h
end Go.Proofs.YtdcobapnlpeaaaaGreat
namespace Go.Proofs.YtdcobapnlpeaaaaGreat.RowDbOf
open Go.RowKit Go.ChangeShapes Go.WideShapes Go.ChangeAt
set_option maxRecDepth 100000 in
set_option maxHeartbeats 1000000 in
theorem lifted (os:Os) (started:os.Started) (H:Type) (enc:TypeId × Value→H) :
  ReturnsInHanded {} Tryz.checked os 12 .any (Rows.fnDoubleCosetsSpec.pre6 enc Tryz.prog Tryz.f12 Rows.fnDoubleCosetsRow.domain false) (Rows.fnDoubleCosetsSpec.post enc Tryz.prog Tryz.f12 false true false false):=by
 refine returnsInHanded_of_change (C:=Tryz.checked) (s:=Rows.fnDoubleCosetsSpec) ownB started (by kernel_rfl) Tryz.func12
  (ChangeSpec.witness6 (enc:=enc) (C:=Tryz.checked) (s:=Rows.fnDoubleCosetsSpec) false ⟨#[],#[.slice none 0 0],[]⟩ 8 (by kernel_rfl) (by kernel_rfl) (by kernel_rfl) (by kernel_rfl) (by kernel_rfl)) ?_
 intro W base args ds gs before hval0 hW _ _
 have hW':=hW
 obtain⟨p,q,hA0,hV,rfl,_,_⟩:=hW
 have hA:DataW.TrodAll enc Tryz.prog W 0 (fun _=>true) true Tryz.f12.params.toList args.toList ds p:=hA0
 rw[Tryz.params12] at hA
 obtain⟨v0,vs0,d0,ds0,p0,q0,hargs,rfl,rfl,h0,r0⟩:=trodAll_cons hA
 obtain⟨rfl,rfl,rfl⟩:=trodAll_nil r0
 obtain rfl:args = #[v0]:=by cases args;simp_all
 obtain⟨rfl,rfl⟩:=trodVars_none hV
 have hval:Value.okWide Tryz.prog W .any base 22 v0:=hval0 0 _ _ (by rw[Tryz.params12];rfl) rfl
 obtain⟨b0,n0,c0,rfl⟩:=okWide_slice und_bytesB hval
 obtain⟨f0,hf0⟩:=h0
 obtain⟨l,hP⟩:=open_bytes (c := .slice b0 n0 c0) hf0
 have hlt:∀x∈p0,x.block<W.heap.size:=fun x hx=>by simpa using hW'.lt x (by simpa using hx)
 clear hA0
 simp only[List.append_nil] at hW'
 refine(lawDb_ok W (.slice b0 n0 c0) l Any hP).mono fun e W' ⟨v,he,hg,hv⟩ => ?_
 subst he;subst hv
 have hb:Below W.heap.size W W':=hg.below
 have hargs2:=Below.trod laidOutP (by kernel_rfl) (of_decide_eq_true (by kernel_rfl)) ⟨f0,hf0⟩ hb hlt
 exact⟨_,rfl,[d0],[],p0,[],p0,[],hW',trodAll_mk1 (shut_bool Tryz.underlying4 _),trodAll_mk1 hargs2,rfl,hb.frame _,fun h=>by cases h⟩
theorem c0:Rows.fnDoubleCosetsRow.wf (OpenSpec.ofChange Rows.fnDoubleCosetsSpec)=true:=by kernel_rfl
theorem c1:laidOutB Tryz.pinned.checked.prog=true:=by kernel_rfl
theorem c2:mapsRowed Tryz.pinned.checked.prog=true:=by kernel_rfl
theorem c3:Tryz.f12.params.all (Tryz.pinned.checked.prog.readableRec ·)=true:=by kernel_rfl
theorem c4:namedTie Tryz.pinned.checked.prog Rows.fnDoubleCosetsRow.named Rows.fnDoubleCosetsSpec.vars=true:=by kernel_rfl
theorem c5:(Rows.fnDoubleCosetsRow.stops == [])=true:=by kernel_rfl
theorem c6:(Tryz.pinned.checked.prog.stops == [])=true:=by kernel_rfl
theorem c7:(Rows.fnDoubleCosetsRow.knobs == [])=true:=by kernel_rfl
theorem c8:(Tryz.pinned.checked.prog.stopKnobs == [])=true:=by kernel_rfl
theorem c9:(Rows.fnDoubleCosetsRow.inPlace == Tryz.pinned.checked.prog.inPlace 12)=true:=by kernel_rfl
theorem c10:(Rows.fnDoubleCosetsRow.unfollowed == Tryz.pinned.checked.prog.unfollowed 12)=true:=by kernel_rfl
theorem c11:(Rows.fnDoubleCosetsRow.recurses == Tryz.pinned.checked.prog.recurses 12)=true:=by kernel_rfl
theorem c12:(Rows.fnDoubleCosetsRow.named == Tryz.pinned.checked.prog.varsNamed 12)=true:=by kernel_rfl
theorem c13:(Rows.fnDoubleCosetsRow.maps == (Tryz.f12.params.toList++Rows.fnDoubleCosetsSpec.plain.varTypes Tryz.pinned.checked.prog).any (Tryz.pinned.checked.prog.mapsRec ·))=true:=by kernel_rfl
theorem c14:(Rows.fnDoubleCosetsRow.ifaces == (Tryz.f12.params.toList++Rows.fnDoubleCosetsSpec.plain.varTypes Tryz.pinned.checked.prog).any (Tryz.pinned.checked.prog.ifacesRec ·))=true:=by kernel_rfl
theorem c15:(Rows.fnDoubleCosetsRow.mapsOut == Tryz.pinned.checked.prog.mapsAmong Tryz.f12.resultTypes.toList)=true:=by kernel_rfl
theorem c16:(Rows.fnDoubleCosetsRow.loops == (Tryz.f12.params.toList++Rows.fnDoubleCosetsSpec.plain.varTypes Tryz.pinned.checked.prog).any (Tryz.pinned.checked.prog.loopsFrom ·))=true:=by kernel_rfl
theorem c17:(Rows.fnDoubleCosetsRow.wideKeys == (Tryz.f12.params.toList++Rows.fnDoubleCosetsSpec.plain.varTypes Tryz.pinned.checked.prog++Tryz.f12.resultTypes.toList).any (Tryz.pinned.checked.prog.wideKeysFrom ·))=true:=by kernel_rfl
theorem c18:Rows.fnDoubleCosetsSpec.vars.all (Tryz.pinned.checked.prog.varReadable ·)=true:=by kernel_rfl
theorem c19:Tryz.f12.resultTypes.all (fun t=>Tryz.pinned.checked.prog.readableRec t && decide (t<Tryz.pinned.checked.prog.types.size))=true:=by kernel_rfl
theorem c20:(Rows.fnDoubleCosetsRow.ifacesOut == Tryz.f12.resultTypes.toList.any (Tryz.pinned.checked.prog.ifacesRec ·))=true:=by kernel_rfl
theorem c21:(Rows.fnDoubleCosetsRow.loopsOut == Tryz.f12.resultTypes.toList.any (Tryz.pinned.checked.prog.loopsFrom ·))=true:=by kernel_rfl
theorem c22:(Rows.fnDoubleCosetsRow.plainKeys == Tryz.pinned.checked.prog.plainKeys)=true:=by kernel_rfl
theorem c23:Rows.fnDoubleCosetsRow.shortTexts.isNone=true:=by kernel_rfl
theorem c24:Tryz.pinned.checked.prog.stopsHeard=true:=by kernel_rfl
theorem c25:Tryz.pinned.checked.prog.mayEnter=true:=by kernel_rfl
theorem c26:(Rows.fnDoubleCosetsRow.lifted == Tryz.pinned.checked.prog.liftsFinal)=true:=by kernel_rfl
theorem c27:(Tryz.pinned.checked.prog.make == some Rows.fnDoubleCosetsRow.make)=true:=by kernel_rfl
theorem c28:(Rows.fnDoubleCosetsRow.kinds == (if Rows.fnDoubleCosetsRow.domain.isEmpty then [] else Tryz.f12.params.toList.map fun t=>match Tryz.pinned.checked.prog.underlying t with|some (.int k)=>some k|_=>none))=true:=by kernel_rfl
theorem c29:(Rows.fnDoubleCosetsRow.pinned == Rows.fnDoubleCosetsRow.pinnedBy)=true:=by kernel_rfl
theorem c30:(Rows.fnDoubleCosetsRow.veiled == (Tryz.f12.params.toList++Rows.fnDoubleCosetsSpec.plain.varTypes Tryz.pinned.checked.prog++Tryz.f12.resultTypes.toList).any (Tryz.pinned.checked.prog.veiledRec ·))=true:=by kernel_rfl
theorem c31:Rows.fnDoubleCosetsRow.veiledFits Tryz.pinned.checked.prog Tryz.f12.params.toList (Tryz.f12.params.toList++Rows.fnDoubleCosetsSpec.plain.varTypes Tryz.pinned.checked.prog++Tryz.f12.resultTypes.toList)=true:=by kernel_rfl
set_option maxRecDepth 1000000 in
theorem facts:joinedFacts Tryz.pinned.checked.prog 12 Tryz.f12 Rows.fnDoubleCosetsSpec Rows.fnDoubleCosetsRow=true:=
 Bool.and_eq_true_iff.2 ⟨Bool.and_eq_true_iff.2 ⟨Bool.and_eq_true_iff.2 ⟨Bool.and_eq_true_iff.2 ⟨Bool.and_eq_true_iff.2 ⟨Bool.and_eq_true_iff.2 ⟨Bool.and_eq_true_iff.2 ⟨Bool.and_eq_true_iff.2 ⟨Bool.and_eq_true_iff.2 ⟨Bool.and_eq_true_iff.2 ⟨Bool.and_eq_true_iff.2 ⟨Bool.and_eq_true_iff.2 ⟨Bool.and_eq_true_iff.2 ⟨Bool.and_eq_true_iff.2 ⟨Bool.and_eq_true_iff.2 ⟨Bool.and_eq_true_iff.2 ⟨Bool.and_eq_true_iff.2 ⟨Bool.and_eq_true_iff.2 ⟨Bool.and_eq_true_iff.2 ⟨Bool.and_eq_true_iff.2 ⟨Bool.and_eq_true_iff.2 ⟨Bool.and_eq_true_iff.2 ⟨Bool.and_eq_true_iff.2 ⟨Bool.and_eq_true_iff.2 ⟨Bool.and_eq_true_iff.2 ⟨Bool.and_eq_true_iff.2 ⟨Bool.and_eq_true_iff.2 ⟨Bool.and_eq_true_iff.2 ⟨Bool.and_eq_true_iff.2 ⟨Bool.and_eq_true_iff.2 ⟨Bool.and_eq_true_iff.2 ⟨c0,c1⟩,c2⟩,c3⟩,c4⟩,c5⟩,c6⟩,c7⟩,c8⟩,c9⟩,c10⟩,c11⟩,c12⟩,c13⟩,c14⟩,c15⟩,c16⟩,c17⟩,c18⟩,c19⟩,c20⟩,c21⟩,c22⟩,c23⟩,c24⟩,c25⟩,c26⟩,c27⟩,c28⟩,c29⟩,c30⟩,c31⟩
theorem proved:Rows.FnDoubleCosetsSaid:=
 OpenClaim.holds_of_wide 12 Tryz.f12 rfl rfl rfl rfl rfl rfl rfl ⟨rfl,rfl,rfl,rfl,rfl⟩ rfl rfl rfl rfl rfl (by kernel_rfl) Tryz.func12 facts
  (of_decide_eq_true (by kernel_rfl)) (by unfold Func.isWrapper;first|(rw[if_pos (by decide +kernel)];kernel_rfl)|(rw[if_neg (by decide +kernel)];exact⟨rfl,rfl⟩))
  (fun os started H enc _=>lifted os started H enc)
#print axioms proved
end Go.Proofs.YtdcobapnlpeaaaaGreat.RowDbOf
