/- Merged from templates. -/
import Derived.Test.YtoakmefajbbggaaGreatM9
set_option maxRecDepth 100000
set_option maxHeartbeats 8000000
namespace Go.Proofs.YtoakmefajbbggaaGreat
open Go.RowKit
structure uH (P:Pr) (M:List Nat) (GS:List (List Nat)):Prop where
 len:GS.length=M.length
 mR:∀j,j<M.length->gt M j=gB P (mG P (gt GS j))/\(∀g∈gt GS j,g<(eW P).toNat)/\(gt GS j).length<=j
theorem uH.app {P:Pr}{M:List Nat}{GS:List (List Nat)}(h:uH P M GS) {k t:Nat}(hk:k<M.length) (e:t<(eW P).toNat):uH P (M++[gB P (mG P (gt GS k++[t]))]) (GS++[gt GS k++[t]]):=by
 refine⟨by simp[h.len],λj i => ?_⟩;simp only[List.length_append,List.length_singleton] at i;by_cases a:j<M.length
 ·rw [iX _ _ _ a,iX _ _ _ (by rw[h.len];exact a)]
  exact h.mR j a
 ·have:j=M.length:=by omega
  subst this;rw[kr,<-h.len,kr];obtain⟨h1,h2,h3⟩:=h.mR k hk;have l:=h.len;refine⟨rfl,λg m => ?_,by simp;omega⟩;rcases List.mem_append.1 m with b|b
  ·exact h2 g b
  ·rw[List.mem_singleton.1 b];exact e
theorem Ky {P:Pr}(G:ez P):uH P [1] [[]]:=by
 refine⟨rfl,λj a => ?_⟩;have:j=0:=by simp at a;omega
 subst this;refine⟨?_,λg b=>(by cases b),by simp[gt]⟩;show(1:Nat)=gB P (mG P [])
 rw[G.Kz,G.BR]
theorem KA {a b:Nat} : ((a:Int) == (b:Int))=decide (a=b):=by
 by_cases h:a=b
 ·subst h;simp
 ·have:¬(a:Int)=b:=by omega
  simp[h,this]
theorem gN.low {α:Type} [Inhabited α] {El:(Nat->Prop)->World->Value->α->Prop}{E B:Nat}{A:Nat->Prop}{w:World}{v:Value}{xs:List α}(h:gN El E B w v xs) (a:∀k,A k->k<B):gT El E B A w v xs:=by
 obtain⟨j,G,h1,b,e,h4,h5⟩:=h;exact⟨j,G,h1,b,e,h4,h5,λi k l hk ha=>by have:=(e i k l hk).1;have:=a k ha;omega,λk hk ha=>by have:=(b.lt k hk).1;have:=a k ha;omega⟩
theorem zJ {m:Array Oper}{rest:List Oper}{o:Oper}{a:Act}{Q:Exit->Act->World->Prop}{w:World}(u:o.guard=none) (s x:Operand)
  (D:o.op=Op.call { callee:=Callee.builtin Builtin.append,args := #[s,x],argTypes := #[24,24] }) (B:Nat) (v:Value) (l:List Int) (y:Int) (E:a.eval s=v) (b:World) (p:Own B b v l)
  (F:w=b.alloc (.cells #[.int .i64 y] 2)) (hx:a.eval x=.slice (some ⟨b.heap.size,0,none⟩) 1 1) (C:l.length<=1000000) (z:B<=b.heap.size)
  (h:∀q w',Own B w' q (l++[y])->b.grownBy w' v.ownBlock->(∀k,q.ownBlock=some k->v.ownBlock=some k\/b.heap.size<=k)->wpList Tryz.prog m Q rest (a.put o.dst q) w') :
  wpList Tryz.prog m Q (o :: rest) a w:=by
 subst F;have i:Ext b (b.alloc (.cells #[.int .i64 y] 2)):=World.grownBy_alloc _ _ _;refine nX 24 2 (.int .i64 0) 8 qz Tryz.pV rfl (by decide) u s x D B v (l.map (Value.int .i64)) E (p.gw i).v (some ⟨b.heap.size,0,none⟩) 1 1 [.int .i64 y] hx rfl (by simp) ?_ ?_ (by simp;omega) (by have:=i.size;omega) ?_
 ·intro j H
  have:j=0:=by omega
  subst this;exact⟨_,_,rfl,by rw[World.cell?_alloc_at _ _ _ _ rfl];rfl⟩
 ·intro I r
  simp at r;subst r;rfl
 ·intro q w' h1 G _ A
  refine h q w' (Own.of (by rw[List.map_append];exact h1)) (dy (fH _ i) G) (λk hk => ?_);rcases A with e|e
  ·exact .inl (by rw[<-e];exact hk)
  ·rw [e] at hk
   have:(b.alloc (.cells #[.int .i64 y] 2)).heap.size=k:=by simpa using hk
   exact .inr (by simp at this;omega)
set_option linter.unusedSimpArgs false in
set_option maxHeartbeats 16000000 in
theorem KB (P:Pr) (G:ez P) (w:World) (pv:Value) (Sp:Nat->Prop) (bC:eW P<=32) (ej:gy Sp w pv P) :
  Calls Tryz.prog 150 #[pv] w (fq w λw' v=>∃sv mv,v=.agg #[sv,mv]/\∃L,jO P L/\fU (From w.heap.size) w' sv L/\Ints (From w.heap.size) w' mv (fL (L.map (gC P)))):=by
 have hP:=G.v;have e7:=hP.n6;have dm:=hP.kT;obtain⟨vo,vp,vc,rfl,h3⟩:=ej;have dn:=fB.box h3 28;have dp:Ext w (w.alloc (.cells #[vo,vp,vc] 28)):=World.grownBy_alloc _ _ _;obtain⟨bo,fN,fM,_,_,ax,ao,ap,fP⟩:=dn.at;simp only[Nat.zero_add] at ao ap;have dq:(w.alloc (.cells #[vo,vp,vc] 28)).heap.size=w.heap.size+1:=by simp
 have aA:Ext (w.alloc (.cells #[vo,vp,vc] 28)) ((w.alloc (.cells #[vo,vp,vc] 28)).alloc (.cells #[.slice none 0 0,.slice none 0 0] 163)):=World.grownBy_alloc _ _ _;have dr:((w.alloc (.cells #[vo,vp,vc] 28)).alloc (.cells #[.slice none 0 0,.slice none 0 0] 163)).heap.size=w.heap.size+1+1:=by simp
 have bp:∀k,k<2->((w.alloc (.cells #[vo,vp,vc] 28)).alloc (.cells #[.slice none 0 0,.slice none 0 0] 163)).cell? ⟨w.heap.size+1,k,none⟩=some (.slice none 0 0)/\((w.alloc (.cells #[vo,vp,vc] 28)).alloc (.cells #[.slice none 0 0,.slice none 0 0] 163)).frozen? ⟨w.heap.size+1,k,none⟩=false:=λk hk=>by
  rw[<-dq];constructor
  ·rw [World.cell?_alloc_at _ _ _ _ rfl]
   rcases(show k=0\/k=1 by omega) with rfl|rfl<;>rfl
  ·simp
 have ds:∀w',Ext ((w.alloc (.cells #[vo,vp,vc] 28)).alloc (.cells #[.slice none 0 0,.slice none 0 0] 163)) w'->w'.cell? ⟨w.heap.size,0,none⟩=some bo/\w'.cell? ⟨w.heap.size,1,none⟩=some fN/\w'.cell? ⟨w.heap.size,2,none⟩=some fM:=λw' h=>⟨(dy aA h).cell ax (by simp),(dy aA h).cell ao (by simp),(dy aA h).cell ap (by simp)⟩;obtain⟨N,hN⟩:∃N,N=(eW P).toNat:=⟨_,rfl⟩;have dt:eW P=(N:Int):=by omega
 have eL:N<=32:=by omega
 have cE:1<=N:=by omega
 have b':=dy dp aA;have cF:=fA.ext fP aA;have HB:=Lib.hid (And.intro ds (And.intro dr (And.intro bp (And.intro hN dt))));clear ds dq dr dn hN dt dm bp fP aA;go_enter Tryz.func150,Tryz.ntmps150;go_wp2_with fail
 clear ax ao ap;generalize ek:(w.alloc (.cells #[vo,vp,vc] 28)).alloc (.cells #[.slice none 0 0,.slice none 0 0] 163)=w0 at *;clear ek dp;refine Calls.mono (Ep P G w0 _ Sp ⟨_,_,_,rfl,h3.ext b'⟩) ?_;rintro e1 C ⟨tv,rfl,aW,hT⟩;obtain⟨mR,du,rfl,_,_⟩:=Sl.shape hT;have bE:(gD P).length=N:=by rw[oV,HB.out.2.2.2.1]
 have dv:dK Any C (.slice mR (gD P).length du) (gD P):=dK.sub hT (λ_ _ _=>trivial);rw[bE] at dv ⊢;have HT:=Lib.hid bE;clear hT bE;have eN:=dy b' aW;-- the first mask and its generators
 have ay:Own C.heap.size (C.alloc (.cells #[.int .i64 1] 2)) (.slice (some ⟨C.heap.size,0,none⟩) 1 1) (fL [1]):=World.ownsRow_lit C #[.int .i64 1] 1 (Nat.le_refl _) (by decide) rfl;have Z:Ext C (C.alloc (.cells #[.int .i64 1] 2)):=World.grownBy_alloc _ _ _;have dw:(C.alloc (.cells #[.int .i64 1] 2)).heap.size=C.heap.size+1:=by simp
 have bq:Own (C.heap.size+1) ((C.alloc (.cells #[.int .i64 1] 2)).alloc (.cells #[] 2)) (.slice (some ⟨C.heap.size+1,0,none⟩) 0 0) (fL []):=by
  have:Own (C.alloc (.cells #[.int .i64 1] 2)).heap.size ((C.alloc (.cells #[.int .i64 1] 2)).alloc (.cells #[] 2)) (.slice (some ⟨(C.alloc (.cells #[.int .i64 1] 2)).heap.size,0,none⟩) 0 0) (fL []):=World.ownsRow_lit (C.alloc (.cells #[.int .i64 1] 2)) #[] 0 (Nat.le_refl _) (by decide) rfl;rw[dw] at this;exact this
 have az:Ext (C.alloc (.cells #[.int .i64 1] 2)) ((C.alloc (.cells #[.int .i64 1] 2)).alloc (.cells #[] 2)):=World.grownBy_alloc _ _ _;have ca:((C.alloc (.cells #[.int .i64 1] 2)).alloc (.cells #[] 2)).heap.size=C.heap.size+1+1:=by simp
 have bF:=ay.gw az;have aX:=dy Z az;obtain⟨wB,cG⟩:∃wB,wB=(C.alloc (.cells #[.int .i64 1] 2)).alloc (.cells #[] 2):=⟨_,rfl⟩;rw[<-cG] at bq ca bF aX;have bG:gN gf 24 (C.heap.size+1) (wB.alloc (.cells #[.slice (some ⟨C.heap.size+1,0,none⟩) 0 0] 24)) (.slice (some ⟨wB.heap.size,0,none⟩) 1 1) [fL []]:=gN.Er gX (gf.of bq (by simp[fL]) (λk h1 _=>h1)) (by omega);rw[ca] at bG;have cH:Ext wB (wB.alloc (.cells #[.slice (some ⟨C.heap.size+1,0,none⟩) 0 0] 24)):=World.grownBy_alloc _ _ _;have cI:=bF.gw cH;have aY:=dy aX cH
 have aZ:gT gf 24 C.heap.size (λk=>(Value.slice (some ⟨C.heap.size,0,none⟩) 1 1).ownBlock=some k) (wB.alloc (.cells #[.slice (some ⟨C.heap.size+1,0,none⟩) 0 0] 24)) (.slice (some ⟨C.heap.size+1+1,0,none⟩) 1 1) ([[]].map fL):=by
  have h1:=bG.low (A:=λk=>(Value.slice (some ⟨C.heap.size,0,none⟩) 1 1).ownBlock=some k) (λk hk=>by have:=ku hk;omega);obtain⟨vs,Gg,a1,a2,a3,a4,a5,a6,a7⟩:=h1;exact⟨vs,Gg,a1,fK.weak a2 (by omega),λi k hi hk=>by have:=a3 i k hi hk;exact⟨by omega,this.2⟩,a4,a5,a6,a7⟩
 obtain⟨wC,cJ⟩:∃wC,wC=wB.alloc (.cells #[.slice (some ⟨C.heap.size+1,0,none⟩) 0 0] 24):=⟨_,rfl⟩;rw[<-cJ] at cI aY aZ;have HC:=Lib.hid (And.intro cI (And.intro aY (And.intro aZ ca)));clear ay bq bF bG cI aZ aY cH az Z aX dw ca;go_wp2;rw[<-cG,<-cJ];clear cG cJ
 go_loopw [4,5,6] (λfv gv kv wr=>∃(M:List Nat) (GS:List (List Nat)) (k:Nat) (v4 v5:Value),v4=fv/\v5=gv/\kv=.int .i64 k/\k<=M.length/\Ext C wr/\Own C.heap.size wr v4 (fL M) /\
  gT gf 24 C.heap.size (λj=>v4.ownBlock=some j) wr v5 (GS.map fL)/\Hid (kU P M k 0/\uH P M GS)) (λ_ _ kv _=>17409-(intOf kv).toNat)
 case atStart=>exact⟨[1],[[]],0,_,_,rfl,rfl,rfl,by simp,HC.out.2.1,HC.out.1,HC.out.2.2.1,Lib.hid ⟨by have:=G.Es;rw[G.BR] at this;exact this,Ky G⟩⟩
 case round =>
  clear HC;obtain⟨M,GS,k,v4,v5,rfl,rfl,rfl,hk,hg,hO,hL,hF⟩:=hrel;have dz:=G.zK bC hF.out.1;have O:=hO.ints (by rw[iE];omega);obtain⟨a4,c4,bH,_,_⟩:=O.shape;rw[iE] at bH;subst bH;by_cases z:k<M.length
  ·have bI : (k:Int)<M.length:=by omega
   obtain⟨m,hm⟩:∃m,m=gt M k:=⟨_,rfl⟩;obtain⟨gk,dA⟩:∃gk,gk=gt GS k:=⟨_,rfl⟩;have T:=Lib.hid (And.intro hm dA);clear O;go_wp2
   go_loopw [4,5,7] (λfv gv tv wr=>∃(M:List Nat) (GS:List (List Nat)) (t:Nat) (v4 v5:Value),v4=fv/\v5=gv/\tv=.int .i64 t/\1<=t/\t<=N/\k<M.length/\Ext C wr/\Own C.heap.size wr v4 (fL M) /\
    gT gf 24 C.heap.size (λj=>v4.ownBlock=some j) wr v5 (GS.map fL)/\Hid (kU P M k t/\uH P M GS)/\Hid (m=gt M k/\gk=gt GS k)) (λ_ _ tv _=>N-(intOf tv).toNat)
   case atStart=>exact⟨M,GS,1,_,_,rfl,rfl,rfl,by omega,cE,z,hg,hO,hL,Lib.hid ⟨hF.out.1.skip (λH S _ _=>by rw[G.BS];exact S.one),hF.out.2⟩,T⟩
   case round =>
    clear hO hL hF dz z bI hk hm dA T hg;obtain⟨M,GS,t,v4,v5,rfl,rfl,rfl,ht1,ht,z,hg,hO,hL,hF,T⟩:=hrel;have aJ:=dy aW hg;obtain⟨ax,ao,ap⟩:=HB.out.1 wr aJ;have cK:=rX wr _ P Any hP ⟨_,_,_,rfl,fA.ext cF aJ⟩;rw[HB.out.2.2.2.2] at cK;have dz:=G.zK bC hF.out.1;have O:=hO.ints (by rw[iE];omega);obtain⟨a4,c4,bH,_,_⟩:=O.shape;rw[iE] at bH;subst bH;clear O;go_wp2_with fail
    clear ax ao ap;refine Calls.mono cK ?_;rintro eo wo ⟨e9,rfl,hgo,rfl⟩;clear cK;have aK:=dy hg hgo;have bJ:=hO.gw hgo;have bK:=hL.ext gX hgo;clear hO hL;by_cases eS:t<N
    ·have et:(t:Int)<N:=by omega
     have eu:(k:Int)<M.length:=by omega
     have O:=bJ.ints (by rw[iE];omega);obtain⟨b4,o4,hb4,_,_,a0⟩:=Ints.at (show Sl rO _ wo (.slice a4 M.length c4) (fL M) by rw[<-iE] at O ⊢;exact O) k (by rw[iE];exact z);subst hb4;rw[r7 z,<-T.out.1] at a0;have ah:=zL m t;have bj:t<(eW P).toNat:=by have:=HB.out.2.2.2.1;omega
     cases hb:m.testBit t with
     | true=>
      rw[hb] at ah;have ah:((m:Int)/2 ^ t).tmod 2=1:=ah;have bM:=Lib.hid (And.intro (Et hF.out.1 bj (by rw[<-T.out.1];exact hb)) hF.out.2);clear hF hb O;go_wp2;clear ah a0;go_roundw
      case rel=>exact⟨M,GS,t+1,_,v5,rfl,rfl,by go_num,by omega,by omega,z,aK,bJ,bK,bM,T⟩
      case measure=>simp[intOf];omega
     | false =>
      rw[hb] at ah;have ah:((m:Int)/2 ^ t).tmod 2=0:=ah;obtain⟨bN,bk,dB⟩:=hF.out.2.mR k z;rw[<-T.out.1,<-T.out.2] at bN;rw[<-T.out.2] at bk dB;have dC:(GS.map fL).length=M.length:=by rw[List.length_map,hF.out.2.len]
      have bs:=gY.rows (bK.o.iB (by omega));obtain⟨a5,c5,dD,_,_⟩:=Sl.shape bs;rw[dC] at dD;subst dD;have ch:dK (From C.heap.size) wo (.slice a5 (GS.map fL).length c5) (GS.map fL):=by rw[dC];exact bs
      obtain⟨b5,o5,ar,cr,Eu,_,_,cL,xG⟩:=dK.at ch k (by omega);subst Eu;rw[jM _ _ _ (by rw[hF.out.2.len];exact z),<-T.out.2] at cL xG;have dE:=iE gk;rw[dE] at cL;have ci:Ints (From C.heap.size) wo (.slice ar gk.length cr) (fL gk):=by rw[<-dE];exact xG
      have dF:gT gf 24 C.heap.size (λj=>(Value.slice (some ⟨b4,o4,none⟩) M.length c4).ownBlock=some j\/wo.heap.size<=j) wo (.slice (some ⟨b5,o5,none⟩) M.length c5) (GS.map fL):=bK.more (λj U=>U);have aL:=tu gk t
      have cj:∀g∈gk++[t],g<(eW P).toNat:=λg hg=>by
       rcases List.mem_append.1 hg with h|h
       ·exact bk g h
       ·rw[List.mem_singleton.1 h];exact bj
      have a9:=hF.out.2.app z bj;rw[<-T.out.2] at a9;have dG:Sub P (mG P gk):=G.BU bk;have HS:=Lib.hid (And.intro bN (And.intro cj (And.intro aL (And.intro a9 dG))));clear bN bk cj aL a9 dG xG bs ch hb O bK;go_wp2_with fail
      clear ah a0 cL;refine Calls.mono (mD wo _ (fL gk) _ ci (by omega)) ?_;rintro eP wP ⟨pv,rfl,cN,cO⟩;clear ci;go_wp2_with (first|(at_builtin;refine qB rfl _ _ rfl wo.heap.size _ (fL gk) (t:Int) rfl wP cO rfl rfl (by omega) cN.size ?_;intro v8 w8 V F;have ck:Ext wo w8:=fu cN F (λb hb z=>by have:=(cO.lt b hb).1;omega))|fail)
      rw[<-HS.out.2.2.1] at V;have cP:=V.ints (by rw[iE];simp;omega);obtain⟨a8,c8,nZ,_,_⟩:=cP.shape;subst nZ;refine Calls.mono (KC P G w8 _ _ (gk++[t]) Any _ bC (dK.ext dv (dy aK ck)) cP HS.out.2.1 (by simp;omega)) ?_;rintro eQ w9 ⟨qv,rfl,n9,rfl⟩;obtain⟨m2,cQ⟩:∃m2,m2=gB P (mG P (gk++[t])):=⟨_,rfl⟩;rw[<-cQ];have dH:=Lib.hid cQ;clear cQ;have dI:=dy ck n9;have dJ:=V.gw n9;clear cP V F cN cO;generalize (fL (gk++[t])).length=ml at *;go_wp2;go_loopw [10,11] (λkv iv wr=>∃(i:Nat) (kn:Bool),kv=.bool kn/\iv=.int .i64 i/\i<=M.length/\Ext w9 wr/\Hid (kn=true↔m2∈M.take i)) (λ_ iv _=>M.length-(intOf iv).toNat)
      case atStart=>exact⟨0,false,rfl,rfl,by omega,Ext.refl _,Lib.hid (by simp)⟩
      case round=>
       obtain⟨i,kn,rfl,rfl,hi,xH,aM⟩:=hrel;have aq:=dy dI xH;have cc:=bJ.gw aq;by_cases bO:i<M.length
       ·have ev:(i:Int)<M.length:=by omega
        have a':m2∈M.take (i+1)↔m2∈M.take i\/gt M i=m2:=by
         rw[je M i bO,List.mem_append,List.mem_singleton];exact or_congr Iff.rfl eq_comm
        have O:=cc.ints (by rw[iE];omega);obtain⟨b6,o6,Ev,_,_,cS⟩:=Ints.at (show Sl rO _ wr (.slice (some ⟨b4,o4,none⟩) M.length c4) (fL M) by rw[<-iE] at O ⊢;exact O) i (by rw[iE];exact bO);cases Ev
        rw[r7 bO] at cS;clear O;cases kn with
        | true=>
         have HK:=Lib.hid (show(true=true)↔m2∈M.take (i+1) from⟨λ_=>a'.2 (.inl (aM.out.1 rfl)),λ_=>rfl⟩);clear a' aM cS;go_wp2;go_roundw
         case rel=>exact⟨i+1,true,rfl,by go_num,by omega,xH,HK⟩
         case measure=>simp[intOf];omega
        | false=>
         obtain⟨mi,bt⟩:∃mi,mi=gt M i:=⟨_,rfl⟩;rw[<-bt] at cS a';by_cases he:mi=m2
         ·have HK:=Lib.hid (show(true=true)↔m2∈M.take (i+1) from⟨λ_=>a'.2 (.inr he),λ_=>rfl⟩)
          clear a' aM bt;subst he;go_wp2;go_roundw
          case rel=>exact⟨i+1,true,by first|rfl|simp,by go_num,by omega,xH,HK⟩
          case measure=>simp[intOf];omega
         ·have HK:=Lib.hid (show(false=true)↔m2∈M.take (i+1) from⟨λh=>(by cases h),λh=>(a'.1 h).elim (λh2=>(by have:=aM.out.2 h2;cases this)) (λh2=>absurd h2 he)⟩)
          have ew:((mi:Int) == (m2:Int))=false:=by rw[KA];simpa using he
          clear a' aM bt he;go_wp2;go_roundw
          case rel=>exact⟨i+1,false,by first|rfl|simp[ew],by go_num,by omega,xH,HK⟩
          case measure=>simp[intOf];omega
       ·have aN:i=M.length:=by omega
        have bP:=aM.out;rw[aN,List.take_length] at bP;have dM:¬(i:Int)<M.length:=by omega
        have bQ:gB P (lG P (mG P gk) (fF P (t:Int)))=m2:=by rw[dH.out,KD]
        have bR:=dy aK aq;cases kn with
        | true=>
         have bM:=Lib.hid (And.intro (G.Ew (x:=t) hF.out.1 HS.out.2.2.2.2 (by rw[<-T.out.1];exact HS.out.1) (by rw[bQ];exact bP.1 rfl)) hF.out.2);have bu:=(dF.less (A':=λj=>(Value.slice (some ⟨b4,o4,none⟩) M.length c4).ownBlock=some j) (λj U => .inl U)).ext gX aq;clear bP aM aN bQ hF;go_wp2;go_roundw
         case rel=>exact⟨M,GS,t+1,_,_,rfl,rfl,by go_num,by omega,by omega,z,bR,cc,bu,bM,T⟩
         case measure=>simp[intOf];omega
        | false=>
         have dN:¬m2∈M:=λh=>by have:=bP.2 h;cases this
         have cU:=G.Ey hF.out.1 z HS.out.2.2.2.2 (by rw[<-T.out.1];exact HS.out.1) bj (by rw[bQ];exact dN);rw[bQ] at cU;have cV:=HS.out.2.2.2.1;rw[<-dH.out] at cV;have cm:m=gt (M++[m2]) k/\gk=gt (GS++[gk++[t]]) k:=⟨by rw[iX _ _ _ z];exact T.out.1,by rw[iX _ _ _ (by rw[hF.out.2.len];exact z)];exact T.out.2⟩;have cn:(GS++[gk++[t]]).map fL=GS.map fL++[fL (gk++[t])]:=by rw[List.map_append];rfl
         have bS:=tu M m2;have cq:(M++[m2]).length=M.length+1:=by simp
         have dO:(GS.map fL).length<=1000000:=by omega
         have cs:(fL M).length<=1000000:=by rw[iE];omega
         have aO:=Lib.hid (And.intro cU (And.intro cV (And.intro cm (And.intro cn (And.intro bS (And.intro cq (And.intro dO cs)))))));have bu:=dF.ext gX aq;have ct:=dJ.gw xH;have dP:∀j,(Value.slice (some ⟨b4,o4,none⟩) M.length c4).ownBlock=some j->j<wo.heap.size:=λj U=>(bJ.lt j U).2;have cd:∀j,(Value.slice a8 ml c8).ownBlock=some j->wo.heap.size<=j/\j<wr.heap.size:=λj U=>ct.lt j U;have eU:=aq.size;have eV:=aK.size;clear bP aM aN bQ hF cU cV cm cn bS cq dO cs dN
         have kA:∀wA,wr.grownBy wA (Value.slice (some ⟨b4,o4,none⟩) M.length c4).ownBlock->Ext C wA /\
           gT gf 24 C.heap.size (λj=>((Value.slice (some ⟨b4,o4,none⟩) M.length c4).ownBlock=some j\/wo.heap.size<=j)/\j<wA.heap.size) wA (.slice (some ⟨b5,o5,none⟩) M.length c5) (GS.map fL) /\
           gf (λj=>(Value.slice a8 ml c8).ownBlock=some j) wA (.slice a8 ml c8) (fL (gk++[t])):=by
          intro wA Z;refine⟨fu bR Z (λb hb z=>by have:=(cc.lt b hb).1;omega),?_,?_⟩
          ·refine gT.less (A:=λj=>(Value.slice (some ⟨b4,o4,none⟩) M.length c4).ownBlock=some j\/wo.heap.size<=j) ?_ (λj U=>U.1)
           cases hv:(Value.slice (some ⟨b4,o4,none⟩) M.length c4).ownBlock with
           | none=>rw[hv] at Z bu;exact bu.ext gX Z
           | some r=>rw[hv] at Z bu;exact bu.kept gX Z (.inl rfl)
          ·refine ⟨?_,λj U=>U,by rw[iE];simp;omega⟩
           have h1:=(ct.v.kept Z (by
            cases hv:(Value.slice a8 ml c8).ownBlock with
            | none=>exact .inl rfl
            | some r=>exact .inr (λe=>by have h2:=cd r hv;have h3:=dP r e.symm;omega)))
           exact Own.weak (Own.of h1) (Nat.zero_le _)
         have kB:∀(vA:Value) (wA:World),(∀j,vA.ownBlock=some j->(Value.slice (some ⟨b4,o4,none⟩) M.length c4).ownBlock=some j\/wr.heap.size<=j)->Own C.heap.size wA vA (fL M++[(m2:Int)]) ->
           ∀j,vA.ownBlock=some j->(((Value.slice (some ⟨b4,o4,none⟩) M.length c4).ownBlock=some j\/wo.heap.size<=j)/\j<wA.heap.size)/\¬(Value.slice a8 ml c8).ownBlock=some j:=by
          intro vA wA bU ay j U;refine⟨⟨(bU j U).imp id (λh=>by omega),(ay.lt j U).2⟩,λh => ?_⟩;have h1:=cd j h;rcases bU j U with h2|h2
          ·have:=dP j h2;omega
          ·omega
         go_wp2_with (first
          | (revert ay;intro ay;at_builtin;refine KE rfl _ _ rfl C.heap.size (λj=>((Value.slice (some ⟨b4,o4,none⟩) M.length c4).ownBlock=some j\/wo.heap.size<=j)/\j<wA.heap.size) (λj=>vA.ownBlock=some j) (λj=>(Value.slice a8 ml c8).ownBlock=some j) wA _ _ (GS.map fL) (fL (gk++[t])) rfl bV ey (λj U z=>⟨⟨.inr (cd j U).1,z⟩,by have:=(cd j U).1;omega⟩) (kB vA wA bU ay) (λj U=>U.2) rfl rfl aO.out.2.2.2.2.2.2.1 aC.size ?_;intro vB wB dQ az fg)
          | (at_builtin;refine zJ rfl _ _ rfl C.heap.size _ (fL M) (m2:Int) rfl wr cc rfl rfl aO.out.2.2.2.2.2.2.2 bR.size ?_;intro vA wA ay Z bU;obtain⟨aC,bV,ey⟩:=kA wA Z)
          | fail)
         have au:Ext C wB:=fu aC az (λb hb z=>by have:=(bV.uI b hb).2.1;omega)
         have bq:Own C.heap.size wB vA (fL M++[(m2:Int)]):=Own.of (ay.v.kept az (by
          cases hv:vA.ownBlock with
          | none=>exact .inl rfl
          | some r=>exact .inr (λe=>(bV.uI r e.symm).1 (kB vA wA bU ay r hv).1)))
         rw[<-aO.out.2.2.2.2.1] at bq;rw[<-aO.out.2.2.2.1] at dQ;go_roundw
         case rel=>exact⟨M++[m2],GS++[gk++[t]],t+1,vA,vB,rfl,rfl,by go_num,by omega,by omega,by rw[aO.out.2.2.2.2.2.1];omega,au,bq,dQ,Lib.hid ⟨aO.out.1,aO.out.2.1⟩,Lib.hid aO.out.2.2.1⟩
         case measure=>simp[intOf];omega
    ·have fh:t=N:=by omega
     have bM:=Lib.hid (And.intro (hF.out.1.next (by have:=HB.out.2.2.2.1;omega)) hF.out.2);clear hF;have fi:¬(t:Int)<N:=by omega
     go_wp2;go_roundw
     case rel=>exact⟨M,GS,k+1,_,v5,rfl,rfl,by go_num,by omega,aK,bJ,bK,bM⟩
     case measure=>simp[intOf];omega
  ·have aN:k=M.length:=by omega
   have cv:∀H,Sub P H->gB P H∈M:=λH S=>by
    have h1:=hF.out.1;exact G.Ez h1 (by omega) S
   have cW:=hF.out.1.sub
   have cw:∀u,fO P u↔∃j,j<M.length/\u=fD P (nG P (gt M j)):=λu=>by
    constructor
    ·intro hu
     obtain⟨j,U,he⟩:=oW (cv _ (G.gG hu));exact⟨j,U,by rw[he,G.oZ (G.gG hu)];exact hu.2⟩
    ·rintro ⟨j,U,rfl⟩
     obtain⟨H,S,e⟩:=cW _ (iW U);rw[e,G.oZ S];exact G.r8 S
   have HM:=Lib.hid (And.intro cw cW);clear cw cW cv hF;have dR:∀k,(wr.alloc (.cells #[.slice none 0 0,.slice none 0 0] 163)).frozen? ⟨wr.heap.size,k,none⟩=false:=λk=>by simp
   have dS:∀k,k<2->(wr.alloc (.cells #[.slice none 0 0,.slice none 0 0] 163)).cell? ⟨wr.heap.size,k,none⟩=some (.slice none 0 0):=λk hk=>by
    rw[World.cell?_alloc_at _ _ _ _ rfl];rcases(show k=0\/k=1 by omega) with rfl|rfl<;>rfl
   have dT:Ext wr (wr.alloc (.cells #[.slice none 0 0,.slice none 0 0] 163)):=World.grownBy_alloc _ _ _;have dU:wr.heap.size<(wr.alloc (.cells #[.slice none 0 0,.slice none 0 0] 163)).heap.size:=by simp
   have dV:=Lib.hid (And.intro dR (And.intro dS (And.intro dT dU)));clear dR dS dT dU hL;have dW:¬(k:Int)<M.length:=by omega
   clear O;go_wp2;clear dW aN z hk;obtain⟨wF,rfl⟩:∃wF:World,wF=wr:=⟨_,rfl⟩;obtain⟨p,cx⟩:∃p,p=wF.heap.size:=⟨_,rfl⟩;have cY:=dV.out;rw[<-cx] at cY ⊢;have eX:wF.heap.size<=p:=by omega
   have aP:=hg;clear hg;have bW:=Lib.hid cY;clear cY dV cx
   go_loopw [13] (λiv wr=>∃(i:Nat) (sv:Value) (L:List (List (List Int))),iv=.int .i64 i/\i<=M.length/\Ext wF wr/\wr.cell? ⟨p,0,none⟩=some sv/\wr.cell? ⟨p,1,none⟩=some (.slice none 0 0)/\(∀k,wr.frozen? ⟨p,k,none⟩=false)/\p<wr.heap.size /\
    fU (λk=>k≠p/\wF.heap.size<=k) wr sv L/\Hid (L.Pairwise (iP P)/\(∀u,u∈L↔∃j,j<i/\u=fD P (nG P (gt M j)))/\L.length<=i)) (λiv _=>M.length-(intOf iv).toNat)
   case atStart=>exact⟨0,_,[],rfl,by omega,bW.out.2.2.1,bW.out.2.1 0 (by omega),bW.out.2.1 1 (by omega),bW.out.1,bW.out.2.2.2,⟨none,0,rfl,⟨by simp,by simp,λ_=>rfl⟩,λi hi=>by simp at hi⟩,Lib.hid ⟨List.Pairwise.nil,λu=>by simp,by simp⟩⟩
   case round=>
    obtain⟨i,sv,L,rfl,hi,hg,lH,lW,ak,aQ,hL,hI⟩:=hrel;have aJ:=dy (dy aW aP) hg;by_cases z:i<M.length
    ·have bI:(i:Int)<M.length:=by omega
     have cZ:=fA.ext cF aJ;have O:=hO.ints (by rw[iE];omega);obtain⟨b4,o4,hb4,_,Ue,bX⟩:=Ints.at (show Sl rO _ wF (.slice a4 M.length c4) (fL M) by rw[<-iE] at O ⊢;exact O) i (by rw[iE];exact z);rw[r7 z] at bX;have a0:=hg.cell bX (by simp);subst hb4;obtain⟨H,SH,c0⟩:=HM.out.2 _ (iW z);have bl:=KF P G wr.drew (.agg #[bo,fN,fM]) H Any SH bC ⟨_,_,_,rfl,fA.ext cZ (fk _ _)⟩;rw[<-c0] at bl;have dX:fD P H=fD P (nG P (gt M i)):=by rw[c0,G.oZ SH]
     have dY:∀v∈L,fO P v:=λv hv=>by
      obtain⟨j,h1,h2⟩:=(hI.out.2.1 v).1 hv;exact(HM.out.1 v).2 ⟨j,by omega,h2⟩
     have eC:L.length<=i:=hI.out.2.2;have HX:=Lib.hid (And.intro eC (And.intro dX (And.intro dY (And.intro (G.r8 SH) (And.intro hI.out.1 hI.out.2.1)))));obtain⟨mi,bt⟩:∃mi,mi=gt M i:=⟨_,rfl⟩;rw[<-bt] at a0 bl;obtain⟨sa,sc,xI,_,_⟩:=Sl.shape hL;subst xI;obtain⟨ax,ao,ap⟩:=HB.out.1 wr aJ;have bm:=aP.size;have bn:=aW.size;have c3:=HB.out.2.1;have e1:∀w',wr.grownBy w' (some p)->w'.cell? ⟨w.heap.size,0,none⟩=some bo:=λw' h=>h.cell ax (by simp;omega);have e2:∀w',wr.grownBy w' (some p)->w'.cell? ⟨w.heap.size,1,none⟩=some fN:=λw' h=>h.cell ao (by simp;omega);have e3:∀w',wr.grownBy w' (some p)->w'.cell? ⟨w.heap.size,2,none⟩=some fM:=λw' h=>h.cell ap (by simp;omega);have e4:∀w',wr.grownBy w' (some p)->w'.cell? ⟨b4,o4+i,none⟩=some (.int .i64 (mi:Int)):=λw' h=>h.cell a0 (by simp;omega);clear ax ao ap a0 bX hI dX dY bt O c0 SH c3 bm bn;go_wp2;refine wp_region_held_drew (S:=λw'=>wr.grownBy w' (some p)) (by kernel_rfl) (fk _ _) (λy => ?_);refine tk 0 ?_;refine tk 1 ?_;refine tk 3 ?_;refine tk 4 ?_;refine tk 5 ?_;refine tk 6 ?_;refine tk 7 ?_;refine qC 2 8 (λD l => ?_) (λD l => ?_)
     ·go_simp
      refine ko l ?_ (λy => ?_)
      ·assumption
      clear l D;refine iK 8 (λD l => ?_);go_simp;go_at_call 207;refine Calls.mono bl ?_;rintro eA wA ⟨uv,rfl,Z,bb⟩;have I:Ext wr wA:=dy (fk _ _) Z;have aC:wr.grownBy wA (some p):=fH _ I;have c6:=I.cell lH (by simp);obtain⟨ua,uc,pX,_,_⟩:=Sl.shape bb;subst pX;go_wp2_with fail
      refine ko l ?_ (λy => ?_)
      ·exact aC
      clear l D;refine iK 9 (λD l => ?_);go_simp;go_at_call 185;refine Calls.mono (EA P G wA _ _ _ L (fD P H) Any (λk=>k≠p/\wF.heap.size<=k) ⟨_,_,_,rfl,fA.ext cZ I⟩ (fU.ext hL I) (dK.sub bb (λk hk _=>by have h1:wr.drew.heap.size<=k:=hk;have h2:=(fk wr none).size;exact⟨by omega,by omega⟩)) HX.out.2.2.1 HX.out.2.2.2.1 HX.out.2.2.2.2.1 (by omega)) ?_;rintro eB wB ⟨rv,rfl,az,R,bY,bZ,b0,bc⟩;obtain⟨ra,rc,BV,_,_⟩:=Sl.shape bc;subst BV;have J:=dy I az;have au:wr.grownBy wB (some p):=fH _ J;have b1:=J.cell lH (by simp);have aR:=J.cell lW (by simp);have b2:∀k,wB.frozen? ⟨p,k,none⟩=false:=λk=>(World.frozen?_of_block (w:=wr) (J.block p aQ (by simp))).trans (ak k);have E:=pY wB ⟨p,0,none⟩ (.slice ra R.length rc);have Q:=dy au E;have HR:=Lib.hid (And.intro bY (And.intro bZ (And.intro b0 bc)));clear bY bZ b0 bc bb;go_wp2_with fail
      refine ko l ?_ (λy => ?_)
      ·exact au
      clear l D;refine tk 10 ?_;refine iK 11 (λD l => ?_);go_simp;refine ko l ?_ (λy => ?_)
      ·exact Q
      clear l D;refine wpAnyH_done (by kernel_rfl) ?_ _;have al:(wB.setCell ⟨p,0,none⟩ (.slice ra R.length rc)).cell? ⟨p,0,none⟩=some (.slice ra R.length rc):=World.cell?_setCell_same _ _ _ b1;have aF:(wB.setCell ⟨p,0,none⟩ (.slice ra R.length rc)).cell? ⟨p,1,none⟩=some (.slice none 0 0):=(World.cell?_setCell_other _ _ _ _ (by simp)).trans aR;have aG:∀k,(wB.setCell ⟨p,0,none⟩ (.slice ra R.length rc)).frozen? ⟨p,k,none⟩=false:=λk=>by rw[World.frozen?_setCell];exact b2 k
      have aH:p<(wB.setCell ⟨p,0,none⟩ (.slice ra R.length rc)).heap.size:=by have:=E.size;have:=J.size;omega
      have c9:Ext wF (wB.setCell ⟨p,0,none⟩ (.slice ra R.length rc)):=fu (dy hg J) E (λb hb z=>by have:p=b:=(by simpa using hb);omega);have c':fU (λk=>k≠p/\wF.heap.size<=k) (wB.setCell ⟨p,0,none⟩ (.slice ra R.length rc)) (.slice ra R.length rc) R:=fU.mono HR.out.2.2.2 (iQ E (λk hk z=>by have h1:k≠p/\wF.heap.size<=k:=(by have h2:=I.size;rcases hk with hk|hk;exact hk;exact⟨by omega,by omega⟩);exact⟨h1,λe=>h1.1 (by simpa using e.symm)⟩))
      have b3:Hid (R.Pairwise (iP P)/\(∀u,u∈R↔∃j,j<i+1/\u=fD P (nG P (gt M j)))/\R.length<=i+1):=Lib.hid ⟨HR.out.1,λu=>by
       rw[HR.out.2.1 u,HX.out.2.2.2.2.2 u];constructor
       ·rintro (⟨j,h1,h2⟩|h1)
        ·exact⟨j,by omega,h2⟩
        ·exact⟨i,by omega,by rw[<-HX.out.2.1];exact h1⟩
       ·rintro ⟨j,h1,h2⟩
        rcases Nat.lt_succ_iff_lt_or_eq.1 h1 with h3|h3
        ·exact .inl ⟨j,h3,h2⟩
        ·subst h3;exact .inr (by rw[h2,<-HX.out.2.1]),by have:=HR.out.2.2.1;omega⟩
      clear c6 b1 aR lH lW ak b2;go_wp2;go_roundw
      case rel=>exact⟨i+1,_,R,by go_num,by omega,c9,al,aF,aG,aH,c',b3⟩
      case measure=>simp[intOf];omega
     ·go_simp
      go_at_call 207;refine Calls.mono bl ?_;rintro eA wA ⟨uv,rfl,Z,bb⟩;have I:Ext wr wA:=dy (fk _ _) Z;have aC:wr.grownBy wA (some p):=fH _ I;have c6:=I.cell lH (by simp);obtain⟨ua,uc,pX,_,_⟩:=Sl.shape bb;subst pX;go_wp2_with fail
      refine ko l ?_ (λy => ?_)
      ·exact aC
      clear l D;refine iK 2 (λD l => ?_);go_simp;refine ko l ?_ (λy => ?_)
      ·assumption
      clear l D;refine iK 9 (λD l => ?_);go_simp;go_at_call 185;refine Calls.mono (EA P G wA _ _ _ L (fD P H) Any (λk=>k≠p/\wF.heap.size<=k) ⟨_,_,_,rfl,fA.ext cZ I⟩ (fU.ext hL I) (dK.sub bb (λk hk _=>by have h1:wr.drew.heap.size<=k:=hk;have h2:=(fk wr none).size;exact⟨by omega,by omega⟩)) HX.out.2.2.1 HX.out.2.2.2.1 HX.out.2.2.2.2.1 (by omega)) ?_;rintro eB wB ⟨rv,rfl,az,R,bY,bZ,b0,bc⟩;obtain⟨ra,rc,BV,_,_⟩:=Sl.shape bc;subst BV;have J:=dy I az;have au:wr.grownBy wB (some p):=fH _ J;have b1:=J.cell lH (by simp);have aR:=J.cell lW (by simp);have b2:∀k,wB.frozen? ⟨p,k,none⟩=false:=λk=>(World.frozen?_of_block (w:=wr) (J.block p aQ (by simp))).trans (ak k);have E:=pY wB ⟨p,0,none⟩ (.slice ra R.length rc);have Q:=dy au E;have HR:=Lib.hid (And.intro bY (And.intro bZ (And.intro b0 bc)));clear bY bZ b0 bc bb;go_wp2_with fail
      refine ko l ?_ (λy => ?_)
      ·exact au
      clear l D;refine tk 10 ?_;refine iK 11 (λD l => ?_);go_simp;refine ko l ?_ (λy => ?_)
      ·exact Q
      clear l D;refine wpAnyH_done (by kernel_rfl) ?_ _;have al:(wB.setCell ⟨p,0,none⟩ (.slice ra R.length rc)).cell? ⟨p,0,none⟩=some (.slice ra R.length rc):=World.cell?_setCell_same _ _ _ b1;have aF:(wB.setCell ⟨p,0,none⟩ (.slice ra R.length rc)).cell? ⟨p,1,none⟩=some (.slice none 0 0):=(World.cell?_setCell_other _ _ _ _ (by simp)).trans aR;have aG:∀k,(wB.setCell ⟨p,0,none⟩ (.slice ra R.length rc)).frozen? ⟨p,k,none⟩=false:=λk=>by rw[World.frozen?_setCell];exact b2 k
      have aH:p<(wB.setCell ⟨p,0,none⟩ (.slice ra R.length rc)).heap.size:=by have:=E.size;have:=J.size;omega
      have c9:Ext wF (wB.setCell ⟨p,0,none⟩ (.slice ra R.length rc)):=fu (dy hg J) E (λb hb z=>by have:p=b:=(by simpa using hb);omega);have c':fU (λk=>k≠p/\wF.heap.size<=k) (wB.setCell ⟨p,0,none⟩ (.slice ra R.length rc)) (.slice ra R.length rc) R:=fU.mono HR.out.2.2.2 (iQ E (λk hk z=>by have h1:k≠p/\wF.heap.size<=k:=(by have h2:=I.size;rcases hk with hk|hk;exact hk;exact⟨by omega,by omega⟩);exact⟨h1,λe=>h1.1 (by simpa using e.symm)⟩))
      have b3:Hid (R.Pairwise (iP P)/\(∀u,u∈R↔∃j,j<i+1/\u=fD P (nG P (gt M j)))/\R.length<=i+1):=Lib.hid ⟨HR.out.1,λu=>by
       rw[HR.out.2.1 u,HX.out.2.2.2.2.2 u];constructor
       ·rintro (⟨j,h1,h2⟩|h1)
        ·exact⟨j,by omega,h2⟩
        ·exact⟨i,by omega,by rw[<-HX.out.2.1];exact h1⟩
       ·rintro ⟨j,h1,h2⟩
        rcases Nat.lt_succ_iff_lt_or_eq.1 h1 with h3|h3
        ·exact .inl ⟨j,h3,h2⟩
        ·subst h3;exact .inr (by rw[h2,<-HX.out.2.1]),by have:=HR.out.2.2.1;omega⟩
      clear c6 b1 aR lH lW ak b2;go_wp2;go_roundw
      case rel=>exact⟨i+1,_,R,by go_num,by omega,c9,al,aF,aG,aH,c',b3⟩
      case measure=>simp[intOf];omega
    ·have aN:i=M.length:=by omega
     have b8:jO P L:=⟨hI.out.1,λu=>by rw[hI.out.2.1 u,aN];exact(HM.out.1 u).symm⟩;have ft:L.length<=100000:=by have:=hI.out.2.2;omega
     obtain⟨sa,sc,xI,_,_⟩:=Sl.shape hL;subst xI;have cy:0<L.length:=(G.EB b8).1;obtain⟨bL,oL,_,_,hbL,dZ,_,_,_⟩:=fU.at hL 0 cy;have HL:=Lib.hid b8;clear b8 hI cy;subst hbL;have dZ:bL≠p:=dZ.1;have dM:¬(i:Int)<M.length:=by omega
     go_wp2;clear dM aN z hi;obtain⟨wZ,rfl⟩:∃wZ:World,wZ=wr:=⟨_,rfl⟩;have da:=dy aP hg;have av:=dy aW da;clear hg
     go_loopw [14] (λkv wr=>∃(k:Nat) (mv:Value),kv=.int .i64 k/\k<=L.length/\wZ.grownBy wr (some p)/\wr.cell? ⟨p,0,none⟩=some (.slice (some ⟨bL,oL,none⟩) L.length sc)/\wr.cell? ⟨p,1,none⟩=some mv/\(∀k,wr.frozen? ⟨p,k,none⟩=false)/\p<wr.heap.size /\
      Own wZ.heap.size wr mv (fL ((L.take k).map (gC P)))) (λkv _=>L.length-(intOf kv).toNat)
     case atStart=>exact⟨0,_,rfl,by omega,gZ _ _,lH,lW,ak,aQ,World.ownsRow_nil _ _ _ _⟩
     case round=>
      have eZ:=aQ;clear lH lW ak aQ;obtain⟨k,mv,rfl,hk,hg,lH,lW,ak,aQ,hO⟩:=hrel;by_cases z:k<L.length
      ·have bI:(k:Int)<L.length:=by omega
       obtain⟨b7,o7,a7,c7,KG,BW,hbl,db,dc⟩:=fU.at hL k z;cases KG
       have cf:=(HL.out.2 _).1 (iW z);obtain⟨u,hu⟩:∃u,u=gt L k:=⟨_,rfl⟩;rw[<-hu] at db dc cf
       have cz:dK Any wr.drew (.slice a7 u.length c7) (fD P (gi P (λx=>x∈u))):=by
        rw[<-cf.2];exact dK.mono dc (iQ (dy hg (fk wr (some p))) (λj U _=>⟨trivial,λe=>U.1 (by simpa using e.symm)⟩))
       have bm:=da.size;have bn:=aW.size;have cA:=aP.size;have d':fA Any wr.drew bo fN fM P:=fA.mono cF (λj _ z=>⟨trivial,Nat.lt_of_lt_of_le z (Nat.le_trans av.size (dy hg (fk wr (some p))).size),((dy hg (fk wr (some p))).block j (Nat.lt_of_lt_of_le z av.size) (λe=>by have:p=j:=(by first|simpa using e|simpa using e.symm);omega)).trans (av.block j z (by simp))⟩);have bd:=KH P G wr.drew (.agg #[bo,fN,fM]) (.slice a7 u.length c7) _ Any Any (G.gG cf) bC ⟨_,_,_,rfl,d'⟩ cz;obtain⟨q,hq⟩:∃q,q=gB P (gi P (λx=>x∈u)):=⟨_,rfl⟩;rw[<-hq] at bd
       have aL:fL ((L.take (k+1)).map (gC P))=fL ((L.take k).map (gC P))++[(q:Int)]:=by
        rw[je L k z,List.map_append,List.map_singleton,tu,hq,hu];rfl
       have ea:(fL ((L.take k).map (gC P))).length<=1000000:=by rw[iE,List.length_map,List.length_take];omega
       have HU:=Lib.hid (And.intro aL ea);clear aL ea hq cf cz d' hu dc
       obtain ⟨bw,bx,bz,r9⟩:∃a n c,mv=.slice a n c:=by
        rcases hO.2 with⟨h1,_⟩|⟨g,cp,_,h1,_⟩<;>exact⟨_,_,_,h1⟩
       subst r9;obtain⟨ax,ao,ap⟩:=HB.out.1 wZ av;have c3:=HB.out.2.1;have e0:=hg.size;have e1:∀w',wZ.grownBy w' (some p)->w'.cell? ⟨w.heap.size,0,none⟩=some bo:=λw' h=>h.cell ax (by simp;omega);have e2:∀w',wZ.grownBy w' (some p)->w'.cell? ⟨w.heap.size,1,none⟩=some fN:=λw' h=>h.cell ao (by simp;omega);have e3:∀w',wZ.grownBy w' (some p)->w'.cell? ⟨w.heap.size,2,none⟩=some fM:=λw' h=>h.cell ap (by simp;omega);have e4:∀w',wZ.grownBy w' (some p)->w'.cell? ⟨bL,oL+k,none⟩=some (.slice a7 u.length c7):=λw' h=>h.cell db (by simp;omega);clear ax ao ap db c3 bm bn cA;go_wp2;refine wp_region_held_drew (S:=λw'=>wZ.grownBy w' (some p)/\w'.cell? ⟨p,0,none⟩=some (.slice (some ⟨bL,oL,none⟩) L.length sc)) (by kernel_rfl) ⟨dy hg (fk _ _),lH⟩ (λy => ?_);refine tk 0 ?_ (hy:=by intro w B;(try dsimp only at B);obtain⟨B,q9⟩:=B;go_simp;try with_reducible rfl);refine tk 2 ?_ (hy:=by intro w B;(try dsimp only at B);obtain⟨B,q9⟩:=B;go_simp;try with_reducible rfl);refine tk 3 ?_ (hy:=by intro w B;(try dsimp only at B);obtain⟨B,q9⟩:=B;go_simp;try with_reducible rfl);refine tk 4 ?_ (hy:=by intro w B;(try dsimp only at B);obtain⟨B,q9⟩:=B;go_simp;try with_reducible rfl);refine tk 5 ?_ (hy:=by intro w B;(try dsimp only at B);obtain⟨B,q9⟩:=B;go_simp;try with_reducible rfl);refine tk 6 ?_ (hy:=by intro w B;(try dsimp only at B);obtain⟨B,q9⟩:=B;go_simp;try with_reducible rfl);refine tk 7 ?_ (hy:=by intro w B;(try dsimp only at B);obtain⟨B,q9⟩:=B;go_simp;try with_reducible rfl);refine qC 1 8 (λD l => ?_) (λD l => ?_)
       ·go_simp
        refine ko l ?_ (λy => ?_)
        ·assumption
        clear l D;refine iK 8 (λD l => ?_);go_simp;go_at_call 208;refine Calls.mono bd ?_;rintro eK wK ⟨kv,rfl,dd,rfl⟩;have K:Ext wr wK:=dy (fk _ _) dd;have ae:wZ.grownBy wK (some p):=dy hg (fH _ K);have am:=K.cell lH (by simp);have be:=K.cell lW (by simp);have bf:∀k,wK.frozen? ⟨p,k,none⟩=false:=λk=>(World.frozen?_of_block (w:=wr) (K.block p aQ (by simp))).trans (ak k);have bg:=hO.gw K;have eE:=K.size;have eb:p<wK.heap.size:=by omega
        go_wp2_with fail
        refine ko l ?_ (λy => ?_)
        ·exact⟨ae,am⟩
        clear l D;refine iK 9 (λD l => ?_);go_simp;refine ko l ?_ (λy => ?_)
        ·exact⟨dy ae (fH _ (World.grownBy_alloc _ _ _)),(World.grownBy_alloc wK _ none).cell am (by simp)⟩
        clear l D;refine iK 10 (λD l => ?_);refine uJ rfl _ _ rfl wZ.heap.size (.slice bw bx bz) (fL ((L.take k).map (gC P))) (q:Int) rfl wK bg rfl rfl HU.out.2 (by omega) ?_;intro v8 w8 V F;have af:∀b,(Value.slice bw bx bz).ownBlock=some b->wZ.heap.size<=b:=λb hb=>(bg.lt b hb).1;have aw:=F.cell am (λe=>by have h0:wZ.heap.size<=p:=af _ e.symm;omega);have aS:=F.cell be (λe=>by have h0:wZ.heap.size<=p:=af _ e.symm;omega);have aT:∀k,w8.frozen? ⟨p,k,none⟩=false:=λk=>(World.frozen?_of_block (w:=wK) (F.block p (by omega) (λe=>by have:=af _ e.symm;omega))).trans (bf k);have aj:wZ.grownBy w8 (some p):=fu ae F (λb hb z=>by have:=af b hb;omega);obtain⟨W,X,Y,pZ⟩:∃a n c,v8=.slice a n c:=(by rcases V.2 with⟨h1,_⟩|⟨g,cp,_,h1,_⟩<;>exact⟨_,_,_,h1⟩);subst pZ;have E:=pY w8 ⟨p,1,none⟩ (.slice W X Y);have al:(w8.setCell ⟨p,1,none⟩ (.slice W X Y)).cell? ⟨p,0,none⟩=some (.slice (some ⟨bL,oL,none⟩) L.length sc):=(World.cell?_setCell_other _ _ _ _ (by simp)).trans aw;have aF:(w8.setCell ⟨p,1,none⟩ (.slice W X Y)).cell? ⟨p,1,none⟩=some (.slice W X Y):=World.cell?_setCell_same _ _ _ aS;have aG:∀k,(w8.setCell ⟨p,1,none⟩ (.slice W X Y)).frozen? ⟨p,k,none⟩=false:=λk=>by rw[World.frozen?_setCell];exact aT k
        have aH:p<(w8.setCell ⟨p,1,none⟩ (.slice W X Y)).heap.size:=by have:=E.size;have:=F.size;omega
        have aU:(Value.slice W X Y).ownBlock=none\/(Value.slice W X Y).ownBlock≠some p := .inr (λe=>by have:=(V.lt _ e).1;omega);have b9:Own wZ.heap.size (w8.setCell ⟨p,1,none⟩ (.slice W X Y)) (.slice W X Y) (fL ((L.take (k+1)).map (gC P))):=by rw[HU.out.1];exact Own.of (V.v.kept E aU)
        have Q:=dy aj E;refine ko l ?_ (λy => ?_)
        ·exact⟨aj,aw⟩
        clear l D;refine tk 11 ?_ (hy:=by intro w B;(try dsimp only at B);obtain⟨B,q9⟩:=B;go_simp;try with_reducible rfl);refine iK 12 (λD l => ?_);go_simp;refine ko l ?_ (λy => ?_)
        ·exact⟨Q,al⟩
        clear l D;refine wpAnyH_done (by kernel_rfl) ?_ _;clear am be bf aw aS aT lH lW ak;go_wp2;go_roundw
        case rel=>exact⟨k+1,_,by go_num,by omega,Q,al,aF,aG,aH,b9⟩
        case measure=>simp[intOf];omega
       ·go_simp
        go_at_call 208;refine Calls.mono bd ?_;rintro eK wK ⟨kv,rfl,dd,rfl⟩;have K:Ext wr wK:=dy (fk _ _) dd;have ae:wZ.grownBy wK (some p):=dy hg (fH _ K);have am:=K.cell lH (by simp);have be:=K.cell lW (by simp);have bf:∀k,wK.frozen? ⟨p,k,none⟩=false:=λk=>(World.frozen?_of_block (w:=wr) (K.block p aQ (by simp))).trans (ak k);have bg:=hO.gw K;have eE:=K.size;have eb:p<wK.heap.size:=by omega
        go_wp2_with fail
        refine ko l ?_ (λy => ?_)
        ·exact⟨ae,am⟩
        clear l D;refine qC 1 9 (λD l => ?_) (λD l => ?_)
        ·go_simp
         refine ko l ?_ (λy => ?_)
         ·assumption
         clear l D;refine iK 9 (λD l => ?_);go_simp;refine ko l ?_ (λy => ?_)
         ·exact⟨dy ae (fH _ (World.grownBy_alloc _ _ _)),(World.grownBy_alloc wK _ none).cell am (by simp)⟩
         clear l D;refine iK 10 (λD l => ?_);refine uJ rfl _ _ rfl wZ.heap.size (.slice bw bx bz) (fL ((L.take k).map (gC P))) (q:Int) rfl wK bg rfl rfl HU.out.2 (by omega) ?_;intro v8 w8 V F;have af:∀b,(Value.slice bw bx bz).ownBlock=some b->wZ.heap.size<=b:=λb hb=>(bg.lt b hb).1;have aw:=F.cell am (λe=>by have h0:wZ.heap.size<=p:=af _ e.symm;omega);have aS:=F.cell be (λe=>by have h0:wZ.heap.size<=p:=af _ e.symm;omega);have aT:∀k,w8.frozen? ⟨p,k,none⟩=false:=λk=>(World.frozen?_of_block (w:=wK) (F.block p (by omega) (λe=>by have:=af _ e.symm;omega))).trans (bf k);have aj:wZ.grownBy w8 (some p):=fu ae F (λb hb z=>by have:=af b hb;omega);obtain⟨W,X,Y,pZ⟩:∃a n c,v8=.slice a n c:=(by rcases V.2 with⟨h1,_⟩|⟨g,cp,_,h1,_⟩<;>exact⟨_,_,_,h1⟩);subst pZ;have E:=pY w8 ⟨p,1,none⟩ (.slice W X Y);have al:(w8.setCell ⟨p,1,none⟩ (.slice W X Y)).cell? ⟨p,0,none⟩=some (.slice (some ⟨bL,oL,none⟩) L.length sc):=(World.cell?_setCell_other _ _ _ _ (by simp)).trans aw;have aF:(w8.setCell ⟨p,1,none⟩ (.slice W X Y)).cell? ⟨p,1,none⟩=some (.slice W X Y):=World.cell?_setCell_same _ _ _ aS;have aG:∀k,(w8.setCell ⟨p,1,none⟩ (.slice W X Y)).frozen? ⟨p,k,none⟩=false:=λk=>by rw[World.frozen?_setCell];exact aT k
         have aH:p<(w8.setCell ⟨p,1,none⟩ (.slice W X Y)).heap.size:=by have:=E.size;have:=F.size;omega
         have aU:(Value.slice W X Y).ownBlock=none\/(Value.slice W X Y).ownBlock≠some p := .inr (λe=>by have:=(V.lt _ e).1;omega);have b9:Own wZ.heap.size (w8.setCell ⟨p,1,none⟩ (.slice W X Y)) (.slice W X Y) (fL ((L.take (k+1)).map (gC P))):=by rw[HU.out.1];exact Own.of (V.v.kept E aU)
         have Q:=dy aj E;refine ko l ?_ (λy => ?_)
         ·exact⟨aj,aw⟩
         clear l D;refine tk 11 ?_ (hy:=by intro w B;(try dsimp only at B);obtain⟨B,q9⟩:=B;go_simp;try with_reducible rfl);refine iK 12 (λD l => ?_);go_simp;refine ko l ?_ (λy => ?_)
         ·exact⟨Q,al⟩
         clear l D;refine wpAnyH_done (by kernel_rfl) ?_ _;clear am be bf aw aS aT lH lW ak;go_wp2;go_roundw
         case rel=>exact⟨k+1,_,by go_num,by omega,Q,al,aF,aG,aH,b9⟩
         case measure=>simp[intOf];omega
        ·go_simp
         refine ko l ?_ (λy => ?_)
         ·exact⟨dy ae (fH _ (World.grownBy_alloc _ _ _)),(World.grownBy_alloc wK _ none).cell am (by simp)⟩
         clear l D;refine iK 1 (λD l => ?_);go_simp;refine ko l ?_ (λy => ?_)
         ·assumption
         clear l D;refine iK 10 (λD l => ?_);refine uJ rfl _ _ rfl wZ.heap.size (.slice bw bx bz) (fL ((L.take k).map (gC P))) (q:Int) rfl wK bg rfl rfl HU.out.2 (by omega) ?_;intro v8 w8 V F;have af:∀b,(Value.slice bw bx bz).ownBlock=some b->wZ.heap.size<=b:=λb hb=>(bg.lt b hb).1;have aw:=F.cell am (λe=>by have h0:wZ.heap.size<=p:=af _ e.symm;omega);have aS:=F.cell be (λe=>by have h0:wZ.heap.size<=p:=af _ e.symm;omega);have aT:∀k,w8.frozen? ⟨p,k,none⟩=false:=λk=>(World.frozen?_of_block (w:=wK) (F.block p (by omega) (λe=>by have:=af _ e.symm;omega))).trans (bf k);have aj:wZ.grownBy w8 (some p):=fu ae F (λb hb z=>by have:=af b hb;omega);obtain⟨W,X,Y,pZ⟩:∃a n c,v8=.slice a n c:=(by rcases V.2 with⟨h1,_⟩|⟨g,cp,_,h1,_⟩<;>exact⟨_,_,_,h1⟩);subst pZ;have E:=pY w8 ⟨p,1,none⟩ (.slice W X Y);have al:(w8.setCell ⟨p,1,none⟩ (.slice W X Y)).cell? ⟨p,0,none⟩=some (.slice (some ⟨bL,oL,none⟩) L.length sc):=(World.cell?_setCell_other _ _ _ _ (by simp)).trans aw;have aF:(w8.setCell ⟨p,1,none⟩ (.slice W X Y)).cell? ⟨p,1,none⟩=some (.slice W X Y):=World.cell?_setCell_same _ _ _ aS;have aG:∀k,(w8.setCell ⟨p,1,none⟩ (.slice W X Y)).frozen? ⟨p,k,none⟩=false:=λk=>by rw[World.frozen?_setCell];exact aT k
         have aH:p<(w8.setCell ⟨p,1,none⟩ (.slice W X Y)).heap.size:=by have:=E.size;have:=F.size;omega
         have aU:(Value.slice W X Y).ownBlock=none\/(Value.slice W X Y).ownBlock≠some p := .inr (λe=>by have:=(V.lt _ e).1;omega);have b9:Own wZ.heap.size (w8.setCell ⟨p,1,none⟩ (.slice W X Y)) (.slice W X Y) (fL ((L.take (k+1)).map (gC P))):=by rw[HU.out.1];exact Own.of (V.v.kept E aU)
         have Q:=dy aj E;refine ko l ?_ (λy => ?_)
         ·exact⟨aj,aw⟩
         clear l D;refine tk 11 ?_ (hy:=by intro w B;(try dsimp only at B);obtain⟨B,q9⟩:=B;go_simp;try with_reducible rfl);refine iK 12 (λD l => ?_);go_simp;refine ko l ?_ (λy => ?_)
         ·exact⟨Q,al⟩
         clear l D;refine wpAnyH_done (by kernel_rfl) ?_ _;clear am be bf aw aS aT lH lW ak;go_wp2;go_roundw
         case rel=>exact⟨k+1,_,by go_num,by omega,Q,al,aF,aG,aH,b9⟩
         case measure=>simp[intOf];omega
      ·have fw:k=L.length:=by omega
       have de:Own wZ.heap.size wr mv (fL (L.map (gC P))):=by rw[List.take_of_length_le (by omega)] at hO;exact hO
       have df:Ints (λj=>w0.heap.size<=j) wr mv (fL (L.map (gC P))):=iD de (by rw[iE,List.length_map];omega) (λj U=>by
        have h1:=(de.lt j U).1;have:=av.size;omega)
       obtain⟨ma,mc,r9,_,_⟩:=df.shape;subst r9;have bm:=da.size;have bn:=aW.size;have cA:=aP.size;have e5:=b'.size;have bs:fU (λj=>w0.heap.size<=j) wr (.slice (some ⟨bL,oL,none⟩) L.length sc) L:=fU.mono hL (iQ hg (λj U _=>⟨by have:=U.2;omega,λe=>U.1 (by simpa using e.symm)⟩));have e6:=HB.out.2.1
       have bp:∀k,k<2->wr.cell? ⟨w.heap.size+1,k,none⟩=some (.slice none 0 0)/\wr.frozen? ⟨w.heap.size+1,k,none⟩=false:=λk hk=>by
        have h1:=(fH (some p) av);have h2:=dy h1 hg;exact⟨h2.cell (HB.out.2.2.1 k hk).1 (by simp;omega),(World.frozen?_of_block (w:=w0) (h2.block (w.heap.size+1) (by omega) (by simp;omega))).trans (HB.out.2.2.1 k hk).2⟩
       obtain⟨eF,BZ⟩:=bp 0 (by omega);obtain⟨eG,Uf⟩:=bp 1 (by omega);have ed:Ext w wr:=fu (dy b' av) hg (λb hb z=>by have:p=b:=(by simpa using hb);omega);generalize (fL (L.map (gC P))).length=nl at *;have HR:=Lib.hid (And.intro df (And.intro bs ed));clear df bs ed bp hO de;have dW:¬(k:Int)<L.length:=by omega
       have cg:wr.grownBy ((wr.setCell ⟨w.heap.size+1,0,none⟩ (.slice (some ⟨bL,oL,none⟩) L.length sc)).setCell ⟨w.heap.size+1,1,none⟩ (.slice ma nl mc)) (some (w.heap.size+1)):=dy (pY wr ⟨w.heap.size+1,0,none⟩ _) (pY _ ⟨w.heap.size+1,1,none⟩ _);have ee:=fu HR.out.2.2 cg (λb hb z=>by have:w.heap.size+1=b:=(by simpa using hb);omega);have ef:fU (From w.heap.size) ((wr.setCell ⟨w.heap.size+1,0,none⟩ (.slice (some ⟨bL,oL,none⟩) L.length sc)).setCell ⟨w.heap.size+1,1,none⟩ (.slice ma nl mc)) (.slice (some ⟨bL,oL,none⟩) L.length sc) L:=fU.mono HR.out.2.1 (iQ cg (λj U _=>⟨by show w.heap.size<=j;omega,λe=>by have:w.heap.size+1=j:=(by simpa using e);omega⟩));have eg:Ints (From w.heap.size) ((wr.setCell ⟨w.heap.size+1,0,none⟩ (.slice (some ⟨bL,oL,none⟩) L.length sc)).setCell ⟨w.heap.size+1,1,none⟩ (.slice ma nl mc)) (.slice ma nl mc) (fL (L.map (gC P))):=Ints.mono HR.out.1 (iQ cg (λj U _=>⟨by show w.heap.size<=j;omega,λe=>by have:w.heap.size+1=j:=(by simpa using e);omega⟩));have H9:=Lib.hid (And.intro ee (And.intro ef eg));clear ee ef eg cg;go_wp2;have q0:((wr.setCell ⟨w.heap.size+1,0,none⟩ (.slice (some ⟨bL,oL,none⟩) L.length sc)).setCell ⟨w.heap.size+1,1,none⟩ (.slice ma nl mc)).cell? ⟨w.heap.size+1,0,none⟩=some (.slice (some ⟨bL,oL,none⟩) L.length sc):=(World.cell?_setCell_other _ _ _ _ (by simp)).trans (World.cell?_setCell_same _ _ _ eF);have q1:((wr.setCell ⟨w.heap.size+1,0,none⟩ (.slice (some ⟨bL,oL,none⟩) L.length sc)).setCell ⟨w.heap.size+1,1,none⟩ (.slice ma nl mc)).cell? ⟨w.heap.size+1,1,none⟩=some (.slice ma nl mc):=World.cell?_setCell_same _ _ _ ((World.cell?_setCell_other _ _ _ _ (by simp)).trans eG);refine bodyPost_ret (v := .agg #[.slice (some ⟨bL,oL,none⟩) L.length sc,.slice ma nl mc]) (by simp[results,Tryz.results150,go_sem,q0,q1]) rfl ?_;exact⟨_,rfl,H9.out.1,_,_,rfl,L,HL.out,H9.out.2.1,H9.out.2.2⟩
theorem EC {B B' E i:Nat}{w:World}{v j:Value}{xs b:List Value}(h:fK B E w v xs) (k:fK B' i w j b) (l:E≠i):v.ownBlock=none\/v.ownBlock≠j.ownBlock:=by
 obtain⟨_,⟨rfl,_⟩|⟨g,cap,cur,rfl,_,m,_⟩⟩:=h
 ·exact .inl rfl
 ·right
  obtain⟨_,⟨rfl,_⟩|⟨p,cap',cur',rfl,_,a,_⟩⟩:=k
  ·intro e;cases e
  ·intro e
   have q:g=p:=by simpa [Value.ownBlock] using e
   subst q;rw[m] at a;simp only[Option.some.injEq,Obj.cells.injEq] at a;exact l a.2.1
theorem zM {S:Nat->Prop}{B B':Nat}{w:World}{v a:Value}{xs:List (List (List Int))}{l:List Int}(h:kK S B w v xs) (b:Own B' w a l):(v.ownBlock=none\/v.ownBlock≠a.ownBlock)/\(a.ownBlock=none\/a.ownBlock≠v.ownBlock):=by
 obtain⟨e,_,h2,_⟩:=h;exact⟨EC h2 b.v (by decide),EC b.v h2 (by decide)⟩
theorem B1 {B H:Nat}{w:World}(hB:B<=w.heap.size) (hH:w.heap.size=H):Own B (w.alloc (.cells #[] 2)) (.slice (some ⟨H,0,none⟩) 0 0) []:=by
 subst hH;exact World.ownsRow_lit w #[] 0 hB (by decide) rfl
end Go.Proofs.YtoakmefajbbggaaGreat
namespace Go.Proofs.YtoakmefajbbggaaGreat
open Go.RowKit
open Go.Maps (Keyed)
theorem KI:Tryz.prog.underlying 157=some (.map 9 4):=by kernel_rfl
theorem KJ (w:World):(Instr.makeMap 157 none).run Tryz.prog w=.ok (.map (some w.heap.size)) (w.alloc (.map #[] 0)):=by kernel_rfl
def xJ:oh ByteArray Bool where
 t:=157
 k:=9
 e:=4
 kv s := .string s
 kl s := .string s.data.toList
 tA s:=s.size<=maxLen
 ev x := .bool x
 el x := .bool x
 uK _:=True
 z:=false
 keyed:=Maps.string_keyed uL
 und:=KI
 key s hs:=WideMaps.keyOf_string_mk uL hs
 inj a c h:=by
  cases a with|mk a=>cases c with|mk c=>
  simp only[Lit.string.injEq] at h;rw[Array.toList_inj.1 h]
 isKey _:=trivial
 elem x _:=plainElem_bool zN x
 inv v x ps h:=by
  unfold plainElem at h;rw[zN] at h;cases v<;>simp at h
  rw[h.1]
 zero w:=by kernel_rfl
 zO:=trivial
theorem KL (P:Pr):(jf P).length=(eW P).toNat:=by unfold jf;rw[List.length_map,List.length_range]
theorem KM {P:Pr}{t:Nat}(h:t<(eW P).toNat):gt (jf P) t=fF P (t:Int):=by
 unfold jf;rw[jM _ _ _ (by rw[List.length_range];exact h)];congr 2
 simp[gt,h]
def ow (S:List (List (List Int))) (s:ByteArray):Bool:=S.any (λv=>decide (jG v=s))
theorem ED {P:Pr}(hP:Valid P) {S:List (List (List Int))}(b:∀v∈S,fO P v) {u:List (List Int)}(e:fO P u):ow S (jG u)=decide (u∈S):=by
 rw[Bool.eq_iff_iff,decide_eq_true_iff];unfold ow;rw[List.any_eq_true];constructor
 ·rintro ⟨v,a,h⟩
  rw[<-EE hP (b v a) e (of_decide_eq_true h)];exact a
 ·intro h;exact⟨u,h,by simp⟩
theorem KN (S:List (List (List Int))) (u:List (List Int)) (s:ByteArray):(if s=jG u then true else ow S s)=ow (S++[u]) s:=by
 unfold ow;rw[List.any_append,List.any_cons,List.any_nil,Bool.or_false];by_cases h:s=jG u
 ·rw[if_pos h,h];simp
 ·rw [if_neg h]
  have:decide (jG u=s)=false:=by simpa using λe=>h e.symm
  rw[this,Bool.or_false]
theorem EF {P:Pr}(G:ez P) {u:List (List Int)}(b:fO P u):(jG u).size<=maxLen/\(∀x∈u,∀e∈x,0<=e/\e<256)/\(∀x∈u,x.length<=1000)/\u.length<=100:=by
 have i:=G.v.n6;have j:=G.lz b;have k:=zP u 6 (λz a=>by rw[(b.1 z a).1];exact i);have l:=B2 u;refine⟨by unfold maxLen;have:(6+1)*u.length<=100:=(by omega);omega,λz a=>(xK G.v (b.1 z a)).2,λz a=>by rw[(b.1 z a).1];omega,by omega⟩
theorem EG (P:Pr) (G:ez P) (aO:eW P<=32) (L:List (List (List Int))) (hL:jO P L) (w:World) (B lb:Nat) (p lv mv:Value) (Sp:Nat->Prop) (hX:fG w lb p lv mv) (hp:fB Sp w p P)
  (bZ:gN (λF w u (x:List (List Int))=>gY F w u x) 25 B w lv L) (hB:B<=w.heap.size) :
  Calls Tryz.prog 72 #[.pointer (some ⟨lb,0,none⟩)] w (fq w λw' v=>∃a n c za zn zc,v=.tuple #[.slice a n c,.slice za zn zc] /\
   gT (λF w u (x:List (List Int))=>gY F w u x) 25 B (λb=>(Value.slice za zn zc).ownBlock=some b) w' (.slice a n c) (gH P L L.length).firsts/\Own w.heap.size w' (.slice za zn zc) (fL (gH P L L.length).sizes)):=by
 have hP:=G.v;have cH:=hP.n6;have cm:=G.zQ aO hL;obtain⟨pb,po,rfl⟩:=hp.shape;obtain⟨vs,R,aP,aQ,ai,hd,hE⟩:=bZ
 obtain ⟨la,lc,hlv⟩:∃a c,lv=.slice a L.length c:=by
  rcases aQ.form with⟨e1,e2⟩|⟨g,cp,e1,_⟩
  ·have:L.length=0:=by rw[<-aP,e2];rfl
   exact⟨none,0,by rw[e1,this]⟩
  ·exact⟨_,_,by rw[e1,aP]⟩
 subst hlv;have aF:∀u∈L,fO P u:=λu hu=>(hL.2 u).1 hu;have bc:∀w',Ext w w'->w'.cell? ⟨lb,0,none⟩=some (.pointer (some ⟨pb,po,none⟩)):=λw' h=>(hX.ext h).2.1;obtain⟨cJ,hx1,hx2,hx3,xL⟩:=id hX;have bd:=hP.kT;obtain⟨N,hN⟩:∃N,N=(eW P).toNat:=⟨_,rfl⟩;have cr:N<=32:=by omega
 have be:=iU.made xJ w;have b0:=KJ w;have bf:Ext w (w.alloc (.map #[] 0)):=World.grownBy_alloc _ _ _;have aG:iU xJ (w.alloc (.map #[] 0)) w.heap.size (ow []) 0:=be;have HL:=Lib.hid (And.intro aF (And.intro bc (And.intro hN (And.intro hL hX))));clear aF bc hN hL hX;have HM:=Lib.hid (And.intro bf aG);clear bf aG be bd;go_enter Tryz.func72,Tryz.ntmps72;go_wp2;clear hx1 hx2 hx3 xL b0
 go_loopw [4,5,19] (λov zv iv wr=>∃(k:Nat) (v4 I:Value),v4=ov/\I=zv/\iv=.int .i64 k/\k<=L.length/\Ext w wr /\
  gT (λF w u (x:List (List Int))=>gY F w u x) 25 B (λb=>b=w.heap.size\/I.ownBlock=some b\/∃j,k<=j/\j<L.length/\R j b) wr v4 (gH P L k).firsts /\
  Own w.heap.size wr I (fL (gH P L k).sizes)/\iU xJ wr w.heap.size (ow (gH P L k).seen) (gH P L k).seen.length/\Hid ((∀b,v4.ownBlock=some b->w.heap.size<=b)/\I.ownBlock≠some w.heap.size)) (λ_ _ iv _=>L.length-(intOf iv).toNat)
 case atStart=>exact⟨0,_,_,rfl,rfl,rfl,by omega,HM.out.1,⟨[],λ_ _=>False,rfl,World.ownsRow_nil _ _ _ _,by simp,by simp,by simp[gH],by simp,by simp[Value.ownBlock]⟩,World.ownsRow_nil _ _ _ _,HM.out.2,Lib.hid (by simp[Value.ownBlock])⟩
 case round=>
  clear HM;obtain⟨k,v4,I,rfl,rfl,rfl,hk,hg,hO,hZ,hM,tB⟩:=hrel;have A:=G.B3 HL.out.1 k hk;have b3:=G.zR aO A;obtain⟨b4,b5⟩:=xM P L k;have C := @rj P L k;have V := @sj P L k;obtain⟨Q,W⟩:∃Q,Q=gH P L k:=⟨_,rfl⟩;rw[<-W] at hO hZ hM A b4 b5 b3 C V;have aT:=Lib.hid (And.intro C (And.intro V W));clear C V W;by_cases l:k<L.length
  ·have cs:(k:Int)<L.length:=by omega
   obtain ⟨gl,hla⟩:∃gl,la=some ⟨gl,0,none⟩:=by
    rcases aQ.form with⟨e1,e2⟩|⟨g,cp,e1,_⟩
    ·have:L.length=0:=by rw[<-aP,e2];rfl
     omega
    ·simp only[Value.slice.injEq] at e1;exact⟨g,e1.1⟩
   subst hla;have hc:=hg.cell (aQ.cell k (by omega)) (by simp);have aj:=hE k l;obtain⟨ua,uc,bh,_,_⟩:=jm.shape aj;rw[bh] at hc aj;have ak:=HL.out.1 _ (iW l);have av:gY (R k) wr (.slice ua (gt L k).length uc) (gt L k):=lX.mono aj (λb S l=>⟨S,Nat.lt_of_lt_of_le l hg.size,hg.block b l (by simp)⟩);obtain⟨T,ac,ad,ae⟩:=EF G ak;have y:=zS (gt L k) wr _ _ (gY.rows av) ac ad ae;have i:∀w',Ext wr w'->(Instr.lookup 157 (.map (some w.heap.size)) (.string (jG (gt L k))) false).run Tryz.prog w'=.ok (.bool (ow Q.seen (jG (gt L k)))) w':=λw' h=>(hM.ext h).look _ T;have J:=ED hP A.sub ak;obtain⟨u,hu⟩:∃u,u=gt L k:=⟨_,rfl⟩;rw[<-hu] at hc av ak T ac ad ae y i J;obtain⟨s,hs⟩:∃s,s=jG u:=⟨_,rfl⟩;rw[<-hs] at y i J;obtain⟨r,hr⟩:∃r,r=ow Q.seen s:=⟨_,rfl⟩;rw[<-hr] at i J;have HU:=Lib.hid (And.intro hu (And.intro ak (And.intro J (And.intro A aj))));clear hu ak J hs hr A aj T ac ad ae bh;go_wp2_with fail
   refine Calls.mono y ?_;rintro e7 w7 ⟨v7,rfl,mS,rfl⟩;clear y hc;have D:=i w7 mS;clear i;have Y:=dy hg mS;have aw:=hO.ext lX mS;have ax:=hZ.gw mS;have ay:=hM.ext mS;clear hO hZ hM;cases r with
   | true=>
    have E:u∈Q.seen:=of_decide_eq_true HU.out.2.2.1.symm;have q:=aT.out.2.1 (by rw[<-HU.out.1];exact E);have af:=aw.less (A':=λb=>b=w.heap.size\/I.ownBlock=some b\/∃j,k+1<=j/\j<L.length/\R j b) (λb h=>h.imp id (λh=>h.imp id (λ⟨j,h1,h2,h3⟩=>⟨j,by omega,h2,h3⟩)));have Z:=Lib.hid (And.intro q (And.intro af (And.intro ax ay)));clear E q aw af ax ay;go_wp2;clear D;go_roundw
    case rel=>exact⟨k+1,v4,I,rfl,rfl,by go_num,by omega,Y,by rw[Z.out.1];exact Z.out.2.1,by rw[Z.out.1];exact Z.out.2.2.1,by rw[Z.out.1];exact Z.out.2.2.2,tB⟩
    case measure=>simp[intOf];omega
   | false=>
    have E:¬u∈Q.seen:=λh=>by
     have:=HU.out.2.2.1;rw[decide_eq_true h] at this;cases this
    have q:=aT.out.1 (by rw[<-HU.out.1];exact E);have aU:=HL.out.2.1 w7 Y;have aH:=B4 P hP w7 _ Sp (hp.ext Y);have Z:=Lib.hid (And.intro q (And.intro aw (And.intro ax (And.intro ay av))));clear E q aw ax ay av;go_wp2_with fail
    clear D aU;refine Calls.mono aH ?_;rintro e8 w8 ⟨v8,rfl,al,hA⟩;clear aH;have bm:=dy Y al;have M:=dy mS al;have az:(jf P).length=N:=by rw[KL,HL.out.2.2.1]
    have aV:=gY.rows (hA.iB (by omega));obtain⟨ea,ec,KO,_,_⟩:=Sl.shape aV;subst KO;rw[az];have aI:dK (From w7.heap.size) w8 (.slice ea N ec) (jf P):=by rw[<-az];exact aV
    have HA:=Lib.hid (And.intro az aI);clear az aV aI hA;have cA:=Z.out.2.2.2.1.lt;have bn:=Z.out.2.2.2.1.ext al;go_wp2;go_loopw [9,33] (λcv tv wr=>∃t:Nat,cv=.int .i64 (((jg P u Q.seen t).2:Nat):Int)/\tv=.int .i64 t/\t<=N/\w8.grownBy wr (some w.heap.size)/\iU xJ wr w.heap.size (ow (jg P u Q.seen t).1) (jg P u Q.seen t).1.length) (λ_ tv _=>N-(intOf tv).toNat)
    case atStart=>exact⟨0,rfl,by go_num,by omega,gZ _ _,bn⟩
    case round=>
     clear bn;obtain⟨t,rfl,rfl,ht,K,ag⟩:=hrel;have H:Ext w wr:=fu bm K (λb S l=>by cases S;omega);have bo:=B5 P u Q.seen t;have aA:=G.zT HU.out.2.1 HU.out.2.2.2.1 t (by rw[<-HL.out.2.2.1];exact ht);have bp:=G.zR aO aA;have C := @zU P u Q.seen t;have V := @zV P u Q.seen t;obtain⟨cn,am⟩:∃cn,cn=jg P u Q.seen t:=⟨_,rfl⟩;rw[<-am] at ag bo aA bp C V;rw[<-am];have HY:=Lib.hid (And.intro C (And.intro V (And.intro am (And.intro aA bo))));clear C V aA;by_cases aW:t<N
     ·have cB:(t:Int)<N:=by omega
      have aB:dL P.orders (fF P (t:Int)):=G.kD (by rw[<-HL.out.2.2.1];exact aW)
      have br:dK Any wr (.slice ea N ec) (jf P):=dK.mono HA.out.2 (λj hj l=>⟨trivial,Nat.lt_of_lt_of_le l K.size,K.block j l (λe=>by
       have h1:w7.heap.size<=j:=hj;cases e;omega)⟩)
      obtain⟨bt,ot,a2,jx,xN,_,_,aY,aZ⟩:=dK.at br t (by rw[HA.out.1];exact aW);cases xN
      rw[KM (by rw[<-HL.out.2.2.1];exact aW)] at aY aZ
      have bs:dK (R k) wr (.slice ua u.length uc) u:=gY.rows (lX.mono Z.out.2.2.2.2 (λj hj l=>⟨hj,Nat.lt_of_lt_of_le l (Nat.le_trans M.size K.size),(K.block j (Nat.lt_of_lt_of_le l M.size) (λe=>by
       have:=(ai k j (by assumption) hj).2.2;cases e;omega)).trans (M.block j l (by simp))⟩))
      have aU:=HL.out.2.1 wr H;have cM:=G.lz HU.out.2.1;have aC:=KP P G wr _ _ _ u (fF P (t:Int)) Sp _ _ (hp.ext H) bs HU.out.2.1.1 (by omega) aZ aB;have an:=G.zW HU.out.2.1 aB;have cN:=Lib.hid aB;obtain⟨X,a0⟩:∃X,X=fF P (t:Int):=⟨_,rfl⟩;rw[<-a0] at aY aC an;obtain⟨cj,ab⟩:∃cj,cj=jo P u X:=⟨_,rfl⟩;have ao:fD P (gi P (λz=>z∈gW P u X))=cj:=by rw[ab];rfl
      rw[ao] at aC;rw[<-ab] at an;have ah:=Lib.hid (And.intro a0 ab);clear a0 ab ao aB aZ bs br;go_wp2_with fail
      clear aY aU;refine Calls.mono aC ?_;rintro e9 w9 ⟨v9,rfl,bu,bv⟩;clear aC;obtain⟨T,ac,ad,ae⟩:=EF G an;have a1:=gY.rows (bv.iB (by omega));obtain⟨ja,jc,KQ,_,_⟩:=Sl.shape a1;subst KQ;have y:=zS cj w9 _ _ a1 ac ad ae;have a3:=ag.ext bu;have i:∀w',Ext w9 w'->(Instr.lookup 157 (.map (some w.heap.size)) (.string (jG cj)) false).run Tryz.prog w'=.ok (.bool (ow cn.1 (jG cj))) w':=λw' h=>(a3.ext h).look _ T;have J:=ED hP HY.out.2.2.2.1.sub an;have O:=KN cn.1 cj;obtain⟨s2,bx⟩:∃s2,s2=jG cj:=⟨_,rfl⟩;rw[<-bx] at y i J O T;obtain⟨r,hr⟩:∃r,r=ow cn.1 s2:=⟨_,rfl⟩;rw[<-hr] at i J;have HK:=Lib.hid (And.intro J (And.intro O T));clear J O bx hr T ac ad ae a1 bv an;go_wp2_with fail
      refine Calls.mono y ?_;rintro eA wA ⟨vA,rfl,a4,rfl⟩;clear y;have D:=i wA a4;clear i;have aD:=a3.ext a4;have aJ:w8.grownBy wA (some w.heap.size):=dy K (fH _ (dy bu a4));clear ag a3;cases r with
      | true=>
       have E:cj∈cn.1:=of_decide_eq_true HK.out.1.symm;have q:=HY.out.2.1 (by rw[<-ah.out.1,<-ah.out.2];exact E);have m:=Lib.hid (And.intro q aD);clear E q aD;go_wp2;clear D;go_roundw
       case rel=>exact⟨t+1,by rw[m.out.1,HY.out.2.2.1],by go_num,by omega,aJ,by rw[m.out.1];exact m.out.2⟩
       case measure=>simp[intOf];omega
      | false=>
       have E:¬cj∈cn.1:=λh=>by
        have:=HK.out.1;rw[decide_eq_true h] at this;cases this
       have q:=HY.out.1 (by rw[<-ah.out.1,<-ah.out.2];exact E);rw[<-ah.out.1,<-ah.out.2] at q;obtain⟨wU,hrun,EH,zX⟩:=aD.update s2 HK.out.2.2 true trivial (by omega);have a5:(Instr.mapUpdate 157 (.map (some w.heap.size)) (.string s2) (.bool true)).run Tryz.prog wA=.ok () wU:=hrun
       have aK:iU xJ wU w.heap.size (ow (cn.1++[cj])) (cn.1++[cj]).length:=by
        rw[List.length_append,List.length_singleton];exact EH.congr (λs=>HK.out.2.1 s)
       have bz:=dy aJ zX;have ca:wrap64 ((cn.2:Nat)+1:Int)=((cn.2+1:Nat):Int):=by rw[IntWalk.wrap64_in _ (by omega)];omega
       have m:=Lib.hid (And.intro q aK);clear E q aD EH aK hrun zX;go_wp2;clear D a5;go_roundw
       case rel=>exact⟨t+1,by rw[m.out.1,<-HY.out.2.2.1];exact congrArg (Value.int .i64) ca,by go_num,by omega,bz,by rw[m.out.1];exact m.out.2⟩
       case measure=>simp[intOf];omega
     ·have bA:t=N:=by omega
      have q:=Z.out.1;rw[<-HU.out.1,<-HL.out.2.2.1,<-bA,<-am] at q;have cb:¬(t:Int)<N:=by omega
      have cE:cn.2<=32:=by omega
      have af:=(Z.out.2.1.ext lX al).kept lX K (.inl rfl)
      have a6:=(Z.out.2.2.1.gw al).ext K (by
       rcases hz:I.ownBlock with _|b
       ·exact .inl rfl
       ·exact .inr (λe=>tB.out.2 (by rw[hz];exact e)))
      have cc:∀b,I.ownBlock=some b->w.heap.size<=b/\b<wr.heap.size:=λb S=>a6.lt b S;have bB:=ag.lt;have bC:=af.uI;have bD:=af.less (A':=λb=>(b=w.heap.size\/I.ownBlock=some b\/∃j,k<=j/\j<L.length/\R j b)/\b<wr.heap.size) (λb h=>h.1)
      have bE:gY (R k) wr (.slice ua u.length uc) u:=lX.mono Z.out.2.2.2.2 (λj hj l=>⟨hj,Nat.lt_of_lt_of_le l (Nat.le_trans M.size K.size),(K.block j (Nat.lt_of_lt_of_le l M.size) (λe=>by
       have:=(ai k j (by assumption) hj).2.2;cases e;omega)).trans (M.block j l (by simp))⟩)
      have bF:∀b,R k b->b<wr.heap.size->((b=w.heap.size\/I.ownBlock=some b\/∃j,k<=j/\j<L.length/\R j b)/\b<wr.heap.size)/\B<=b:=λb S bG=>⟨⟨.inr (.inr ⟨k,by omega,by assumption,S⟩),bG⟩,(ai k b (by assumption) S).1⟩
      have bH:∀b,(b=w.heap.size\/I.ownBlock=some b\/∃j,k+1<=j/\j<L.length/\R j b)->((b=w.heap.size\/I.ownBlock=some b\/∃j,k<=j/\j<L.length/\R j b)/\b<wr.heap.size)/\¬R k b:=λb h=>by
       have bI:R k b->b<w.heap.size:=λh=>(ai k b (by assumption) h).2.2;rcases h with h|h|⟨j,h1,h2,h3⟩
       ·exact⟨⟨.inl h,by omega⟩,λh4=>by have:=bI h4;omega⟩
       ·have:=cc b h
        exact⟨⟨.inr (.inl h),this.2⟩,λh4=>by have:=bI h4;omega⟩
       ·have h5:=(ai j b h2 h3).2.2
        have h6:=H.size;exact⟨⟨.inr (.inr ⟨j,by omega,h2,h3⟩),by omega⟩,λh4=>by have:=hd j k b h2 (by assumption) h3 h4;omega⟩
      have cd:Q.firsts.length<=1000000:=by omega
      have aL:(fL Q.sizes).length<=1000000:=by rw[iE];omega
      have O:=tu Q.sizes cn.2;have m:=Lib.hid (And.intro q (And.intro bD (And.intro a6 (And.intro ag (And.intro bE (And.intro bF (And.intro bH (And.intro aL O))))))));clear q af bD a6 ag bE bF bH aL O am bA
      go_wp2_with (first
       | (at_builtin;refine KR rfl _ _ rfl B (λb=>(b=w.heap.size\/I.ownBlock=some b\/∃j,k<=j/\j<L.length/\R j b)/\b<wr.heap.size) (λb=>b=w.heap.size\/I.ownBlock=some b\/∃j,k+1<=j/\j<L.length/\R j b) (R k) wr v4 _ Q.firsts u rfl m.out.2.1 m.out.2.2.2.2.1 m.out.2.2.2.2.2.1 m.out.2.2.2.2.2.2.1 (λb S=>S.2) rfl rfl cd (by have:=H.size;omega) ?_;intro vB wB bK ap cg;have bL:=m.out.2.2.1.ext ap (by rcases hz:I.ownBlock with _|b;exact .inl rfl;exact .inr (λe=>(bC b e.symm).1 (.inr (.inl hz))));have bM:=m.out.2.2.2.1.kept ap (λe=>(bC _ e.symm).1 (.inl rfl));have aE:=Lib.hid (And.intro bK (And.intro bL bM));clear bK bL bM)
       | (at_builtin;refine zJ rfl _ _ rfl w.heap.size _ (fL Q.sizes) ((cn.2:Nat):Int) rfl wB aE.out.2.1 rfl rfl m.out.2.2.2.2.2.2.2.1 (Nat.le_trans H.size ap.size) ?_;intro vC wC ci U bO)
       | fail)
      have U:wB.grownBy wC I.ownBlock:=U;have bP:Ext w wB:=fu H ap (λb S l=>by have:=tB.out.1 b S;omega);have bQ:Ext w wC:=fu bP U (λb S l=>by have:=(aE.out.2.1.lt b S).1;omega)
      have aq:=aE.out.1.more (A':=λb=>b=w.heap.size\/(I.ownBlock=some b\/vC.ownBlock=some b)\/∃j,k+1<=j/\j<L.length/\R j b) (λb h=>by
       rcases h with h|(h|h)|h
       ·exact .inl (.inl h)
       ·exact .inl (.inr (.inl h))
       ·rcases bO b h with h|h
        ·exact .inl (.inr (.inl h))
        ·exact .inr h
       ·exact .inl (.inr (.inr h)))
      have bR:gT (λF w u (x:List (List Int))=>gY F w u x) 25 B (λb=>b=w.heap.size\/(I.ownBlock=some b\/vC.ownBlock=some b)\/∃j,k+1<=j/\j<L.length/\R j b) wC vB (Q.firsts++[u]):=by
       rcases hz:I.ownBlock with _|b
       ·rw [hz] at U aq
        exact aq.ext lX U
       ·rw [hz] at U aq
        exact aq.kept lX U (.inr (.inl (.inl rfl)))
      have aM:=bR.less (A':=λb=>b=w.heap.size\/vC.ownBlock=some b\/∃j,k+1<=j/\j<L.length/\R j b) (λb h=>h.imp id (λh=>h.imp .inr id));have bS:=aE.out.2.2.kept U (λe=>tB.out.2 e.symm);have cF:=Nat.lt_of_lt_of_le bB ap.size
      have aN:(∀b,vB.ownBlock=some b->w.heap.size<=b)/\vC.ownBlock≠some w.heap.size:=⟨λb S=>by
       rcases cg with h|h
       ·exact tB.out.1 b (by rw[<-h];exact S)
       ·have:=h b S;have:=H.size;omega,λe=>by
       rcases bO _ e with h|h
       ·exact tB.out.2 h
       ·omega⟩
      have HC:=Lib.hid (And.intro aN (And.intro aM bS));clear aN bR aM bS aq;go_roundw
      case rel=>exact⟨k+1,vB,vC,rfl,rfl,by go_num,by omega,bQ,by rw[m.out.1];exact HC.out.2.1,by rw[m.out.1,m.out.2.2.2.2.2.2.2.2];exact ci,by rw[m.out.1];exact HC.out.2.2,Lib.hid HC.out.1⟩
      case measure=>simp[intOf];omega
  ·have bT:k=L.length:=by omega
   have cb:¬(k:Int)<L.length:=by omega
   have W:=aT.out.2.2;rw[bT] at W;have a7:=hO.less (A':=λb=>I.ownBlock=some b) (λb h => .inr (.inl h));rw[W] at a7 hZ
   obtain ⟨fa,fn,fc,xO⟩:∃a n c,v4=.slice a n c:=by
    obtain⟨a,c,h,_⟩:=jm.shape (hO.o.iB (by omega));exact⟨_,_,_,h⟩
   obtain ⟨za,zn,zc,B6⟩:∃a n c,I=.slice a n c:=by
    rcases hZ.v.form with⟨h1,_⟩|⟨g,cp,h1,_⟩<;>exact⟨_,_,_,h1⟩
   subst xO B6;have HE:=Lib.hid (And.intro a7 hZ);clear hO a7 hZ hM W bT;go_wp2;refine bodyPost_ret (v := .tuple #[.slice fa fn fc,.slice za zn zc]) (by simp[results,Tryz.results72,go_sem]) rfl ?_;exact⟨_,rfl,hg,_,_,_,_,_,_,rfl,HE.out.1,HE.out.2⟩
end Go.Proofs.YtoakmefajbbggaaGreat
namespace Go.Proofs.YtoakmefajbbggaaGreat
open Go.RowKit
def rq (P:Pr) (m x:Nat) (y:List Int):Prop:=∃t,t<x/\m.testBit t=true/\y=fF P (t:Int)
theorem KS (P:Pr) (m:Nat):rq P m 0=λ_=>False:=
 funext λy=>propext ⟨λ⟨t,h,_⟩=>by omega,λh=>h.elim⟩
theorem KT {P:Pr}{m x:Nat}(h:m.testBit x=false):rq P m (x+1)=rq P m x:=by
 funext y
 refine propext ⟨λ⟨t,h1,a,h3⟩ => ?_,λ⟨t,h1,a,h3⟩=>⟨t,by omega,a,h3⟩⟩;rcases Nat.lt_or_ge t x with b|b
 ·exact⟨t,b,a,h3⟩
 ·obtain rfl:t=x:=by omega
  rw[h] at a;cases a
theorem KU {P:Pr}{m x:Nat}(h:m.testBit x=true):gi P (λz=>gi P (rq P m x) z\/z∈[fF P (x:Int)])=gi P (rq P m (x+1)):=by
 rw[zY];congr 1
 funext z
 refine propext ⟨λb => ?_,λ⟨t,h1,h2,a⟩ => ?_⟩
 ·rcases b with⟨t,h1,h2,a⟩|b
  ·exact⟨t,by omega,h2,a⟩
  ·exact⟨x,by omega,h,by simpa using b⟩
 ·rcases Nat.lt_or_ge t x with e|e
  ·exact .inl ⟨t,e,h2,a⟩
  ·obtain rfl:t=x:=by omega
   exact .inr (by simpa using a)
section
variable {P:Pr}(G:ez P)
include G
theorem ez.KV {H:List Int->Prop}(S:Sub P H):gi P (rq P (gB P H) (eW P).toNat)=H:=by
 have:rq P (gB P H) (eW P).toNat=H:=funext λy=>propext ⟨λ⟨t,h1,a,b⟩=>by
  rw[b];exact(nH h1).1 a,λhy=>by
  obtain⟨h1,a⟩:=G.kE (S.vec y hy);exact⟨_,h1,(nH h1).2 (by rw[a];exact hy),a.symm⟩⟩
 rw[this];exact EI S
end
theorem KW (a b:Nat) (ha:a<2 ^ 32) (e:b<2 ^ 32):bits .or .i64 (a:Int) (b:Int)=((a ||| b:Nat):Int):=by
 have hx:a ||| b<2 ^ 32:=Nat.or_lt_two_pow ha e;have i:a<4294967296:=ha;have j:b<4294967296:=e;have k:a ||| b<4294967296:=hx;show IntKind.i64.wrap ((BitVec.ofInt 64 (a:Int) ||| BitVec.ofInt 64 (b:Int)).toNat:Int)=_
 rw[BitVec.toNat_or,ofInt_u64 a (by omega),ofInt_u64 b (by omega)];exact IntWalk.i64_in _ ⟨by omega,by omega⟩
theorem EJ {P:Pr}(G:ez P) (a:eW P<=32) {m t b:Nat}(e:t<(eW P).toNat) (i:b<(eW P).toNat):∀k,k<=(eW P).toNat->lY P m t b k<2 ^ 32
 | 0,_=>by show 0<2 ^ 32;decide
 | k + 1,hk=>by
  have j:=EJ G a e i k (by omega) (m:=m);unfold lY;split
  ·have h1:=G.nI i (show k<(eW P).toNat by omega)
   have l:=G.nI h1.1 e;exact Nat.or_lt_two_pow j (Nat.pow_lt_pow_right (by decide) (by omega))
  ·exact j
theorem EK (sl:List Nat) (x:Nat) (w:World) (v:Value) (S:Nat->Prop) (A:Ints S w v (fL sl)) (K:sl.length<=100000) :
  Calls Tryz.prog 152 #[v,.int .i64 (x:Int)] w (fq w λ_ v=>v=.bool (decide (x∈sl))):=by
 obtain⟨a,c,l,_,_⟩:=A.shape;rw[iE] at l;subst l;have m:Sl rO S w (.slice a (fL sl).length c) (fL sl):=by rw[iE];exact A
 have I:=Lib.hid m;clear A m;go_enter Tryz.func152,Tryz.ntmps152;go_wp2;go_loopw [5] (λB wr=>∃i:Nat,B=.int .i64 i/\i<=sl.length/\Ext w wr/\Hid (∀j,j<i->gt sl j≠x)) (λB _=>sl.length-(intOf B).toNat)
 case atStart=>exact⟨0,by go_num,by omega,Ext.refl _,Lib.hid (λj u=>by omega)⟩
 case round=>
  obtain⟨i,rfl,hi,hg,hN⟩:=hrel;by_cases k:i<sl.length
  ·have H:(i:Int)<sl.length:=by omega
   obtain⟨b,o,hab,_,_,z⟩:=Ints.at I.out i (by rw[iE];exact k);subst hab;rw[r7 k] at z;have C:=hg.cell z (by simp);by_cases p:gt sl i=x
   ·have q:x∈sl:=by rw[<-p];exact fT k
    rw[p] at C;have D:=Lib.hid q;clear q p z;go_wp2;go_ret;exact⟨_,rfl,hg,by simp[D.out]⟩
   ·have E:(((gt sl i:Nat):Int) == (x:Int))=false:=by
     have:¬((gt sl i:Nat):Int)=(x:Int):=by omega
     simpa using this
    have r:∀j,j<i+1->gt sl j≠x:=λj u=>by
     rcases Nat.lt_succ_iff_lt_or_eq.1 u with h|h
     ·exact hN.out j h
     ·rw[h];exact p
    have F:=Lib.hid r;clear r p z hN;generalize gt sl i=y at *;go_wp2;clear E;go_roundw
    case rel=>exact⟨i+1,by go_num,by omega,hg,F⟩
    case measure=>simp[intOf];omega
  ·have G:i=sl.length:=by omega
   have q:¬x∈sl:=λh=>by
    obtain⟨j,u,e⟩:=List.getElem_of_mem h;rw[<-gM sl j u] at e;exact hN.out j (by omega) e
   have J:¬(i:Int)<sl.length:=by omega
   have D:=Lib.hid q;clear q G hN;go_wp2;go_ret;exact⟨_,rfl,hg,by simp[D.out]⟩
theorem KX (P:Pr) (G:ez P) (ai:eW P<=32) (u:List (List Int)) (hu:fO P u) (t:Nat) (ht:t<(eW P).toNat) (w:World) (tv:Value) (S:Nat->Prop) (V:dK S w tv (gD P)) :
  Calls Tryz.prog 153 #[tv,.int .i64 ((gC P u:Nat):Int),.int .i64 (t:Int)] w (fq w λ_ v=>v=.int .i64 ((gC P (jo P u (fF P (t:Int))):Nat):Int)):=by
 obtain⟨mR,aa,rfl,_,_⟩:=Sl.shape V;have ab:=G.v.kT;have hT:=G.kD ht;obtain⟨N,hN⟩:∃N,N=(eW P).toNat:=⟨_,rfl⟩;have ax:N<=32:=by omega
 have l:(gD P).length=N:=by rw[oV,hN]
 have W:dK S w (.slice mR N aa) (gD P):=by rw[<-l];exact V
 rw[l];have X:(num P (zeros P.orders.length)).toNat=0:=by rw[tC G.v];rfl
 -- the place of the inverse
 obtain ⟨b0,hb0,KY⟩:∃b0,b0<N/\tb P t b0=0:=by
  obtain⟨h1,h2⟩:=G.kE (G.invV hT);refine⟨(num P (gj P (fF P (t:Int)))).toNat,by omega,?_⟩;unfold tb;rw[h2,G.j7 hT];exact X
 have B:∀a,a<N->tb P t a=0->fF P (a:Int)=gj P (fF P (t:Int)):=λa al he=>by
  have hB:=G.kD (P:=P) (show a<(eW P).toNat by omega);refine G.sk hT hB ?_;have h1:=(G.nI ht (show a<(eW P).toNat by omega)).2;rw[he] at h1;rw[<-h1];obtain⟨h3,h4⟩:=G.kE G.jP;rw[X] at h4;exact h4
 have O:t<N:=by omega
 have k:=Lib.hid (And.intro hN (And.intro l (And.intro B (And.intro hu ht))));clear hN l B hu V ab X ht;obtain⟨m,hm⟩:∃m,m=gC P u:=⟨_,rfl⟩;rw[<-hm];have HM:=Lib.hid hm;clear hm;have aE:(t:Int)<N:=by omega
 go_enter Tryz.func153,Tryz.ntmps153;go_wp2;go_loopw [7] (λbv wr=>∃a:Nat,bv=.int .i64 a/\a<=b0/\Ext w wr) (λbv _=>33-(intOf bv).toNat)
 case atStart=>exact⟨0,by go_num,by omega,Ext.refl _⟩
 case round=>
  obtain⟨a,rfl,al,K⟩:=hrel;have C:a<N:=by omega
  have aF:(a:Int)<N:=by omega
  obtain⟨bt,ot,a2,jx,xN,_,_,Y,hrt⟩:=dK.at (dK.ext W K) t (by rw[k.out.2.1];exact O);subst xN;have L:(gt (gD P) t).length=N:=by rw[sr k.out.2.2.2.2,k.out.1];simp
  obtain⟨br,or',hbr,_,_,r⟩:=Ints.at hrt a (by rw[L];exact C);subst hbr;rw[L] at Y;rw[tD k.out.2.2.2.2 (by rw[<-k.out.1];exact C)] at r;by_cases Q:tb P t a=0
  ·have he:=k.out.2.2.1 a C Q
   rw[Q] at r;have HE:=Lib.hid he;clear he Q L;have r:wr.cell? ⟨br,or'+a,none⟩=some (.int .i64 0):=r;go_wp2;clear r Y hrt;go_loopw [8,9] (λov xv wr=>∃x:Nat,ov=.int .i64 ((lY P m t a x:Nat):Int)/\xv=.int .i64 x/\x<=N/\Ext w wr) (λ_ xv _=>N-(intOf xv).toNat)
   case atStart=>exact⟨0,rfl,by go_num,by omega,K⟩
   case round=>
    clear K;obtain⟨x,rfl,rfl,hx,K⟩:=hrel;by_cases ap:x<N
    ·have az:(x:Int)<N:=by omega
     have b:=zL m x;have ae:=k.out.1;have M:x<(eW P).toNat:=by omega
     have A:a<(eW P).toNat:=by omega
     cases i:m.testBit x with
     | false=>
      rw[i] at b;have b:((m:Int)/2 ^ x).tmod 2=0:=b;have j:lY P m t a (x+1)=lY P m t a x:=by rw[lY,if_neg (by rw[i];simp)]
      have HS:=Lib.hid j;clear j i ae M A;generalize lY P m t a x=q at *;go_wp2;clear b;go_roundw
      case rel=>exact⟨x+1,by rw[HS.out],by go_num,by omega,K⟩
      case measure=>simp[intOf];omega
     | true=>
      rw[i] at b;have b:((m:Int)/2 ^ x).tmod 2=1:=b;have j:lY P m t a (x+1)=lY P m t a x ||| 2 ^ tb P (tb P a x) t:=by rw[lY,if_pos i]
      have Z:=EJ G ai k.out.2.2.2.2 A x (by omega) (m:=m);have h1:=(G.nI A M).1;have h2:=(G.nI h1 k.out.2.2.2.2).1;obtain⟨aI,Ug,a21,Uh,KZ,_,_,R,EL⟩:=dK.at (dK.ext W K) a (by rw[k.out.2.1];exact C);have D:(gt (gD P) a).length=N:=by rw[sr A,k.out.1];simp
      obtain⟨aJ,Ui,K0,_,_,E⟩:=Ints.at EL x (by rw[D];exact ap);subst K0;rw[D] at R;rw[tD A M] at E;obtain⟨y,hy⟩:∃y,y=tb P a x:=⟨_,rfl⟩;rw[<-hy] at E h1 h2 j;have ar:y<N:=by omega
      obtain⟨aK,Uj,a22,Uk,K1,_,_,T,EM⟩:=dK.at (dK.ext W K) y (by rw[k.out.2.1];exact ar);have F:(gt (gD P) y).length=N:=by rw[sr h1,k.out.1];simp
      obtain⟨aL,Ul,K2,_,_,H⟩:=Ints.at EM t (by rw[F];exact O);subst K2;rw[F] at T;rw[tD h1 k.out.2.2.2.2] at H;obtain⟨z,Q⟩:∃z,z=tb P y t:=⟨_,rfl⟩;rw[<-Q] at H h2 j;have aM:z<N:=by omega
      cases KZ
      cases K1
      have U:=B7 z (by omega);have I:(2:Nat) ^ z<2 ^ 32:=Nat.pow_lt_pow_right (by decide) (by omega);obtain⟨p,hp⟩:∃p,p=2 ^ z:=⟨_,rfl⟩;rw[<-hp] at U j I;obtain⟨q,hq⟩:∃q,q=lY P m t a x:=⟨_,rfl⟩;rw[<-hq] at Z j ⊢;have aN:=KW q p Z I;have aO:(y:Int)<N:=by omega
      have HS:=Lib.hid j;clear j i ae M A h1 h2 D F hy Q hp hq Z I EL EM;go_wp2;clear b U R T E H;go_roundw
      case rel=>exact⟨x+1,by rw[HS.out],by go_num,by omega,K⟩
      case measure=>simp[intOf];omega
    ·have af:x=N:=by omega
     have J:=G.K3 k.out.2.2.2.1 k.out.2.2.2.2 (by rw[<-k.out.1];exact C) HE.out;rw[<-HM.out,<-k.out.1,<-af] at J;have aP:¬(x:Int)<N:=by omega
     have au:=Lib.hid J;clear J af;generalize lY P m t a x=q at *;go_wp2;go_ret;exact⟨_,rfl,K,congrArg (λz:Nat=>Value.int .i64 (z:Int)) au.out⟩
  ·have aC:a≠b0:=λe=>Q (by rw[e];exact KY)
   have av:(((tb P t a:Nat):Int) != 0)=true:=by
    have:¬((tb P t a:Nat):Int)=0:=by omega
    simpa using this
   generalize tb P t a=y at *;clear Q L;go_wp2;clear r Y hrt av;go_roundw
   case rel=>exact⟨a+1,by go_num,by omega,K⟩
   case measure=>simp[intOf];omega
theorem K4 (P:Pr) (w:World) (pv:Value) (E:Nat->Prop) (B:gy E w pv P) :
  Calls Tryz.prog 74 #[pv] w (fq w λ_ v=>v=.int .i64 (iC P)):=by
 obtain⟨vo,vp,vc,rfl,h3⟩:=B;have m:=fB.box h3 28;have k:Ext w (w.alloc (.cells #[vo,vp,vc] 28)):=World.grownBy_alloc _ _ _;obtain⟨p,fN,fM,_,_,j,a,b,fP⟩:=m.at;simp only[Nat.zero_add] at a b;have q:∀w',Ext (w.alloc (.cells #[vo,vp,vc] 28)) w'->w'.cell? ⟨w.heap.size,0,none⟩=some p/\w'.cell? ⟨w.heap.size,1,none⟩=some fN/\w'.cell? ⟨w.heap.size,2,none⟩=some fM:=λw' h=>⟨h.cell j (by simp),h.cell a (by simp),h.cell b (by simp)⟩;have F:=Lib.hid q;clear q m;have r:=EN P _ (.agg #[p,fN,fM]) Any ⟨_,_,_,rfl,fP⟩;go_enter Tryz.func74,Tryz.ntmps74;go_wp2_with fail
 clear j a b;generalize C:w.alloc (.cells #[vo,vp,vc] 28)=w0 at *;clear C;refine Calls.mono r ?_;rintro G D ⟨v1,rfl,i,rfl⟩;clear r;cases u:jH P with
 | false=>
  have e:iC P=1:=by unfold iC;rw[u];rfl
  have A:=Lib.hid e;clear e u;go_wp2;go_ret;exact⟨_,rfl,dy k i,by rw[A.out];rfl⟩
 | true=>
  have hP:=(lZ u).v;have e:iC P=if 32<eW P then 3 else 0:=by unfold iC;rw[u,if_pos rfl]
  have A:=Lib.hid e;clear e u;obtain⟨j,a,b⟩:=F.out D i;go_wp2_with fail
  clear j a b;refine Calls.mono (rX D _ P Any hP ⟨_,_,_,rfl,fA.ext fP i⟩) ?_;rintro H I ⟨J,rfl,y,rfl⟩;by_cases z:32<eW P
  ·have e:=A.out
   rw[if_pos z] at e;have l:=Lib.hid e;clear e;go_wp2;go_ret;exact⟨_,rfl,dy k (dy i y),by rw[l.out];rfl⟩
  ·have e:=A.out
   rw[if_neg z] at e;have l:=Lib.hid e;clear e;go_wp2;go_ret;exact⟨_,rfl,dy k (dy i y),by rw[l.out];rfl⟩
theorem EO {P:Pr}(G:ez P) {S:List (List (List Int))}(b:∀v∈S,fO P v) {u:List (List Int)}(i:fO P u):gC P u∈S.map (gC P)↔u∈S:=by
 constructor
 ·intro h
  obtain⟨v,a,e⟩:=List.mem_map.1 h;rw[<-G.zZ (b v a) i e];exact a
 ·intro h;exact List.mem_map.2 ⟨u,h,rfl⟩
theorem K5 (P:Pr) (S:List (List (List Int))) (u:List (List Int)):fL ((S++[u]).map (gC P))=fL (S.map (gC P))++[((gC P u:Nat):Int)]:=by
 rw[List.map_append];exact tu _ _
theorem K6 (P:Pr) (G:ez P) (w:World) (pv:Value) (Sp:Nat->Prop) (ac:eW P<=32) (b3:gy Sp w pv P) :
  Calls Tryz.prog 75 #[pv] w (fq w λw' v=>∃fv zv,v=.tuple #[fv,zv]/\∃L,jO P L/\fU Any w' fv (gH P L L.length).firsts/\Own w.heap.size w' zv (fL (gH P L L.length).sizes)):=by
 have hP:=G.v;obtain⟨vo,vp,vc,rfl,h3⟩:=b3;have bi:=fB.box h3 28;have bj:Ext w (w.alloc (.cells #[vo,vp,vc] 28)):=World.grownBy_alloc _ _ _;obtain⟨aY,fN,fM,_,_,Y,K,M,fP⟩:=bi.at;simp only[Nat.zero_add] at K M;have bk:∀w',Ext (w.alloc (.cells #[vo,vp,vc] 28)) w'->w'.cell? ⟨w.heap.size,0,none⟩=some aY/\w'.cell? ⟨w.heap.size,1,none⟩=some fN/\w'.cell? ⟨w.heap.size,2,none⟩=some fM:=λw' h=>⟨h.cell Y (by simp),h.cell K (by simp),h.cell M (by simp)⟩;have HB:=Lib.hid bk;clear bk bi;have hf:=KB P G _ (.agg #[aY,fN,fM]) Any ac ⟨_,_,_,rfl,fP⟩;go_enter Tryz.func75,Tryz.ntmps75;go_wp2_with fail
 clear Y K M;generalize b4:w.alloc (.cells #[vo,vp,vc] 28)=w0 at *;clear b4;refine Calls.mono hf ?_;rintro e1 w1 ⟨v1,rfl,hg1,sv,mv,rfl,L,hL,hR,hM⟩;clear hf;have cv:=G.zQ ac hL;have aZ:=(G.EB hL).1;have aO:∀u∈L,fO P u:=λu hu=>(hL.2 u).1 hu;obtain⟨ms,ad⟩:∃ms,ms=L.map (gC P):=⟨_,rfl⟩;have Z:ms.length=L.length:=by rw[ad,List.length_map]
 have bo:∀k,k<L.length->gt ms k=gC P (gt L k):=λk hk=>by rw[ad];exact jM _ _ _ hk
 rw[<-ad] at hM;obtain⟨sa,sc,xI,_,_⟩:=Sl.shape hR;subst xI;obtain⟨am,cm,r9,_,_⟩:=hM.shape;rw[iE,Z] at r9;subst r9;have bq:Sl rO (From w0.heap.size) w1 (.slice am (fL ms).length cm) (fL ms):=by rw[iE,Z];exact hM
 have ae:Ext w1 (w1.alloc (.cells #[.slice sa L.length sc,.slice am L.length cm] 163)):=World.grownBy_alloc _ _ _
 have br:∀w',Ext (w1.alloc (.cells #[.slice sa L.length sc,.slice am L.length cm] 163)) w'->w'.cell? ⟨w1.heap.size,0,none⟩=some (.slice sa L.length sc)/\w'.cell? ⟨w1.heap.size,1,none⟩=some (.slice am L.length cm):=λw' h=>
  ⟨h.cell (by rw[World.cell?_alloc_at _ _ _ _ rfl];rfl) (by simp),h.cell (by rw[World.cell?_alloc_at _ _ _ _ rfl];rfl) (by simp)⟩
 have af:=dy hg1 ae;have aP:=Ep P G _ (.agg #[aY,fN,fM]) Any ⟨_,_,_,rfl,fA.ext fP af⟩;obtain⟨Y,K,M⟩:=HB.out _ af;have HL:=Lib.hid (And.intro hL (And.intro aO (And.intro ad (And.intro bo (And.intro br bq)))));clear hL aO ad bo br hM bq;have HR:=Lib.hid hR;clear hR;go_wp2_with fail
 clear Y K M;generalize b5:w1.alloc (.cells #[.slice sa L.length sc,.slice am L.length cm] 163)=w2 at *;clear b5;refine Calls.mono aP ?_;rintro e3 i ⟨v3,rfl,F,hT⟩;clear aP;obtain⟨ta,tc,K7,_,_⟩:=Sl.shape hT;subst K7;have bs:=hP.kT;obtain⟨N,hN⟩:∃N:Nat,eW P=(N:Int):=⟨(eW P).toNat,by omega⟩;have bt:(eW P).toNat=N:=by omega
 have cy:N<=32:=by omega
 have ah:=dy af F;have bu:w1.heap.size<=i.heap.size:=Nat.le_trans ae.size F.size;have bv:Ext i (i.alloc (.cells #[] 25)):=World.grownBy_alloc _ _ _;have a0:Ext (i.alloc (.cells #[] 25)) ((i.alloc (.cells #[] 25)).alloc (.cells #[] 2)):=World.grownBy_alloc _ _ _;have ax:Ext ((i.alloc (.cells #[] 25)).alloc (.cells #[] 2)) (((i.alloc (.cells #[] 25)).alloc (.cells #[] 2)).alloc (.cells #[] 2)):=World.grownBy_alloc _ _ _;have bw:=((kK.EP Any i.heap.size i (Nat.le_refl _)).ext a0).ext ax;have bx:=B1 (B:=i.heap.size) (H:=i.heap.size+1) (w:=i.alloc (.cells #[] 25)) (by simp) (by simp);have bz:=B1 (B:=i.heap.size) (H:=i.heap.size+1+1) (w:=(i.alloc (.cells #[] 25)).alloc (.cells #[] 2)) (by simp;omega) (by simp);have aQ:=bx.gw ax;have aR:=dy bv (dy a0 ax);have HI:=Lib.hid (And.intro bw (And.intro aQ (And.intro bz aR)));clear bw bx aQ bz aR bv a0 ax;have HN:=Lib.hid (And.intro hN bt);clear hN bt bs;go_wp2;go_loopw [6,7,8,9] (λfv zv sv kv wr=>∃(k:Nat) (v6 v7 v8:Value),v6=fv/\v7=zv/\v8=sv/\kv=.int .i64 k/\k<=L.length/\Ext i wr/\kK Any i.heap.size wr v6 (gH P L k).firsts/\Own i.heap.size wr v7 (fL (gH P L k).sizes)/\Own i.heap.size wr v8 (fL ((gH P L k).seen.map (gC P)))/\Hid (∀j,v7.ownBlock=some j->v8.ownBlock≠some j)) (λ_ _ _ kv _=>L.length-(intOf kv).toNat)
 case atStart=>exact⟨0,_,_,_,rfl,rfl,rfl,rfl,by omega,HI.out.2.2.2,HI.out.1,HI.out.2.1,HI.out.2.2.1,Lib.hid (λj h1 h2=>by
  have e1:i.heap.size+1=j:=by simpa [Value.ownBlock] using h1
  have e2:i.heap.size+1+1=j:=by simpa [Value.ownBlock] using h2
  omega)⟩
 case round=>
  clear HI;obtain⟨k,v6,v7,v8,rfl,rfl,rfl,rfl,hk,hg,hF,hZ,hS,hD⟩:=hrel;have q:=G.B3 HL.out.2.1 k hk;have b6:=G.zR ac q;obtain⟨b7,b8⟩:=xM P L k;have y := @rj P L k;have O := @sj P L k;obtain⟨C,I⟩:∃C,C=gH P L k:=⟨_,rfl⟩;rw[<-I] at hF hZ hS q b7 b8 b6 y O;have cM:(fL (C.seen.map (gC P))).length<=20000:=by rw[iE,List.length_map];omega
  have cN:(fL C.sizes).length<=20000:=by rw[iE];omega
  have a1:=Lib.hid (And.intro y (And.intro O I));clear y O I;by_cases p:k<L.length
  ·have cz:(k:Int)<L.length:=by omega
   have ai:=dy F hg;obtain⟨aa,hx1⟩:=HL.out.2.2.2.2.1 wr ai;obtain⟨bm,om,K8,_,_,Q⟩:=Ints.at HL.out.2.2.2.2.2 k (by rw[iE,Z];exact p);subst K8;rw[r7 (by rw[Z];exact p),HL.out.2.2.2.1 k p] at Q;have aj:=(dy ae ai).cell Q (by simp);have a3:=HL.out.2.1 _ (iW p);have R:=hS.ints (by omega);have b9:=R.shape;obtain⟨s8,c8,nZ,_,_⟩:=b9;have E:=EK (C.seen.map (gC P)) (gC P (gt L k)) wr _ _ R (by rw[List.length_map];omega);have ak:=EO G q.sub a3;obtain⟨r,hr⟩:∃r,r=decide (gC P (gt L k)∈C.seen.map (gC P)):=⟨_,rfl⟩;rw[<-hr] at E;have HK:=Lib.hid (And.intro hr (And.intro ak (And.intro a3 q)));clear hr ak a3 q R;subst nZ;obtain⟨m,a5⟩:∃m,m=gC P (gt L k):=⟨_,rfl⟩;rw[<-a5] at aj E;have bC:=Lib.hid a5;clear a5 Q;have HU:=Lib.hid (And.intro hF (And.intro hZ hS));clear hF hZ hS;have a6:=hD;clear hD;go_wp2_with fail
   clear aa hx1;refine Calls.mono E ?_;rintro e7 w7 ⟨cO,rfl,mS,rfl⟩;clear E;have al:=dy hg mS;have aA:=HU.out.1.ext mS;have aB:=HU.out.2.1.gw mS;have aC:=HU.out.2.2.gw mS;have aU:=mS.cell aj (by simp);clear aj;cases r with
   | true=>
    have z:gt L k∈C.seen:=HK.out.2.1.1 (of_decide_eq_true HK.out.1.symm);have l:=a1.out.2.1 z;have HX:=Lib.hid (And.intro l (And.intro aA (And.intro aB aC)));clear z l aA aB aC;go_wp2;clear aU;go_roundw
    case rel=>exact⟨k+1,v6,v7,_,rfl,rfl,rfl,by go_num,by omega,al,by rw[HX.out.1];exact HX.out.2.1,by rw[HX.out.1];exact HX.out.2.2.1,by rw[HX.out.1];exact HX.out.2.2.2,a6⟩
    case measure=>simp[intOf];omega
   | false =>
    have z:¬gt L k∈C.seen:=λh=>by
     have:=HK.out.1;rw[decide_eq_true (HK.out.2.1.2 h)] at this;cases this
    have l:=a1.out.1 z;have HX:=Lib.hid (And.intro l (And.intro aA (And.intro aB aC)));clear z l aA aB aC;clear aU;go_wp2;go_loopw [8,10,11] (λsv zv tv wr=>∃(t:Nat) (S:Value),S=sv/\zv=.int .i64 (((jg P (gt L k) C.seen t).2:Nat):Int)/\tv=.int .i64 t/\t<=N/\Ext i wr/\kK Any i.heap.size wr v6 C.firsts/\Own i.heap.size wr v7 (fL C.sizes)/\Own i.heap.size wr S (fL ((jg P (gt L k) C.seen t).1.map (gC P)))/\Hid (∀j,v7.ownBlock=some j->S.ownBlock≠some j)) (λ_ _ tv _=>N-(intOf tv).toNat)
    case atStart=>exact⟨0,_,rfl,rfl,by go_num,by omega,al,HX.out.2.1,HX.out.2.2.1,HX.out.2.2.2,a6⟩
    case round=>
     clear hg mS al a6;obtain⟨t,S,rfl,rfl,rfl,ht,hg,hF,hZ,hS,hD⟩:=hrel;have ai:=dy F hg;have aV:=dy ah hg;obtain⟨Y,K,M⟩:=HB.out wr aV;have a7:=rX wr _ P Any hP ⟨_,_,_,rfl,fA.ext fP aV⟩;rw[HN.out.1] at a7;go_wp2_with fail
     clear Y K M;refine Calls.mono a7 ?_;rintro e8 w8 ⟨cP,rfl,p5,rfl⟩;clear a7;have A:=dy hg p5;have aD:=hF.ext p5;have aE:=hZ.gw p5;have ao:=hS.gw p5;have bE:=B5 P (gt L k) C.seen t;have aF:=G.zT HK.out.2.2.1 HK.out.2.2.2 t (by rw[HN.out.2];exact ht);have bF:=G.zR ac aF;have y := @zU P (gt L k) C.seen t;have O := @zV P (gt L k) C.seen t;obtain⟨J,T⟩:∃J,J=jg P (gt L k) C.seen t:=⟨_,rfl⟩;rw[<-T] at ao bE aF bF y O;clear hF hZ hS;have HY:=Lib.hid (And.intro y (And.intro O T));clear y O;by_cases bG:t<N
     ·have cB:(t:Int)<N:=by omega
      have aW:=dy F A;obtain⟨aa,hx1⟩:=HL.out.2.2.2.2.1 w8 aW;obtain⟨cQ,Um,K9,_,_,Q⟩:=Ints.at HL.out.2.2.2.2.2 k (by rw[iE,Z];exact p);cases K9
      rw[r7 (by rw[Z];exact p),HL.out.2.2.2.1 k p,<-bC.out] at Q;have bH:=(dy ae aW).cell Q (by simp);have aG:=KX P G ac (gt L k) HK.out.2.2.1 t (by rw[HN.out.2];exact bG) w8 _ _ (dK.ext hT A);rw[<-bC.out] at aG;have a8:=G.zW HK.out.2.2.1 (G.kD (P:=P) (show t<(eW P).toNat by rw[HN.out.2];exact bG));obtain⟨cj,a9⟩:∃cj,cj=jo P (gt L k) (fF P (t:Int)):=⟨_,rfl⟩;rw[<-a9] at aG a8;have ab:=Lib.hid (And.intro a9 (And.intro a8 (And.intro aF bE)));clear a9 a8 aF Q;rw[<-T];clear T;go_wp2_with fail
      clear aa hx1 bH;refine Calls.mono aG ?_;rintro e9 w9 ⟨v9,rfl,n9,rfl⟩;clear aG;have bI:=dy A n9;have bJ:=aD.ext n9;have bK:=aE.gw n9;have a':=ao.gw n9;clear aD aE ao;have cC:(fL (J.1.map (gC P))).length<=20000:=by rw[iE,List.length_map];omega
      have R:=a'.ints (by omega);obtain⟨s9,c9,z6,_,_⟩:=R.shape;have E:=EK (J.1.map (gC P)) (gC P cj) w9 _ _ R (by rw[List.length_map];omega);subst z6;have ak:=EO G ab.out.2.2.1.sub ab.out.2.1;obtain⟨r,hr⟩:∃r,r=decide (gC P cj∈J.1.map (gC P)):=⟨_,rfl⟩;rw[<-hr] at E;have D:=K5 P J.1 cj;obtain⟨mc,ba⟩:∃mc,mc=gC P cj:=⟨_,rfl⟩;rw[<-ba] at E D ⊢;have ap:=Lib.hid (And.intro hr (And.intro ak (And.intro D ba)));clear hr ak D ba R;go_wp2_with fail
      refine Calls.mono E ?_;rintro eA wA ⟨vA,rfl,gK,rfl⟩;clear E;have aq:=dy bI gK;have aH:=bJ.ext gK;have aI:=bK.gw gK;have aJ:=a'.gw gK;clear bJ bK a';cases r with
      | true=>
       have z:cj∈J.1:=ap.out.2.1.1 (of_decide_eq_true ap.out.1.symm);have l:=HY.out.2.1 (by rw[<-ab.out.1];exact z);have a:=Lib.hid (And.intro l (And.intro aH (And.intro aI aJ)));clear z l aH aI aJ;go_wp2;go_roundw
       case rel=>exact⟨t+1,_,rfl,by rw[a.out.1],by go_num,by omega,aq,a.out.2.1,a.out.2.2.1,by rw[a.out.1];exact a.out.2.2.2,hD⟩
       case measure=>simp[intOf];omega
      | false=>
       have z:¬cj∈J.1:=λh=>by
        have:=ap.out.1;rw[decide_eq_true (ap.out.2.1.2 h)] at this;cases this
       have l:=HY.out.1 (by rw[<-ab.out.1];exact z);rw[<-ab.out.1] at l;have bL:J.2<=t:=ab.out.2.2.2;have cb:IntKind.i64.wrap ((J.2:Nat)+1:Int)=((J.2+1:Nat):Int):=by rw[IntWalk.i64_in _ (by omega)];omega
       have ar:(fL (J.1.map (gC P))).length<=1000000:=by omega
       have a:=Lib.hid (And.intro l (And.intro aH (And.intro aI (And.intro aJ ar))));clear z l aH aI aJ ar;go_wp2_with (first|(at_builtin;refine zJ rfl _ _ rfl i.heap.size _ (fL (J.1.map (gC P))) (mc:Int) rfl wA a.out.2.2.2.1 rfl rfl a.out.2.2.2.2 aq.size ?_;intro vB wB aK U cd)|fail)
       have hblk:=λj hj=>(a.out.2.2.2.1.lt j hj).1;have X:Ext i wB:=fu aq U (λb hb p=>by have:=hblk b hb;omega);have aZ:=zM a.out.2.1 a.out.2.2.2.1;have ce:=a.out.2.1.kept U aZ.1 (λb hb=>hblk b hb)
       have aM:=a.out.2.2.1.ext U (by
        rcases hz:v7.ownBlock with _|b
        ·exact .inl rfl
        ·exact .inr (λe=>hD.out b hz e.symm))
       have bN:∀j,v7.ownBlock=some j->vB.ownBlock≠some j:=λj h1 h2=>by
        rcases cd j h2 with h|h
        ·exact hD.out j h1 h
        ·have:=(a.out.2.2.1.lt j h1).2
         omega
       have cg:=Lib.hid bN;clear bN aZ hblk;go_wp2;go_roundw
       case rel=>exact⟨t+1,vB,rfl,by rw[a.out.1];first|rfl|(simp only[cb]),by go_num,by omega,X,ce,aM,by rw[a.out.1,ap.out.2.2.1];exact aK,cg⟩
       case measure=>simp[intOf];omega
     ·have bb:t=N:=by omega
      have l:=HX.out.1;rw[<-HN.out.2] at bb;rw[<-bb,<-T] at l;rw[<-T];have ch:¬(t:Int)<N:=by omega
      have bL:J.2<=32:=by omega
      obtain⟨bl,ol,a2,bO,hal,_,hbl,ER,ES⟩:=fU.at HR.out k p;subst hal;have au:=dy ae (dy F A);have bP:=au.cell ER (by simp);obtain⟨aa,hx1⟩:=HL.out.2.2.2.2.1 w8 (dy F A);have bQ:dK (λj=>Any j/\j<i.heap.size) w8 (.slice a2 (gt L k).length bO) (gt L k):=dK.mono ES (λj _ p=>⟨⟨trivial,Nat.lt_of_lt_of_le p bu⟩,Nat.lt_of_lt_of_le p au.size,au.block j p (by simp)⟩);have ar:C.firsts.length<=1000000:=by omega
      have aX:(fL C.sizes).length<=1000000:=by omega
      have D:=tu C.sizes J.2;have a:=Lib.hid (And.intro l (And.intro aD (And.intro aE (And.intro ao (And.intro bQ (And.intro ar (And.intro aX D)))))));clear l aD aE ao bQ ar aX D T bb ER ES
      go_wp2_with (first
       | (at_builtin;refine uM rfl _ _ rfl Any i.heap.size _ _ C.firsts (gt L k) rfl w8 a.out.2.1 a.out.2.2.2.2.1 rfl rfl a.out.2.2.2.2.2.1 A.size ?_;intro vB wB aK U;have av:=λj hj=>(a.out.2.1.lt j hj).1;have X:Ext i wB:=fu A U (λb hb p=>by have:=av b hb;omega);have aM:=a.out.2.2.1.ext U (zM a.out.2.1 a.out.2.2.1).2;have bR:=a.out.2.2.2.1.ext U (zM a.out.2.1 a.out.2.2.2.1).2;have V:=Lib.hid (And.intro aK (And.intro aM bR));clear aK aM bR av)
       | (at_builtin;refine zJ rfl _ _ rfl i.heap.size _ (fL C.sizes) ((J.2:Nat):Int) rfl wB V.out.2.1 rfl rfl a.out.2.2.2.2.2.2.1 X.size ?_;intro vC wC ci bc ck)
       | fail)
      clear aa hx1 bP;have hblk:=λj hj=>(V.out.2.1.lt j hj).1;have bS:Ext i wC:=fu X bc (λb hb p=>by have:=hblk b hb;omega);have cp:=V.out.1.kept bc (zM V.out.1 V.out.2.1).1 (λb hb=>hblk b hb)
      have cq:=V.out.2.2.ext bc (by
       rcases hz:S.ownBlock with _|b
       ·exact .inl rfl
       ·exact .inr (λe=>hD.out b e.symm hz))
      have bT:∀j,vC.ownBlock=some j->S.ownBlock≠some j:=λj h1 h2=>by
       rcases ck j h1 with h|h
       ·exact hD.out j h h2
       ·have:=(V.out.2.2.lt j h2).2
        omega
      have cr:=Lib.hid bT;clear bT hblk;go_wp2;go_roundw
      case rel=>exact⟨k+1,_,vC,S,rfl,rfl,rfl,by go_num,by omega,bS,by rw[a.out.1];exact cp,by rw[a.out.1,a.out.2.2.2.2.2.2.2];exact ci,by rw[a.out.1];exact cq,cr⟩
      case measure=>simp[intOf];omega
  ·have bd:k=L.length:=by omega
   have ch:¬(k:Int)<L.length:=by omega
   have I:=a1.out.2.2;rw[bd] at I;obtain⟨aa,hx1⟩:=HL.out.2.2.2.2.1 wr (dy F hg);have W:=hF.rows (by omega);rw[I] at W hZ;obtain⟨fa,fc,xO⟩:=hF.shape;subst xO;obtain⟨za,zc,B6,_,_⟩:=(hZ.ints (by rw[<-I];omega)).shape;subst B6;have HE:=Lib.hid (And.intro W (And.intro hZ bd));clear W hZ bd I hF hS;obtain⟨nf,be⟩:∃nf,nf=C.firsts.length:=⟨_,rfl⟩;obtain⟨nz,hnz⟩:∃nz,nz=(fL (gH P L L.length).sizes).length:=⟨_,rfl⟩;have bU:Hid (fU (λk=>Any k\/i.heap.size<=k) wr (.slice fa nf fc) (gH P L L.length).firsts/\Own i.heap.size wr (.slice za nz zc) (fL (gH P L L.length).sizes)):=Lib.hid (by rw[be,hnz];exact⟨HE.out.1,HE.out.2.1⟩);rw[<-be,<-hnz];clear be hnz HE;go_wp2;refine bodyPost_ret (v := .tuple #[.slice fa nf fc,.slice za nz zc]) (by simp[results,Tryz.results75,go_sem]) rfl ?_;exact⟨_,rfl,dy bj (dy ah hg),_,_,rfl,L,HL.out.1,fU.sub bU.out.1 (λ_ _ _=>trivial),bU.out.2.weak (by have:=(dy bj ah).size;omega)⟩
end Go.Proofs.YtoakmefajbbggaaGreat
