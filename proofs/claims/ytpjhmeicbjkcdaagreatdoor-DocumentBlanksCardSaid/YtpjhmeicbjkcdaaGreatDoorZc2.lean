/- Parts of one proof, joined. No condition of its own. -/
import Derived.Test.YtpjhmeicbjkcdaaGreatDoorZc1
import Derived.Test.YtpjhmeicbjkcdaaGreatDoorTie
import Derived.Test.YtpjhmeicbjkcdaaGreatDoorCards
import Derived.Test.YtpjhmeicbjkcdaaGreatDoorVf
open Classical renaming not_not->B9
open List renaming getD_eq_getElem?_getD->e8,getElem?_eq_getElem->i7,getElem_mem->j5,length_map->j6,length_pos_iff->D1,length_range->K7,length_take->j1,range->x8,take_zero->Q0,getElem_of_mem->sN,mem_append->y8,mem_of_getElem?->eE,mem_of_mem_drop->A8,mem_singleton->v6,length_append->d6,length_cons->d7,length_nil->i6,append_nil->k8,drop_eq_nil_of_le->J2,length_singleton->p7,nil_append->I4,take_length->q8,take_succ_eq_append_getElem->Y6,all_eq_true->s7
open Nat renaming div_le_self->D0,lt_of_le_of_lt->p8,mod_lt->A6,zero_le->j0,min_eq_left->T6,zero_add->w7
open Option.some renaming inj->M0
namespace Go.Proofs.YtpjhmeicbjkcdaaGreatDoor
open Go Go.RowKit Go.Dw
theorem YH {a b c:Hp} (h1:a.dj b) (h2:a.dj c):a.dj (b.join c):=λx=>by
 rcases h1 x with h | h
 ·exact .inl h
 ·rcases h2 x with h' | h'
  ·exact .inl h'
  ·right;unfold Hp.join;rw[h,h']
structure Wr (C:Prop):Prop where
 h:C
theorem FJ {C M:Prop} (h:Wr C->M) (c:C):M:=h ⟨c⟩
theorem SW {how:Nat} {P:List V9} {l:List Q6} {i:Nat} (hP:0 < P.length) (h3:i < 3) (hi:i < l.length):(U0 how P l).take (i+1)=(U0 how P l).take i++[bG how P i l[i]]:=by
 have e:U0 how P l=LU (bG how P) 3 l:=by unfold U0 LU;rw[if_neg (λc=>by rw[c] at hP;cases hP)]
 rw[e];exact mV _ h3 hi
theorem KA {how:Nat} {P:List V9} {l:List Q6} {i:Nat} (h : ¬ (i < l.length/\i < 3/\0 < P.length)):(U0 how P l).take i=U0 how P l:=by
 by_cases hP:P = []
 ·have e:U0 how P l = []:=by unfold U0;rw[if_pos hP]
  rw[e,List.take_nil]
 ·have e:U0 how P l=LU (bG how P) 3 l:=by unfold U0 LU;rw[if_neg hP]
  rw[e];exact iF _ (λc=>h ⟨c.1,c.2,D1.2 hP⟩)
def Kj (lab pn:d8) (t:List Int) (f:List d8):List Value:=[sv lab,sv pn,iQ (t.getD 0 0),iQ (t.getD 1 0),iQ (t.getD 2 0),iQ (t.getD 3 0),sv (f.getD 0 []),sv (f.getD 1 []),sv (f.getD 2 [])]
set_option maxHeartbeats 4000000 in
set_option maxRecDepth 10000 in
theorem HJ {k:UI} (g:HF k) {cs:List Value} (w:World) (hS:OG (Hp.whole w) k cs) (hP:dY (Hp.whole w)) :
  j2 Tryz.prog 21 #[.agg cs.toArray] w (fQ w λv cs'=>∃H xs,cs' = [.hp H]/\v=.agg xs.toArray/\xs.length=6/\vX 4 H (D4 k) xs):=by
 obtain⟨a1,n1,c1,a2,n2,c2,a3,n3,c3,a4,n4,c4,a5,n5,c5,rfl,h1,h2,h3,h4,h5⟩:=hS.ex;have l1:=h1.len;have l2:=h2.len;have l3:=h3.len;have l4:=h4.len;have l5:=h5.len;have hnm:=g.n;refine enterZ (cx 317) [.agg #[.int .u8 k.nm,.slice a1 n1 c1,.slice a2 n2 c2,.slice a3 n3 c3,.slice a4 n4 c4,.slice a5 n5 c5]] [.cell 2 30] Tryz.func21 ?_;intro b1 b2;refine m9 (λ_ kz=>kz _ _ ?_);refine nQ [.hp (Hp.whole w),.box b1 [.int .u8 k.nm,.slice a1 n1 c1,.slice a2 n2 c2,.slice a3 n3 c3,.slice a4 n4 c4,.slice a5 n5 c5] 61,.box b2 [zs,zl,zl,zl,zl,zl] 30] λq' hq'=>?_;refine nwo ?_;apply hq';refine m9 λq' hq'=>?_;refine gF k.nm 5 (k.nm % 5) rfl rfl dc rfl ?_;refine k7 _ (λw' hm=>P1 112 (k.nm % 5) k.nm om hnm w') ?_;intro b4;obtain⟨nm,hnm2⟩ :∃x,x=gP 112 (k.nm % 5) k.nm:=⟨_,rfl⟩
 rw[<-hnm2];apply hq';refine m9 (λ_ kz=>kz _ _ ?_);obtain⟨P,hPd⟩ :∃P,P=LU (dF k.nm) 3 k.parts:=⟨_,rfl⟩
 have hPl:P.length<=3:=by rw[hPd,kU];omega
 obtain⟨I,hId⟩ :∃I,I=U0 k.nm P k.insts:=⟨_,rfl⟩
 obtain⟨D,hDd⟩ :∃D,D=LU (eM k.nm) 4 k.dims:=⟨_,rfl⟩
 obtain⟨C,hCd⟩ :∃C,C=LU (lZ k.nm D.length) 2 k.cons:=⟨_,rfl⟩
 obtain⟨R,hRd⟩ :∃R,R=LU (gC k.nm D.length) 2 k.gaps:=⟨_,rfl⟩
 have hDl:D.length<=4:=by rw[hDd,kU];omega
 have hCl:C.length<=2:=by rw[hCd,kU];omega
 have hRl:R.length<=2:=by rw[hRd,kU];omega
 have hIl:I.length<=3:=by
  rw[hId];unfold U0;split
  ·exact j0 _
  ·have:=kU (bG k.nm P) 3 k.insts;unfold LU at this;omega
 apply FJ;intro hC1;refine z6.mkS (Nat×Hp×Dw.Os) (λg=>[(1,.bx 1 0),(2,.bx 2 0),(3,.v (iQ k.nm)),(4,.bx 3 0),(5,.v (iQ g.1))]) (λg=>[.hp (Hp.whole w),.box b1 [.int .u8 k.nm,.slice a1 n1 c1,.slice a2 n2 c2,.slice a3 n3 c3,.slice a4 n4 c4,.slice a5 n5 c5] 61,.box b2 [zs,zl,zl,zl,zl,zl] 30,.box b4 [sv nm,g.2.2.v,zl,zl,zl,zl] 30,.hp g.2.1,.hp g.2.2.h]) (λg=>g.1<=3/\aR cN 83 3 g.2.1 g.2.2 (P.take g.1)) (λg=>3 - g.1) (0,Hp.emp,Dw.Os.nil) ⟨j0 _,by rw[Q0];exact aR.nil⟩ (y6.mk (λ_ _ h=>h.emp.emp) rfl rfl) ?_;rintro⟨i,HP,oP⟩ ⟨hi,hGP⟩ hsat;dsimp only at hi hGP ⊢;refine m9 λq' hq'=>?_;refine d9 (λt1=>?_) λt1=>?_
 ·apply hq';refine K9 (by rfl) (λt2=>?_) λt2=>?_
  ·have t2:=of_decide_eq_true t2;have hil:i < k.parts.length:=om
   obtain⟨x,hx⟩ :∃x,x=k.parts[i]'hil:=⟨_,rfl⟩
   have gx:=g.p x (by rw[hx];exact j5 hil);have eStep:P.take (i+1)=P.take i++[dF k.nm i x]:=by rw[hPd,hx];exact mV _ om hil
   obtain⟨x1,x2,x3,x4,x5⟩:=x;obtain⟨gx1,gx2,gx3,gx4,gx5⟩:=gx;dsimp only[i8] at gx1 gx2 gx3 gx4 gx5;refine nQ [.hp (Hp.whole w),.box b1 [.int .u8 k.nm,.slice a1 n1 c1,.slice a2 n2 c2,.slice a3 n3 c3,.slice a4 n4 c4,.slice a5 n5 c5] 61,.box b2 [zs,zl,zl,zl,zl,zl] 30,.box b4 [sv nm,oP.v,zl,zl,zl,zl] 30,.hp HP,.hp oP.h] λq' hq'=>?_;refine R2 cQ (e:=134) rfl h1 i rfl hil λb9 o9 cs hcs hR hcell=>?_;rw[<-hx] at hR;subst hR;refine nX cQ (i:=0) rfl hcell rfl ?_;intro b6;apply hq';clear hcell;obtain⟨lab,hlab⟩ :∃y,y=gP 113 i (k.nm / 2):=⟨_,rfl⟩
   refine u6.cut Nat (λg=>[(1,.bx 1 0),(2,.bx 2 0),(3,.v (iQ k.nm)),(4,.bx 3 0),(5,.v (iQ i)),(6,.bx 6 0),(7,.bx 7 0)]) (λg=>[.hp (Hp.whole w),.box b1 [.int .u8 k.nm,.slice a1 n1 c1,.slice a2 n2 c2,.slice a3 n3 c3,.slice a4 n4 c4,.slice a5 n5 c5] 61,.box b2 [zs,zl,zl,zl,zl,zl] 30,.box b4 [sv nm,oP.v,zl,zl,zl,zl] 30,.hp HP,.hp oP.h,.box b6 [.int .i8 x1,.int .i8 x2,.int .i8 x3,.int .i8 x4,.int .i8 x5] 134,.box g [sv lab,iQ (1+((u8 x1:Nat):Int)),zl] 83]) (λ_=>True) (u6.by_order cQ (.take 0 <| .take 1 <| .take 2 <| .take 4 <| .take 5 <| .take 6 <| .take 7 <| .take 8 <| .two 3 (.take 9 <| .run 10 <| .run 11 <| .done) 10 (.run 3 <| .take 9 <| .run 11 <| .done)) kr ?_) ?_
   ·refine DN k.nm 1 rfl dc ?_;refine gJ (EZ x1) ?_;have hu:=OU x1;(iterate 2 refine nwo ?_);constructor
    focus
     refine k7 _ (λw' hm=>P1 113 i (k.nm / 2 ^ 1) om (p8 (D0 _ _) hnm) w') ?_;rw[show k.nm / 2 ^ 1=k.nm / 2 from rfl,<-hlab];refine⟨sK,?_⟩;intro b7
    rotate_left
    focus
     intro b7;refine⟨sK,?_⟩;refine k7 _ (λw' hm=>P1 113 i (k.nm / 2 ^ 1) om (p8 (D0 _ _) hnm) w') ?_;rw[show k.nm / 2 ^ 1=k.nm / 2 from rfl,<-hlab]
    all_goals
     first
     | exact⟨b7,trivial,y6.mk (λ_ _ h=>h) rfl rfl⟩
     | exact⟨sK,b7,trivial,y6.mk (λ_ _ h=>h) rfl rfl⟩
     | exact⟨sK,sK,b7,trivial,y6.mk (λ_ _ h=>h) rfl rfl⟩
   rintro b7 _ _;dsimp only;refine m9 (λ_ kz=>kz _ _ ?_);have hcx:u8 x2 % 3 < 3:=A6 _ dc;have hvx:u8 x3 % 4 < 4:=A6 _ dc;refine z6.mkS (Nat×Hp×Dw.Os) (λg=>[(1,.bx 1 0),(2,.bx 2 0),(3,.v (iQ k.nm)),(4,.bx 3 0),(5,.v (iQ i)),(6,.bx 6 0),(7,.bx 7 0),(8,.v (iQ g.1))]) (λg=>[.hp (Hp.whole w),.box b1 [.int .u8 k.nm,.slice a1 n1 c1,.slice a2 n2 c2,.slice a3 n3 c3,.slice a4 n4 c4,.slice a5 n5 c5] 61,.box b2 [zs,zl,zl,zl,zl,zl] 30,.box b4 [sv nm,oP.v,zl,zl,zl,zl] 30,.hp HP,.hp oP.h,.box b6 [.int .i8 x1,.int .i8 x2,.int .i8 x3,.int .i8 x4,.int .i8 x5] 134,.box b7 [sv lab,iQ (1+((u8 x1:Nat):Int)),g.2.2.v] 83,.hp g.2.1,.hp g.2.2.h]) (λg=>g.1<=u8 x2 % 3/\aR GW 86 1 g.2.1 g.2.2 ((x8 g.1).map (dV (x1,x2,x3,x4,x5)))) (λg=>3 - g.1) (0,Hp.emp,Dw.Os.nil) ⟨j0 _,aR.nil⟩ (y6.mk (λ_ _ h=>h.emp.emp) rfl rfl) ?_;rintro⟨c,HC,oC⟩ ⟨hc,hGC⟩ hsat2;dsimp only at hc hGC ⊢;refine m9 λq' hq'=>?_;refine gJ (EZ x2) ?_;refine gF (u8 x2) 3 (u8 x2 % 3) rfl rfl dc rfl ?_;refine nwo ?_;apply hq';refine K9 (by rfl) (λt3=>?_) λt3=>?_
   ·have t3:=of_decide_eq_true t3;refine m9 λq' hq'=>?_;intro b9;apply hq';refine m9 (λ_ kz=>kz _ _ ?_);refine z6.mkS (Nat×Dw.Os) (λg=>[(1,.bx 1 0),(2,.bx 2 0),(3,.v (iQ k.nm)),(4,.bx 3 0),(5,.v (iQ i)),(6,.bx 6 0),(7,.bx 7 0),(8,.v (iQ c)),(9,.bx 10 0),(10,.v (iQ g.1))]) (λg=>[.hp (Hp.whole w),.box b1 [.int .u8 k.nm,.slice a1 n1 c1,.slice a2 n2 c2,.slice a3 n3 c3,.slice a4 n4 c4,.slice a5 n5 c5] 61,.box b2 [zs,zl,zl,zl,zl,zl] 30,.box b4 [sv nm,oP.v,zl,zl,zl,zl] 30,.hp HP,.hp oP.h,.box b6 [.int .i8 x1,.int .i8 x2,.int .i8 x3,.int .i8 x4,.int .i8 x5] 134,.box b7 [sv lab,iQ (1+((u8 x1:Nat):Int)),oC.v] 83,.hp HC,.hp oC.h,.box b9 [g.2.v] 86,.hp g.2.h]) (λg=>g.1<=u8 x3 % 4/\w5 ZK 122 3 g.2 ((x8 g.1).map (xH (x1,x2,x3,x4,x5) c))) (λg=>4 - g.1) (0,Dw.Os.nil) ⟨j0 _,w5.nil _ _ _⟩ (y6.mk (λ_ _ h=>h.emp) rfl rfl) ?_;rintro⟨v,oV⟩ ⟨hv,hOV⟩ hsat3;dsimp only at hv hOV ⊢;refine m9 λq' hq'=>?_;refine gJ (EZ x3) ?_;refine gF (u8 x3) 4 (u8 x3 % 4) rfl rfl dc rfl ?_;refine nwo ?_;apply hq';refine K9 (by rfl) (λt4=>?_) λt4=>?_
    ·have t4:=of_decide_eq_true t4;refine nQ [.hp (Hp.whole w),.box b1 [.int .u8 k.nm,.slice a1 n1 c1,.slice a2 n2 c2,.slice a3 n3 c3,.slice a4 n4 c4,.slice a5 n5 c5] 61,.box b2 [zs,zl,zl,zl,zl,zl] 30,.box b4 [sv nm,oP.v,zl,zl,zl,zl] 30,.hp HP,.hp oP.h,.box b6 [.int .i8 x1,.int .i8 x2,.int .i8 x3,.int .i8 x4,.int .i8 x5] 134,.box b7 [sv lab,iQ (1+((u8 x1:Nat):Int)),oC.v] 83,.hp HC,.hp oC.h,.box b9 [oV.v] 86,.hp oV.h] λq' hq'=>?_;(iterate 5 refine nwo ?_);intro b11;refine gZ (f:=ZK) cQ (e:=122) rfl (i:=11) rfl hOV (xH (x1,x2,x3,x4,x5) c v) (j:=12) rfl rfl rfl rfl (by rw[j6,K7];omega) λo2 hO2=>?_;apply hq';refine m9 λq' hq'=>?_;refine nwo ?_;apply hq';exact⟨(v+1,o2),⟨by dsimp only;omega,by dsimp only;rw[AD];exact hO2⟩,by dsimp only;omega,y6.mk (pj [0,1,2,3,4,5,6,7,8,9,10,11]) rfl rfl⟩
    ·have t4:=of_decide_eq_false t4;have hve:v=u8 x3 % 4:=om
     have eC:dV (x1,x2,x3,x4,x5) c=(x8 v).map (xH (x1,x2,x3,x4,x5) c):=by rw[hve];rfl
     refine nQ [.hp (Hp.whole w),.box b1 [.int .u8 k.nm,.slice a1 n1 c1,.slice a2 n2 c2,.slice a3 n3 c3,.slice a4 n4 c4,.slice a5 n5 c5] 61,.box b2 [zs,zl,zl,zl,zl,zl] 30,.box b4 [sv nm,oP.v,zl,zl,zl,zl] 30,.hp HP,.hp oP.h,.box b6 [.int .i8 x1,.int .i8 x2,.int .i8 x3,.int .i8 x4,.int .i8 x5] 134,.box b7 [sv lab,iQ (1+((u8 x1:Nat):Int)),oC.v] 83,.hp HC,.hp oC.h,.box b9 [oV.v] 86,.hp oV.h] λq' hq'=>?_;intro b11;refine qM (R:=GW) (o:=oC) (L:=(x8 c).map (dV (x1,x2,x3,x4,x5))) (H:=HC.join oV.h) cQ (e:=86) rfl (i:=9) rfl (λ_=>hGC.mono fN (Hp.le_join_l _ _)) (dV (x1,x2,x3,x4,x5) c) [oV.v] (j:=12) rfl rfl rfl rfl (by rw[j6,K7];omega) (λhs=>?_) λo2 _ hG2=>?_
     ·obtain⟨w0,w',hok⟩:=hs;exact⟨oV.a,oV.n,oV.c,rfl,by rw[eC];exact (w5.sl (f:=ZK) (sz:=3) (λ_=>rfl) dc hOV).mono (j7 _) (Hp.le_join_r (hok.disj 8 11 _ _ dc rfl rfl))⟩
     apply hq';refine m9 λq' hq'=>?_;refine nwo ?_;apply hq';exact⟨(c+1,HC.join oV.h,o2),⟨by dsimp only;omega,by dsimp only;rw[AD];exact hG2⟩,by dsimp only;omega,y6.mk (λ_ _ h=>(Ok.join (h.pick [0,8,11,1,2,3,4,5,6,7,9] rfl rfl)).pick [0,2,3,4,5,6,7,8,1,9] rfl rfl) rfl rfl⟩
   ·have t3:=of_decide_eq_false t3;have hce:c=u8 x2 % 3:=om
    have eX:dF k.nm i (x1,x2,x3,x4,x5)=(lab,1+((u8 x1:Nat):Int),(x8 c).map (dV (x1,x2,x3,x4,x5))):=by rw[hlab,hce];rfl
    refine nQ [.hp (Hp.whole w),.box b1 [.int .u8 k.nm,.slice a1 n1 c1,.slice a2 n2 c2,.slice a3 n3 c3,.slice a4 n4 c4,.slice a5 n5 c5] 61,.box b2 [zs,zl,zl,zl,zl,zl] 30,.box b4 [sv nm,oP.v,zl,zl,zl,zl] 30,.hp HP,.hp oP.h,.box b6 [.int .i8 x1,.int .i8 x2,.int .i8 x3,.int .i8 x4,.int .i8 x5] 134,.box b7 [sv lab,iQ (1+((u8 x1:Nat):Int)),oC.v] 83,.hp HC,.hp oC.h] λq' hq'=>?_;intro b11;refine qM (R:=cN) (o:=oP) (L:=P.take i) (H:=HP.join (HC.join oC.h)) cQ (e:=83) rfl (i:=5) rfl (λ_=>hGP.mono J0 (Hp.le_join_l _ _)) (dF k.nm i (x1,x2,x3,x4,x5)) [sv lab,iQ (1+((u8 x1:Nat):Int)),oC.v] (j:=10) rfl rfl rfl rfl (by rw[j1];omega) (λhs=>?_) λo2 _ hG2=>?_
    ·obtain⟨w0,w',hok⟩:=hs;have d1:HP.dj (HC.join oC.h):=YH (hok.disj 4 8 _ _ dc rfl rfl) (hok.disj 4 9 _ _ dc rfl rfl);have d2:HC.dj oC.h:=hok.disj 8 9 _ _ dc rfl rfl;rw[eX];exact⟨oC.a,oC.n,oC.c,rfl,hGC.sl fN dc ((Hp.le_join_l _ _).trans (Hp.le_join_r d1)) ((Hp.le_join_r d2).trans (Hp.le_join_r d1))⟩
    apply hq';refine m9 λq' hq'=>?_;refine nwo ?_;apply hq';exact⟨(i+1,HP.join (HC.join oC.h),o2),⟨by dsimp only;omega,by dsimp only;rw[eStep];exact hG2⟩,by dsimp only;omega,y6.mk (λ_ _ h=>(Ok.join (c:=.hp (Hp.whole w)) (d:=.hp HP) (e:=.hp (HC.join oC.h)) ((Ok.join (h.pick [0,8,9,4,1,2,3,5] rfl rfl)).pick [0,2,1,3,4,5,6] rfl rfl)).pick [0,2,3,4,1,5] rfl rfl) rfl rfl⟩
  ·have t2:=of_decide_eq_false t2;have eP:P.take i=P:=by rw[hPd];exact iF _ om
   rw[eP] at hGP;refine m9 (λ_ kz=>kz _ _ ?_);exact z6.mkS (Hp×Dw.Os×Nat×Dw.Os) (λg=>[(1,.bx 1 0),(2,.bx 2 0),(3,.v (iQ k.nm)),(4,.bx 3 0),(11,.v (iQ g.2.2.1))]) (λg=>[.hp (Hp.whole w),.box b1 [.int .u8 k.nm,.slice a1 n1 c1,.slice a2 n2 c2,.slice a3 n3 c3,.slice a4 n4 c4,.slice a5 n5 c5] 61,.box b2 [zs,zl,zl,zl,zl,zl] 30,.box b4 [sv nm,g.2.1.v,g.2.2.2.v,zl,zl,zl] 30,.hp g.1,.hp g.2.1.h,.hp g.2.2.2.h]) (λg=>g.2.2.1<=3/\aR cN 83 3 g.1 g.2.1 P/\w5 fF 93 9 g.2.2.2 (I.take g.2.2.1)) (λg=>3 - g.2.2.1) (HP,oP,0,Dw.Os.nil) ⟨j0 _,hGP,by rw[Q0];exact w5.nil _ _ _⟩ (y6.mk (λ_ _ h=>h.emp) rfl rfl) hC1.h
 ·apply hq';refine dU rfl ?_;have eP:P.take i=P:=by rw[hPd];exact iF _ om
  rw[eP] at hGP;refine m9 (λ_ kz=>kz _ _ ?_);exact z6.mkS (Hp×Dw.Os×Nat×Dw.Os) (λg=>[(1,.bx 1 0),(2,.bx 2 0),(3,.v (iQ k.nm)),(4,.bx 3 0),(11,.v (iQ g.2.2.1))]) (λg=>[.hp (Hp.whole w),.box b1 [.int .u8 k.nm,.slice a1 n1 c1,.slice a2 n2 c2,.slice a3 n3 c3,.slice a4 n4 c4,.slice a5 n5 c5] 61,.box b2 [zs,zl,zl,zl,zl,zl] 30,.box b4 [sv nm,g.2.1.v,g.2.2.2.v,zl,zl,zl] 30,.hp g.1,.hp g.2.1.h,.hp g.2.2.2.h]) (λg=>g.2.2.1<=3/\aR cN 83 3 g.1 g.2.1 P/\w5 fF 93 9 g.2.2.2 (I.take g.2.2.1)) (λg=>3 - g.2.2.1) (HP,oP,0,Dw.Os.nil) ⟨j0 _,hGP,by rw[Q0];exact w5.nil _ _ _⟩ (y6.mk (λ_ _ h=>h.emp) rfl rfl) hC1.h
 apply FJ;intro hC2;rintro⟨HP,oP,i,oI⟩ ⟨hi,hGP,hOI⟩ hsat;dsimp only at hi hGP hOI ⊢;have hPn:=hGP.len;refine m9 λq' hq'=>?_;refine d9 (λt1=>?_) λt1=>?_
 ·refine d9 (λt2=>?_) λt2=>?_;focus
   apply hq';refine K9 (by rfl) (λt3=>?_) λt3=>?_
   ·have t3:=of_decide_eq_true t3;have hil:i < k.insts.length:=om
    have hPp:0 < P.length:=om
    obtain⟨x,hx⟩ :∃x,x=k.insts[i]'hil:=⟨_,rfl⟩
    have gx:=g.i x (by rw[hx];exact j5 hil);have eStep:I.take (i+1)=I.take i++[bG k.nm P i x]:=by rw[hId,hx];exact SW hPp om hil
    obtain⟨x1,x2,x3,x4,x5,x6⟩:=x;obtain⟨gx1,gx2,gx3,gx4,gx5,gx6⟩:=gx;dsimp only[i8] at gx1 gx2 gx3 gx4 gx5 gx6;refine nQ [.hp (Hp.whole w),.box b1 [.int .u8 k.nm,.slice a1 n1 c1,.slice a2 n2 c2,.slice a3 n3 c3,.slice a4 n4 c4,.slice a5 n5 c5] 61,.box b2 [zs,zl,zl,zl,zl,zl] 30,.box b4 [sv nm,oP.v,oI.v,zl,zl,zl] 30,.hp HP,.hp oP.h,.hp oI.h] λq' hq'=>?_;refine R2 cQ (e:=136) rfl h2 i rfl hil λb9 o9 cs hcs hR hcell=>?_;rw[<-hx] at hR;subst hR;refine nX cQ (i:=0) rfl hcell rfl ?_;intro b12;apply hq';clear hcell;obtain⟨lab,hlab⟩ :∃y,y=gP 105 i (k.nm / 4):=⟨_,rfl⟩
    have hu:=OU x1;have hjl:u8 x1 % P.length < P.length:=A6 _ hPp;obtain⟨pn,hpn⟩ :∃y,y=(P[u8 x1 % P.length]'hjl).1:=⟨_,rfl⟩
    obtain⟨C0,hC0,hC0l,hC0R⟩:=aR.name dc hGP;have hR0:=hC0R (u8 x1 % P.length) hjl om;refine u6.cut Nat (λg=>[(1,.bx 1 0),(2,.bx 2 0),(3,.v (iQ k.nm)),(4,.bx 3 0),(11,.v (iQ i)),(12,.bx 7 0),(13,.bx 8 0)]) (λg=>[.hp (Hp.whole w),.box b1 [.int .u8 k.nm,.slice a1 n1 c1,.slice a2 n2 c2,.slice a3 n3 c3,.slice a4 n4 c4,.slice a5 n5 c5] 61,.box b2 [zs,zl,zl,zl,zl,zl] 30,.box b4 [sv nm,oP.v,oI.v,zl,zl,zl] 30,.hp HP,.hp oP.h,.hp oI.h,.box b12 [.int .i8 x1,.int .i8 x2,.int .i8 x3,.int .i8 x4,.int .i8 x5,.int .i8 x6] 136,.box g [sv lab,sv pn,iQ (0),iQ (0),iQ (0),iQ (0),sv ([]),sv ([]),sv ([])] 93]) (λ_=>True) (u6.by_order cQ (.take 0 <| .take 1 <| .take 2 <| .take 4 <| .take 5 <| .take 6 <| .take 7 <| .take 8 <| .take 9 <| .take 10 <| .take 11 <| .take 12 <| .take 13 <| .take 14 <| .take 15 <| .take 16 <| .take 17 <| .take 18 <| .two 3 (.take 19 <| .run 20 <| .run 21 <| .done) 20 (.run 3 <| .take 19 <| .run 21 <| .done)) kr ?_) ?_
    ·refine DN k.nm 2 rfl dc ?_;refine gJ (EZ x1) ?_;refine nwo ?_;refine gF (u8 x1) P.length (u8 x1 % P.length) rfl om hPp rfl ?_;refine R2 cQ (e:=83) rfl hC0 (u8 x1 % P.length) rfl om λb8 o8 cs hcs hR hcell=>?_;have hR:cs=(C0[u8 x1 % P.length]'om).1:=hR;obtain⟨a9,n9,c9,e9,_⟩:=hR0;rw[e9] at hR;subst hR;refine lQ 5 (hcell 0 _ rfl) ?_;rw[<-hpn];constructor
     focus
      refine k7 _ (λw' hm=>P1 105 i (k.nm / 2 ^ 2) om (p8 (D0 _ _) hnm) w') ?_;rw[show k.nm / 2 ^ 2=k.nm / 4 from rfl,<-hlab];refine⟨sK,?_⟩;intro b13
     rotate_left
     focus
      intro b13;refine⟨sK,?_⟩;refine k7 _ (λw' hm=>P1 105 i (k.nm / 2 ^ 2) om (p8 (D0 _ _) hnm) w') ?_;rw[show k.nm / 2 ^ 2=k.nm / 4 from rfl,<-hlab]
     all_goals
      first
      | exact⟨b13,trivial,y6.mk (λ_ _ h=>h) rfl rfl⟩
      | exact⟨sK,b13,trivial,y6.mk (λ_ _ h=>h) rfl rfl⟩
    rintro b13 _ _;dsimp only;refine m9 (λ_ kz=>kz _ _ ?_);obtain⟨tq,htq⟩ :∃tq:List Int,tq = [x2.tmod 13,x3.tmod 13,x4.tmod 13,x5.tmod 13]:=⟨_,rfl⟩
    refine z6.mkS Nat (λg=>[(1,.bx 1 0),(2,.bx 2 0),(3,.v (iQ k.nm)),(4,.bx 3 0),(11,.v (iQ i)),(12,.bx 7 0),(13,.bx 8 0),(14,.v (iQ g))]) (λg=>[.hp (Hp.whole w),.box b1 [.int .u8 k.nm,.slice a1 n1 c1,.slice a2 n2 c2,.slice a3 n3 c3,.slice a4 n4 c4,.slice a5 n5 c5] 61,.box b2 [zs,zl,zl,zl,zl,zl] 30,.box b4 [sv nm,oP.v,oI.v,zl,zl,zl] 30,.hp HP,.hp oP.h,.hp oI.h,.box b12 [.int .i8 x1,.int .i8 x2,.int .i8 x3,.int .i8 x4,.int .i8 x5,.int .i8 x6] 136,.box b13 (Kj lab pn (tq.take g) []) 93]) (λg=>g<=4) (λg=>4 - g) 0 (j0 _) (y6.mk (λ_ _ h=>h) rfl rfl) ?_;rintro j hj _;match j,hj with
    | 0,_=>
     refine m9 λq' hq'=>?_;apply hq';refine K9 (by rfl) (λ_=>?_) (λh=>absurd h dc);refine cD [.hp (Hp.whole w),.box b1 [.int .u8 k.nm,.slice a1 n1 c1,.slice a2 n2 c2,.slice a3 n3 c3,.slice a4 n4 c4,.slice a5 n5 c5] 61,.box b2 [zs,zl,zl,zl,zl,zl] 30,.box b4 [sv nm,oP.v,oI.v,zl,zl,zl] 30,.hp HP,.hp oP.h,.hp oI.h,.box b12 [.int .i8 x1,.int .i8 x2,.int .i8 x3,.int .i8 x4,.int .i8 x5,.int .i8 x6] 136,.box b13 [sv lab,sv pn,iQ (0),iQ (0),iQ (0),iQ (0),sv ([]),sv ([]),sv ([])] 93] (by rw[htq];rfl) ?_;refine m9 λq' hq'=>?_;(iterate 2 refine nwo ?_);refine PH x2 13 dc ?_;apply hq';refine m9 λq' hq'=>?_;refine nwo ?_;apply hq';exact⟨1,dc,dc,y6.mk (λ_ _ h=>by rw[htq];exact h) rfl rfl⟩
    | 1,_=>
     refine m9 λq' hq'=>?_;apply hq';refine K9 (by rfl) (λ_=>?_) (λh=>absurd h dc);refine cD [.hp (Hp.whole w),.box b1 [.int .u8 k.nm,.slice a1 n1 c1,.slice a2 n2 c2,.slice a3 n3 c3,.slice a4 n4 c4,.slice a5 n5 c5] 61,.box b2 [zs,zl,zl,zl,zl,zl] 30,.box b4 [sv nm,oP.v,oI.v,zl,zl,zl] 30,.hp HP,.hp oP.h,.hp oI.h,.box b12 [.int .i8 x1,.int .i8 x2,.int .i8 x3,.int .i8 x4,.int .i8 x5,.int .i8 x6] 136,.box b13 [sv lab,sv pn,iQ (x2.tmod 13),iQ (0),iQ (0),iQ (0),sv ([]),sv ([]),sv ([])] 93] (by rw[htq];rfl) ?_;refine m9 λq' hq'=>?_;(iterate 2 refine nwo ?_);refine PH x3 13 dc ?_;apply hq';refine m9 λq' hq'=>?_;refine nwo ?_;apply hq';exact⟨2,dc,dc,y6.mk (λ_ _ h=>by rw[htq];exact h) rfl rfl⟩
    | 2,_=>
     refine m9 λq' hq'=>?_;apply hq';refine K9 (by rfl) (λ_=>?_) (λh=>absurd h dc);refine cD [.hp (Hp.whole w),.box b1 [.int .u8 k.nm,.slice a1 n1 c1,.slice a2 n2 c2,.slice a3 n3 c3,.slice a4 n4 c4,.slice a5 n5 c5] 61,.box b2 [zs,zl,zl,zl,zl,zl] 30,.box b4 [sv nm,oP.v,oI.v,zl,zl,zl] 30,.hp HP,.hp oP.h,.hp oI.h,.box b12 [.int .i8 x1,.int .i8 x2,.int .i8 x3,.int .i8 x4,.int .i8 x5,.int .i8 x6] 136,.box b13 [sv lab,sv pn,iQ (x2.tmod 13),iQ (x3.tmod 13),iQ (0),iQ (0),sv ([]),sv ([]),sv ([])] 93] (by rw[htq];rfl) ?_;refine m9 λq' hq'=>?_;(iterate 2 refine nwo ?_);refine PH x4 13 dc ?_;apply hq';refine m9 λq' hq'=>?_;refine nwo ?_;apply hq';exact⟨3,dc,dc,y6.mk (λ_ _ h=>by rw[htq];exact h) rfl rfl⟩
    | 3,_=>
     refine m9 λq' hq'=>?_;apply hq';refine K9 (by rfl) (λ_=>?_) (λh=>absurd h dc);refine cD [.hp (Hp.whole w),.box b1 [.int .u8 k.nm,.slice a1 n1 c1,.slice a2 n2 c2,.slice a3 n3 c3,.slice a4 n4 c4,.slice a5 n5 c5] 61,.box b2 [zs,zl,zl,zl,zl,zl] 30,.box b4 [sv nm,oP.v,oI.v,zl,zl,zl] 30,.hp HP,.hp oP.h,.hp oI.h,.box b12 [.int .i8 x1,.int .i8 x2,.int .i8 x3,.int .i8 x4,.int .i8 x5,.int .i8 x6] 136,.box b13 [sv lab,sv pn,iQ (x2.tmod 13),iQ (x3.tmod 13),iQ (x4.tmod 13),iQ (0),sv ([]),sv ([]),sv ([])] 93] (by rw[htq];rfl) ?_;refine m9 λq' hq'=>?_;(iterate 2 refine nwo ?_);refine PH x5 13 dc ?_;apply hq';refine m9 λq' hq'=>?_;refine nwo ?_;apply hq';exact⟨4,dc,dc,y6.mk (λ_ _ h=>by rw[htq];exact h) rfl rfl⟩
    | 4,_=>
     refine m9 λq' hq'=>?_;apply hq';refine K9 (by rfl) (λh=>absurd h dc) λ_=>?_;refine m9 (λ_ kz=>kz _ _ ?_);obtain⟨fq,hfq⟩ :∃fq:List d8,fq = [M8 x6 1,M8 (x6+1) 2,M8 (x6+2) 3]:=⟨_,rfl⟩
     refine z6.mkS Nat (λg=>[(1,.bx 1 0),(2,.bx 2 0),(3,.v (iQ k.nm)),(4,.bx 3 0),(11,.v (iQ i)),(12,.bx 7 0),(13,.bx 8 0),(15,.v (iQ g))]) (λg=>[.hp (Hp.whole w),.box b1 [.int .u8 k.nm,.slice a1 n1 c1,.slice a2 n2 c2,.slice a3 n3 c3,.slice a4 n4 c4,.slice a5 n5 c5] 61,.box b2 [zs,zl,zl,zl,zl,zl] 30,.box b4 [sv nm,oP.v,oI.v,zl,zl,zl] 30,.hp HP,.hp oP.h,.hp oI.h,.box b12 [.int .i8 x1,.int .i8 x2,.int .i8 x3,.int .i8 x4,.int .i8 x5,.int .i8 x6] 136,.box b13 (Kj lab pn tq (fq.take g)) 93]) (λg=>g<=3) (λg=>3 - g) 0 (j0 _) (y6.mk (λ_ _ h=>by rw[htq] at h ⊢;exact h) rfl rfl) ?_;rintro j hj _;match j,hj with
     | 0,_=>
      refine m9 λq' hq'=>?_;apply hq';refine K9 (by rfl) (λ_=>?_) (λh=>absurd h dc);refine cD [.hp (Hp.whole w),.box b1 [.int .u8 k.nm,.slice a1 n1 c1,.slice a2 n2 c2,.slice a3 n3 c3,.slice a4 n4 c4,.slice a5 n5 c5] 61,.box b2 [zs,zl,zl,zl,zl,zl] 30,.box b4 [sv nm,oP.v,oI.v,zl,zl,zl] 30,.hp HP,.hp oP.h,.hp oI.h,.box b12 [.int .i8 x1,.int .i8 x2,.int .i8 x3,.int .i8 x4,.int .i8 x5,.int .i8 x6] 136,.box b13 [sv lab,sv pn,iQ (x2.tmod 13),iQ (x3.tmod 13),iQ (x4.tmod 13),iQ (x5.tmod 13),sv ([]),sv ([]),sv ([])] 93] (by rw[htq,hfq];rfl) ?_;refine m9 λq' hq'=>?_;refine nwo ?_;refine AK (y:=x6) om om om ?_;refine call (λw' hm=>S5 x6 om om w') ?_;rintro _ _ ⟨g1,a1',n1',c1',rfl,rfl,e1⟩;refine AK (y:=1) om om om ?_;refine call (λw' hm=>S5 1 dc dc w') ?_;rintro _ _ ⟨g2,a2',n2',c2',rfl,rfl,e2⟩;refine call (λw' hm=>pW (m:=1) w' (e1.mono (hm 9 _ rfl).whole) (e2.mono (hm 10 _ rfl).whole) dc) ?_;rintro _ _ ⟨g3,p1,q1,r1,p2,q2,r2,rfl,rfl,d1,d2⟩;intro b16;apply hq';refine nQ [.hp (Hp.whole w),.box b1 [.int .u8 k.nm,.slice a1 n1 c1,.slice a2 n2 c2,.slice a3 n3 c3,.slice a4 n4 c4,.slice a5 n5 c5] 61,.box b2 [zs,zl,zl,zl,zl,zl] 30,.box b4 [sv nm,oP.v,oI.v,zl,zl,zl] 30,.hp HP,.hp oP.h,.hp oI.h,.box b12 [.int .i8 x1,.int .i8 x2,.int .i8 x3,.int .i8 x4,.int .i8 x5,.int .i8 x6] 136,.box b13 [sv lab,sv pn,iQ (x2.tmod 13),iQ (x3.tmod 13),iQ (x4.tmod 13),iQ (x5.tmod 13),sv ([]),sv ([]),sv ([])] 93,.hp g1,.hp g2,.hp g3,.box b16 [.bool (decide (x6 < 0)),.slice p1 q1 r1,.bool false,.slice p2 q2 r2] 141] λq' hq'=>?_;refine k7 _ (λw' hm=>iP (z:=x6) (m:=1) w' dc (d1.mono (hm 11 _ rfl).whole) (d2.mono (hm 11 _ rfl).whole) om dc (hP.mono (hm 0 _ rfl).whole)) ?_;apply hq';refine m9 λq' hq'=>?_;refine nwo ?_;apply hq';exact⟨1,dc,dc,y6.mk (λ_ _ h=>by rw[htq,hfq];exact h.pick [0,1,2,3,4,5,6,7,8] rfl rfl) rfl rfl⟩
     | 1,_=>
      refine m9 λq' hq'=>?_;apply hq';refine K9 (by rfl) (λ_=>?_) (λh=>absurd h dc);refine cD [.hp (Hp.whole w),.box b1 [.int .u8 k.nm,.slice a1 n1 c1,.slice a2 n2 c2,.slice a3 n3 c3,.slice a4 n4 c4,.slice a5 n5 c5] 61,.box b2 [zs,zl,zl,zl,zl,zl] 30,.box b4 [sv nm,oP.v,oI.v,zl,zl,zl] 30,.hp HP,.hp oP.h,.hp oI.h,.box b12 [.int .i8 x1,.int .i8 x2,.int .i8 x3,.int .i8 x4,.int .i8 x5,.int .i8 x6] 136,.box b13 [sv lab,sv pn,iQ (x2.tmod 13),iQ (x3.tmod 13),iQ (x4.tmod 13),iQ (x5.tmod 13),sv (M8 x6 1),sv ([]),sv ([])] 93] (by rw[htq,hfq];rfl) ?_;refine m9 λq' hq'=>?_;refine nwo ?_;refine AK (y:=(x6+1)) om om om ?_;refine call (λw' hm=>S5 (x6+1) om om w') ?_;rintro _ _ ⟨g1,a1',n1',c1',rfl,rfl,e1⟩;refine AK (y:=2) om om om ?_;refine call (λw' hm=>S5 2 dc dc w') ?_;rintro _ _ ⟨g2,a2',n2',c2',rfl,rfl,e2⟩;refine call (λw' hm=>pW (m:=2) w' (e1.mono (hm 9 _ rfl).whole) (e2.mono (hm 10 _ rfl).whole) dc) ?_;rintro _ _ ⟨g3,p1,q1,r1,p2,q2,r2,rfl,rfl,d1,d2⟩;intro b16;apply hq';refine nQ [.hp (Hp.whole w),.box b1 [.int .u8 k.nm,.slice a1 n1 c1,.slice a2 n2 c2,.slice a3 n3 c3,.slice a4 n4 c4,.slice a5 n5 c5] 61,.box b2 [zs,zl,zl,zl,zl,zl] 30,.box b4 [sv nm,oP.v,oI.v,zl,zl,zl] 30,.hp HP,.hp oP.h,.hp oI.h,.box b12 [.int .i8 x1,.int .i8 x2,.int .i8 x3,.int .i8 x4,.int .i8 x5,.int .i8 x6] 136,.box b13 [sv lab,sv pn,iQ (x2.tmod 13),iQ (x3.tmod 13),iQ (x4.tmod 13),iQ (x5.tmod 13),sv (M8 x6 1),sv ([]),sv ([])] 93,.hp g1,.hp g2,.hp g3,.box b16 [.bool (decide ((x6+1) < 0)),.slice p1 q1 r1,.bool false,.slice p2 q2 r2] 141] λq' hq'=>?_;refine k7 _ (λw' hm=>iP (z:=(x6+1)) (m:=2) w' dc (d1.mono (hm 11 _ rfl).whole) (d2.mono (hm 11 _ rfl).whole) om dc (hP.mono (hm 0 _ rfl).whole)) ?_;apply hq';refine m9 λq' hq'=>?_;refine nwo ?_;apply hq';exact⟨2,dc,dc,y6.mk (λ_ _ h=>by rw[htq,hfq];exact h.pick [0,1,2,3,4,5,6,7,8] rfl rfl) rfl rfl⟩
     | 2,_=>
      refine m9 λq' hq'=>?_;apply hq';refine K9 (by rfl) (λ_=>?_) (λh=>absurd h dc);refine cD [.hp (Hp.whole w),.box b1 [.int .u8 k.nm,.slice a1 n1 c1,.slice a2 n2 c2,.slice a3 n3 c3,.slice a4 n4 c4,.slice a5 n5 c5] 61,.box b2 [zs,zl,zl,zl,zl,zl] 30,.box b4 [sv nm,oP.v,oI.v,zl,zl,zl] 30,.hp HP,.hp oP.h,.hp oI.h,.box b12 [.int .i8 x1,.int .i8 x2,.int .i8 x3,.int .i8 x4,.int .i8 x5,.int .i8 x6] 136,.box b13 [sv lab,sv pn,iQ (x2.tmod 13),iQ (x3.tmod 13),iQ (x4.tmod 13),iQ (x5.tmod 13),sv (M8 x6 1),sv (M8 (x6+1) 2),sv ([])] 93] (by rw[htq,hfq];rfl) ?_;refine m9 λq' hq'=>?_;refine nwo ?_;refine AK (y:=(x6+2)) om om om ?_;refine call (λw' hm=>S5 (x6+2) om om w') ?_;rintro _ _ ⟨g1,a1',n1',c1',rfl,rfl,e1⟩;refine AK (y:=3) om om om ?_;refine call (λw' hm=>S5 3 dc dc w') ?_;rintro _ _ ⟨g2,a2',n2',c2',rfl,rfl,e2⟩;refine call (λw' hm=>pW (m:=3) w' (e1.mono (hm 9 _ rfl).whole) (e2.mono (hm 10 _ rfl).whole) dc) ?_;rintro _ _ ⟨g3,p1,q1,r1,p2,q2,r2,rfl,rfl,d1,d2⟩;intro b16;apply hq';refine nQ [.hp (Hp.whole w),.box b1 [.int .u8 k.nm,.slice a1 n1 c1,.slice a2 n2 c2,.slice a3 n3 c3,.slice a4 n4 c4,.slice a5 n5 c5] 61,.box b2 [zs,zl,zl,zl,zl,zl] 30,.box b4 [sv nm,oP.v,oI.v,zl,zl,zl] 30,.hp HP,.hp oP.h,.hp oI.h,.box b12 [.int .i8 x1,.int .i8 x2,.int .i8 x3,.int .i8 x4,.int .i8 x5,.int .i8 x6] 136,.box b13 [sv lab,sv pn,iQ (x2.tmod 13),iQ (x3.tmod 13),iQ (x4.tmod 13),iQ (x5.tmod 13),sv (M8 x6 1),sv (M8 (x6+1) 2),sv ([])] 93,.hp g1,.hp g2,.hp g3,.box b16 [.bool (decide ((x6+2) < 0)),.slice p1 q1 r1,.bool false,.slice p2 q2 r2] 141] λq' hq'=>?_;refine k7 _ (λw' hm=>iP (z:=(x6+2)) (m:=3) w' dc (d1.mono (hm 11 _ rfl).whole) (d2.mono (hm 11 _ rfl).whole) om dc (hP.mono (hm 0 _ rfl).whole)) ?_;apply hq';refine m9 λq' hq'=>?_;refine nwo ?_;apply hq';exact⟨3,dc,dc,y6.mk (λ_ _ h=>by rw[htq,hfq];exact h.pick [0,1,2,3,4,5,6,7,8] rfl rfl) rfl rfl⟩
     | 3,_=>
      refine m9 λq' hq'=>?_;apply hq';refine K9 (by rfl) (λh=>absurd h dc) λ_=>?_;have eX:bG k.nm P i (x1,x2,x3,x4,x5,x6)=(lab,pn,(x2.tmod 13,x3.tmod 13,x4.tmod 13,x5.tmod 13),(M8 x6 1,M8 (x6+1) 2,M8 (x6+2) 3)):=by
       rw[hlab,hpn];unfold bG;rw[e8,i7 hjl];rfl
      refine cD [.hp (Hp.whole w),.box b1 [.int .u8 k.nm,.slice a1 n1 c1,.slice a2 n2 c2,.slice a3 n3 c3,.slice a4 n4 c4,.slice a5 n5 c5] 61,.box b2 [zs,zl,zl,zl,zl,zl] 30,.box b4 [sv nm,oP.v,oI.v,zl,zl,zl] 30,.hp HP,.hp oP.h,.hp oI.h,.box b12 [.int .i8 x1,.int .i8 x2,.int .i8 x3,.int .i8 x4,.int .i8 x5,.int .i8 x6] 136,.box b13 (fF (bG k.nm P i (x1,x2,x3,x4,x5,x6))) 93] (by rw[eX,htq,hfq];rfl) ?_;rw[eX];refine m9 λq' hq'=>?_;intro b14;refine gZ (f:=fF) cQ (e:=93) rfl (i:=6) rfl hOI (lab,pn,(x2.tmod 13,x3.tmod 13,x4.tmod 13,x5.tmod 13),(M8 x6 1,M8 (x6+1) 2,M8 (x6+2) 3)) (j:=9) rfl rfl rfl rfl (by rw[j1];omega) λo2 hO2=>?_;apply hq';refine m9 λq' hq'=>?_;refine nwo ?_;apply hq';exact⟨(HP,oP,i+1,o2),⟨by dsimp only;omega,hGP,by dsimp only;rw[eStep,eX];exact hO2⟩,by dsimp only;omega,y6.mk (pj [0,1,2,3,4,5,6]) rfl rfl⟩
   focus
    have t3:=of_decide_eq_false t3
  rotate_left
  focus
   apply hq';refine dU rfl ?_
  all_goals
   have eI:I.take i=I:=by rw[hId];exact KA om
   rw[eI] at hOI;refine m9 (λ_ kz=>kz _ _ ?_);exact z6.mkS (Hp×Dw.Os×Dw.Os×Nat×Dw.Os) (λg=>[(1,.bx 1 0),(2,.bx 2 0),(3,.v (iQ k.nm)),(4,.bx 3 0),(18,.v (iQ g.2.2.2.1))]) (λg=>[.hp (Hp.whole w),.box b1 [.int .u8 k.nm,.slice a1 n1 c1,.slice a2 n2 c2,.slice a3 n3 c3,.slice a4 n4 c4,.slice a5 n5 c5] 61,.box b2 [zs,zl,zl,zl,zl,zl] 30,.box b4 [sv nm,g.2.1.v,g.2.2.1.v,g.2.2.2.2.v,zl,zl] 30,.hp g.1,.hp g.2.1.h,.hp g.2.2.1.h,.hp g.2.2.2.2.h]) (λg=>g.2.2.2.1<=4/\(aR cN 83 3 g.1 g.2.1 P/\w5 fF 93 9 g.2.2.1 I)/\w5 P2 48 4 g.2.2.2.2 (D.take g.2.2.2.1)) (λg=>4 - g.2.2.2.1) (HP,oP,oI,0,Dw.Os.nil) ⟨j0 _,⟨hGP,hOI⟩,by rw[Q0];exact w5.nil _ _ _⟩ (y6.mk (λ_ _ h=>h.emp) rfl rfl) hC2.h
 ·apply hq';refine dU rfl ?_;have eI:I.take i=I:=by rw[hId];exact KA om
  rw[eI] at hOI;refine m9 (λ_ kz=>kz _ _ ?_);exact z6.mkS (Hp×Dw.Os×Dw.Os×Nat×Dw.Os) (λg=>[(1,.bx 1 0),(2,.bx 2 0),(3,.v (iQ k.nm)),(4,.bx 3 0),(18,.v (iQ g.2.2.2.1))]) (λg=>[.hp (Hp.whole w),.box b1 [.int .u8 k.nm,.slice a1 n1 c1,.slice a2 n2 c2,.slice a3 n3 c3,.slice a4 n4 c4,.slice a5 n5 c5] 61,.box b2 [zs,zl,zl,zl,zl,zl] 30,.box b4 [sv nm,g.2.1.v,g.2.2.1.v,g.2.2.2.2.v,zl,zl] 30,.hp g.1,.hp g.2.1.h,.hp g.2.2.1.h,.hp g.2.2.2.2.h]) (λg=>g.2.2.2.1<=4/\(aR cN 83 3 g.1 g.2.1 P/\w5 fF 93 9 g.2.2.1 I)/\w5 P2 48 4 g.2.2.2.2 (D.take g.2.2.2.1)) (λg=>4 - g.2.2.2.1) (HP,oP,oI,0,Dw.Os.nil) ⟨j0 _,⟨hGP,hOI⟩,by rw[Q0];exact w5.nil _ _ _⟩ (y6.mk (λ_ _ h=>h.emp) rfl rfl) hC2.h
 apply FJ;intro hC3;rintro⟨HP,oP,oI,i,oD⟩ ⟨hi,hGI,hOD⟩ hsat;dsimp only at hi hGI hOD ⊢;refine m9 λq' hq'=>?_;refine d9 (λt1=>?_) λt1=>?_
 ·apply hq';refine K9 (by rfl) (λt2=>?_) λt2=>?_
  ·have t2:=of_decide_eq_true t2;have hil:i < k.dims.length:=om
   obtain⟨x,hx⟩ :∃x,x=k.dims[i]'hil:=⟨_,rfl⟩
   have gx:=g.d x (by rw[hx];exact j5 hil);have eStep:D.take (i+1)=D.take i++[eM k.nm i x]:=by rw[hDd,hx];exact mV _ om hil
   obtain⟨x1,x2,x3⟩:=x;obtain⟨gx1,gx2,gx3⟩:=gx;dsimp only[i8] at gx1 gx2 gx3;refine nQ [.hp (Hp.whole w),.box b1 [.int .u8 k.nm,.slice a1 n1 c1,.slice a2 n2 c2,.slice a3 n3 c3,.slice a4 n4 c4,.slice a5 n5 c5] 61,.box b2 [zs,zl,zl,zl,zl,zl] 30,.box b4 [sv nm,oP.v,oI.v,oD.v,zl,zl] 30,.hp HP,.hp oP.h,.hp oI.h,.hp oD.h] λq' hq'=>?_;refine R2 cQ (e:=146) rfl h3 i rfl hil λb9 o9 cs hcs hR hcell=>?_;rw[<-hx] at hR;subst hR;refine nX cQ (i:=0) rfl hcell rfl ?_;intro b19;apply hq';clear hcell;obtain⟨lab,hlab⟩ :∃y,y=gP 100 i (k.nm / 8):=⟨_,rfl⟩
   have eX:eM k.nm i (x1,x2,x3)=(lab,x1*1000,min x2 x3,max x2 x3):=by rw[hlab];rfl
   rw[eX] at eStep;refine u6.cut Dw.Os (λ_=>[(1,.bx 1 0),(2,.bx 2 0),(3,.v (iQ k.nm)),(4,.bx 3 0),(18,.v (iQ i))]) (λg=>[.hp (Hp.whole w),.box b1 [.int .u8 k.nm,.slice a1 n1 c1,.slice a2 n2 c2,.slice a3 n3 c3,.slice a4 n4 c4,.slice a5 n5 c5] 61,.box b2 [zs,zl,zl,zl,zl,zl] 30,.box b4 [sv nm,oP.v,oI.v,g.v,zl,zl] 30,.hp HP,.hp oP.h,.hp oI.h,.hp g.h]) (λg=>w5 P2 48 4 g (D.take i++[(lab,x1*1000,min x2 x3,max x2 x3)])) (u6.by_order0 (s0:=[.hp (Hp.whole w),.box b1 [.int .u8 k.nm,.slice a1 n1 c1,.slice a2 n2 c2,.slice a3 n3 c3,.slice a4 n4 c4,.slice a5 n5 c5] 61,.box b2 [zs,zl,zl,zl,zl,zl] 30,.box b4 [sv nm,oP.v,oI.v,oD.v,zl,zl] 30,.hp HP,.hp oP.h,.hp oI.h,.hp Hp.emp,.box b19 [.int .i8 x1,.int .i8 x2,.int .i8 x3] 146]) cQ (.take 0 <| .take 1 <| .take 2 <| .take 3 <| .take 4 <| .take 6 <| .take 7 <| .take 8 <| .take 9 <| .take 10 <| .take 11 <| .take 12 <| .take 13 <| .take 14 <| .take 15 <| .take 17 <| .take 18 <| .take 19 <| .take 20 <| .take 21 <| .take 22 <| .three 5 (.two 16 (.run 23 <| .take 24 <| .run 25 <| .run 26 <| .run 27 <| .run 28 <| .done) 23 (.run 16 <| .take 24 <| .run 25 <| .run 26 <| .run 27 <| .run 28 <| .done)) 16 (.two 5 (.run 23 <| .take 24 <| .run 25 <| .run 26 <| .run 27 <| .run 28 <| .done) 23 (.run 5 <| .take 24 <| .run 25 <| .run 26 <| .run 27 <| .run 28 <| .done)) 23 (.two 5 (.run 16 <| .take 24 <| .run 25 <| .run 26 <| .run 27 <| .run 28 <| .done) 16 (.run 5 <| .take 24 <| .run 25 <| .run 26 <| .run 27 <| .run 28 <| .done))) kr (sK) ?_) ?_
   ·refine DN k.nm 3 rfl dc ?_;(iterate 6 refine nwo ?_);refine⟨?_,?_,?_⟩
    ·refine k7 _ (λw' hm=>P1 100 i (k.nm / 2 ^ 3) om (p8 (D0 _ _) hnm) w') ?_;rw[show k.nm / 2 ^ 3=k.nm / 8 from rfl,<-hlab];refine⟨sK,?_⟩;refine⟨?_,?_⟩;focus
      refine AF ?_;refine⟨sK,?_⟩;refine IX ?_
     rotate_left
     focus
      refine IX ?_;refine⟨sK,?_⟩;refine AF ?_
     all_goals
      refine⟨sK,?_⟩;intro b25;refine⟨sK,?_⟩;refine gZ (f:=P2) cQ (e:=48) rfl (i:=7) rfl hOD (lab,x1*1000,min x2 x3,max x2 x3) (j:=9) rfl rfl rfl rfl (by rw[j1];omega) λo2 hO2=>?_;refine⟨sK,?_⟩;exact⟨o2,hO2,y6.mk (pj [0,1,2,3,4,5,6,7]) rfl rfl⟩
    ·refine AF ?_;refine⟨sK,?_⟩;refine⟨?_,?_⟩;focus
      refine k7 _ (λw' hm=>P1 100 i (k.nm / 2 ^ 3) om (p8 (D0 _ _) hnm) w') ?_;rw[show k.nm / 2 ^ 3=k.nm / 8 from rfl,<-hlab];refine⟨sK,?_⟩;refine IX ?_
     rotate_left
     focus
      refine IX ?_;refine⟨sK,?_⟩;refine k7 _ (λw' hm=>P1 100 i (k.nm / 2 ^ 3) om (p8 (D0 _ _) hnm) w') ?_;rw[show k.nm / 2 ^ 3=k.nm / 8 from rfl,<-hlab]
     all_goals
      refine⟨sK,?_⟩;intro b25;refine⟨sK,?_⟩;refine gZ (f:=P2) cQ (e:=48) rfl (i:=7) rfl hOD (lab,x1*1000,min x2 x3,max x2 x3) (j:=9) rfl rfl rfl rfl (by rw[j1];omega) λo2 hO2=>?_;refine⟨sK,?_⟩;exact⟨o2,hO2,y6.mk (pj [0,1,2,3,4,5,6,7]) rfl rfl⟩
    ·refine IX ?_;refine⟨sK,?_⟩;refine⟨?_,?_⟩;focus
      refine k7 _ (λw' hm=>P1 100 i (k.nm / 2 ^ 3) om (p8 (D0 _ _) hnm) w') ?_;rw[show k.nm / 2 ^ 3=k.nm / 8 from rfl,<-hlab];refine⟨sK,?_⟩;refine AF ?_
     rotate_left
     focus
      refine AF ?_;refine⟨sK,?_⟩;refine k7 _ (λw' hm=>P1 100 i (k.nm / 2 ^ 3) om (p8 (D0 _ _) hnm) w') ?_;rw[show k.nm / 2 ^ 3=k.nm / 8 from rfl,<-hlab]
     all_goals
      refine⟨sK,?_⟩;intro b25;refine⟨sK,?_⟩;refine gZ (f:=P2) cQ (e:=48) rfl (i:=7) rfl hOD (lab,x1*1000,min x2 x3,max x2 x3) (j:=9) rfl rfl rfl rfl (by rw[j1];omega) λo2 hO2=>?_;refine⟨sK,?_⟩;exact⟨o2,hO2,y6.mk (pj [0,1,2,3,4,5,6,7]) rfl rfl⟩
   intro o2 hO2 _;dsimp only;refine m9 λq' hq'=>?_;refine nwo ?_;apply hq';exact⟨(HP,oP,oI,i+1,o2),⟨by dsimp only;omega,hGI,by dsimp only;rw[eStep];exact hO2⟩,by dsimp only;omega,y6.mk (λ_ _ h=>h) rfl rfl⟩
  ·have t2:=of_decide_eq_false t2;have eD:D.take i=D:=by rw[hDd];exact iF _ om
   rw[eD] at hOD;refine m9 (λ_ kz=>kz _ _ ?_);exact z6.mkS (Hp×Dw.Os×Dw.Os×Dw.Os×Nat×Hp×Dw.Os) (λg=>[(1,.bx 1 0),(2,.bx 2 0),(3,.v (iQ k.nm)),(4,.bx 3 0),(20,.v (iQ g.2.2.2.2.1))]) (λg=>[.hp (Hp.whole w),.box b1 [.int .u8 k.nm,.slice a1 n1 c1,.slice a2 n2 c2,.slice a3 n3 c3,.slice a4 n4 c4,.slice a5 n5 c5] 61,.box b2 [zs,zl,zl,zl,zl,zl] 30,.box b4 [sv nm,g.2.1.v,g.2.2.1.v,g.2.2.2.1.v,g.2.2.2.2.2.2.v,zl] 30,.hp g.1,.hp g.2.1.h,.hp g.2.2.1.h,.hp g.2.2.2.1.h,.hp g.2.2.2.2.2.1,.hp g.2.2.2.2.2.2.h]) (λg=>g.2.2.2.2.1<=2/\(aR cN 83 3 g.1 g.2.1 P/\w5 fF 93 9 g.2.2.1 I/\w5 P2 48 4 g.2.2.2.1 D)/\aR qF 96 3 g.2.2.2.2.2.1 g.2.2.2.2.2.2 (C.take g.2.2.2.2.1)) (λg=>2 - g.2.2.2.2.1) (HP,oP,oI,oD,0,Hp.emp,Dw.Os.nil) ⟨j0 _,⟨hGI.1,hGI.2,hOD⟩,by rw[Q0];exact aR.nil⟩ (y6.mk (λ_ _ h=>h.emp.emp) rfl rfl) hC3.h
 ·apply hq';refine dU rfl ?_;have eD:D.take i=D:=by rw[hDd];exact iF _ om
  rw[eD] at hOD;refine m9 (λ_ kz=>kz _ _ ?_);exact z6.mkS (Hp×Dw.Os×Dw.Os×Dw.Os×Nat×Hp×Dw.Os) (λg=>[(1,.bx 1 0),(2,.bx 2 0),(3,.v (iQ k.nm)),(4,.bx 3 0),(20,.v (iQ g.2.2.2.2.1))]) (λg=>[.hp (Hp.whole w),.box b1 [.int .u8 k.nm,.slice a1 n1 c1,.slice a2 n2 c2,.slice a3 n3 c3,.slice a4 n4 c4,.slice a5 n5 c5] 61,.box b2 [zs,zl,zl,zl,zl,zl] 30,.box b4 [sv nm,g.2.1.v,g.2.2.1.v,g.2.2.2.1.v,g.2.2.2.2.2.2.v,zl] 30,.hp g.1,.hp g.2.1.h,.hp g.2.2.1.h,.hp g.2.2.2.1.h,.hp g.2.2.2.2.2.1,.hp g.2.2.2.2.2.2.h]) (λg=>g.2.2.2.2.1<=2/\(aR cN 83 3 g.1 g.2.1 P/\w5 fF 93 9 g.2.2.1 I/\w5 P2 48 4 g.2.2.2.1 D)/\aR qF 96 3 g.2.2.2.2.2.1 g.2.2.2.2.2.2 (C.take g.2.2.2.2.1)) (λg=>2 - g.2.2.2.2.1) (HP,oP,oI,oD,0,Hp.emp,Dw.Os.nil) ⟨j0 _,⟨hGI.1,hGI.2,hOD⟩,by rw[Q0];exact aR.nil⟩ (y6.mk (λ_ _ h=>h.emp.emp) rfl rfl) hC3.h
 apply FJ;intro hC4;rintro⟨HP,oP,oI,oD,i,HC,oC⟩ ⟨hi,hGI,hGC⟩ hsat;dsimp only at hi hGI hGC ⊢;have hDn:=hGI.2.2.len;refine m9 λq' hq'=>?_;refine d9 (λt1=>?_) λt1=>?_
 ·apply hq';refine K9 (by rfl) (λt2=>?_) λt2=>?_
  ·have t2:=of_decide_eq_true t2;have hil:i < k.cons.length:=om
   obtain⟨x,hx⟩ :∃x,x=k.cons[i]'hil:=⟨_,rfl⟩
   have gx:=g.c x (by rw[hx];exact j5 hil);have eStep:C.take (i+1)=C.take i++[lZ k.nm D.length i x]:=by rw[hCd,hx];exact mV _ om hil
   have gx':x.1.natAbs < 1000/\x.2.1.natAbs < 1000/\x.2.2.1.natAbs < 1000/\x.2.2.2.natAbs < 1000:=by
    obtain⟨x1,x2,x3,x4⟩:=x;obtain⟨gx1,gx2,gx3,gx4⟩:=gx;dsimp only[i8] at gx1 gx2 gx3 gx4 ⊢;omega
   obtain⟨lab,hlab⟩ :∃y,y=gP 99 i (k.nm / 16):=⟨_,rfl⟩
   obtain⟨F,hF⟩ :∃F,F=Z5 D.length x:=⟨_,rfl⟩
   have eX:lZ k.nm D.length i x=(lab,F):=by rw[hlab,hF];rfl
   rw[eX] at eStep;have hLin:=λ(w':World) (hm:(Hp.whole w).In w')=>nW D.length x om gx' w' (hP.mono hm.whole);rw[<-hF] at hLin;rw[show ((D.length:Nat):Int)=(oD.n:Int) by omega] at hLin;refine u6.cut (Hp×Dw.Os) (λ_=>[(1,.bx 1 0),(2,.bx 2 0),(3,.v (iQ k.nm)),(4,.bx 3 0),(20,.v (iQ i))]) (λg=>[.hp (Hp.whole w),.box b1 [.int .u8 k.nm,.slice a1 n1 c1,.slice a2 n2 c2,.slice a3 n3 c3,.slice a4 n4 c4,.slice a5 n5 c5] 61,.box b2 [zs,zl,zl,zl,zl,zl] 30,.box b4 [sv nm,oP.v,oI.v,oD.v,g.2.v,zl] 30,.hp HP,.hp oP.h,.hp oI.h,.hp oD.h,.hp g.1,.hp g.2.h]) (λg=>aR qF 96 3 g.1 g.2 (C.take i++[(lab,F)])) (u6.by_order0 (s0:=[.hp (Hp.whole w),.box b1 [.int .u8 k.nm,.slice a1 n1 c1,.slice a2 n2 c2,.slice a3 n3 c3,.slice a4 n4 c4,.slice a5 n5 c5] 61,.box b2 [zs,zl,zl,zl,zl,zl] 30,.box b4 [sv nm,oP.v,oI.v,oD.v,oC.v,zl] 30,.hp HP,.hp oP.h,.hp oI.h,.hp oD.h,.hp HC,.hp Hp.emp]) cQ (.take 0 <| .take 1 <| .take 2 <| .take 3 <| .take 4 <| .take 6 <| .take 7 <| .take 8 <| .take 9 <| .take 10 <| .take 11 <| .take 12 <| .take 13 <| .run 5 <| .run 14 <| .take 15 <| .run 16 <| .run 17 <| .run 18 <| .run 19 <| .done) kr (sK) ?_) ?_
   ·refine DN k.nm 4 rfl dc ?_;refine R2 cQ (e:=148) rfl h4 i rfl hil λb9 o9 cs hcs hR hcell=>?_;rw[<-hx] at hR;subst hR;refine nX cQ (i:=0) rfl hcell rfl ?_;refine k7 _ (λw' hm=>P1 99 i (k.nm / 2 ^ 4) om (p8 (D0 _ _) hnm) w') ?_;rw[show k.nm / 2 ^ 4=k.nm / 16 from rfl,<-hlab];refine⟨sK,?_⟩;refine call (λw' hm=>hLin w' (hm 0 _ rfl)) ?_;rintro _ _ ⟨oF,rfl,rfl,hOF⟩;refine⟨sK,?_⟩;intro b25;refine⟨sK,?_⟩;refine qM (R:=qF) (o:=oC) (L:=C.take i) (H:=HC.join oF.h) cQ (e:=96) rfl (i:=9) rfl (λ_=>hGC.mono V5 (Hp.le_join_l _ _)) (lab,F) [sv lab,sv F.1,oF.v] (j:=11) rfl rfl rfl rfl (by rw[j1];omega) (λhs=>?_) λo2 _ hG2=>?_
    ·obtain⟨w0,w',hok⟩:=hs;exact⟨oF.a,oF.n,oF.c,rfl,(w5.sl (f:=bO) (sz:=2) (λ_=>rfl) dc hOF).mono (j7 _) (Hp.le_join_r (hok.disj 8 10 _ _ dc rfl rfl))⟩
    refine⟨sK,?_⟩;exact⟨(HC.join oF.h,o2),hG2,y6.mk (λ_ _ h=>(Ok.join (h.pick [0,8,10,1,2,3,4,5,6,7,9] rfl rfl)).pick [0,2,3,4,5,6,7,8,1,9] rfl rfl) rfl rfl⟩
   rintro⟨H9,o9⟩ hG9 _;dsimp only at hG9 ⊢;refine m9 λq' hq'=>?_;refine nwo ?_;apply hq';exact⟨(HP,oP,oI,oD,i+1,H9,o9),⟨by dsimp only;omega,hGI,by dsimp only;rw[eStep];exact hG9⟩,by dsimp only;omega,y6.mk (λ_ _ h=>h) rfl rfl⟩
  ·have t2:=of_decide_eq_false t2;have eC:C.take i=C:=by rw[hCd];exact iF _ om
   rw[eC] at hGC;refine m9 (λ_ kz=>kz _ _ ?_);exact z6.mkS (Hp×Dw.Os×Dw.Os×Dw.Os×Hp×Dw.Os×Nat×Hp×Dw.Os) (λg=>[(1,.bx 1 0),(2,.bx 2 0),(3,.v (iQ k.nm)),(4,.bx 3 0),(21,.v (iQ g.2.2.2.2.2.2.1))]) (λg=>[.hp (Hp.whole w),.box b1 [.int .u8 k.nm,.slice a1 n1 c1,.slice a2 n2 c2,.slice a3 n3 c3,.slice a4 n4 c4,.slice a5 n5 c5] 61,.box b2 [zs,zl,zl,zl,zl,zl] 30,.box b4 [sv nm,g.2.1.v,g.2.2.1.v,g.2.2.2.1.v,g.2.2.2.2.2.1.v,g.2.2.2.2.2.2.2.2.v] 30,.hp g.1,.hp g.2.1.h,.hp g.2.2.1.h,.hp g.2.2.2.1.h,.hp g.2.2.2.2.1,.hp g.2.2.2.2.2.1.h,.hp g.2.2.2.2.2.2.2.1,.hp g.2.2.2.2.2.2.2.2.h]) (λg=>g.2.2.2.2.2.2.1<=2/\(aR cN 83 3 g.1 g.2.1 P/\w5 fF 93 9 g.2.2.1 I/\w5 P2 48 4 g.2.2.2.1 D/\aR qF 96 3 g.2.2.2.2.1 g.2.2.2.2.2.1 C)/\aR (mK 4) 74 8 g.2.2.2.2.2.2.2.1 g.2.2.2.2.2.2.2.2 (R.take g.2.2.2.2.2.2.1)) (λg=>2 - g.2.2.2.2.2.2.1) (HP,oP,oI,oD,HC,oC,0,Hp.emp,Dw.Os.nil) ⟨j0 _,⟨hGI.1,hGI.2.1,hGI.2.2,hGC⟩,by rw[Q0];exact aR.nil⟩ (y6.mk (λ_ _ h=>h.emp.emp) rfl rfl) hC4.h
 ·apply hq';refine dU rfl ?_;have eC:C.take i=C:=by rw[hCd];exact iF _ om
  rw[eC] at hGC;refine m9 (λ_ kz=>kz _ _ ?_);exact z6.mkS (Hp×Dw.Os×Dw.Os×Dw.Os×Hp×Dw.Os×Nat×Hp×Dw.Os) (λg=>[(1,.bx 1 0),(2,.bx 2 0),(3,.v (iQ k.nm)),(4,.bx 3 0),(21,.v (iQ g.2.2.2.2.2.2.1))]) (λg=>[.hp (Hp.whole w),.box b1 [.int .u8 k.nm,.slice a1 n1 c1,.slice a2 n2 c2,.slice a3 n3 c3,.slice a4 n4 c4,.slice a5 n5 c5] 61,.box b2 [zs,zl,zl,zl,zl,zl] 30,.box b4 [sv nm,g.2.1.v,g.2.2.1.v,g.2.2.2.1.v,g.2.2.2.2.2.1.v,g.2.2.2.2.2.2.2.2.v] 30,.hp g.1,.hp g.2.1.h,.hp g.2.2.1.h,.hp g.2.2.2.1.h,.hp g.2.2.2.2.1,.hp g.2.2.2.2.2.1.h,.hp g.2.2.2.2.2.2.2.1,.hp g.2.2.2.2.2.2.2.2.h]) (λg=>g.2.2.2.2.2.2.1<=2/\(aR cN 83 3 g.1 g.2.1 P/\w5 fF 93 9 g.2.2.1 I/\w5 P2 48 4 g.2.2.2.1 D/\aR qF 96 3 g.2.2.2.2.1 g.2.2.2.2.2.1 C)/\aR (mK 4) 74 8 g.2.2.2.2.2.2.2.1 g.2.2.2.2.2.2.2.2 (R.take g.2.2.2.2.2.2.1)) (λg=>2 - g.2.2.2.2.2.2.1) (HP,oP,oI,oD,HC,oC,0,Hp.emp,Dw.Os.nil) ⟨j0 _,⟨hGI.1,hGI.2.1,hGI.2.2,hGC⟩,by rw[Q0];exact aR.nil⟩ (y6.mk (λ_ _ h=>h.emp.emp) rfl rfl) hC4.h
 rintro⟨HP,oP,oI,oD,HC,oC,i,HR,oR⟩ ⟨hi,hGI,hGR⟩ hsat;dsimp only at hi hGI hGR ⊢;have hDn:=hGI.2.2.1.len;refine m9 λq' hq'=>?_;refine d9 (λt1=>?_) λt1=>?_;focus
  apply hq';refine K9 (by rfl) (λt2=>?_) λt2=>?_
  ·have t2:=of_decide_eq_true t2;have hil:i < k.gaps.length:=om
   obtain⟨x,hx⟩ :∃x,x=k.gaps[i]'hil:=⟨_,rfl⟩
   have gx:=g.g x (by rw[hx];exact j5 hil);have eStep:R.take (i+1)=R.take i++[gC k.nm D.length i x]:=by rw[hRd,hx];exact mV _ om hil
   obtain⟨lab,hlab⟩ :∃y,y=gP 114 i (k.nm / 32):=⟨_,rfl⟩
   have eX:gC k.nm D.length i x=(lab,(R5 D.length 3 x).1,if x.length % 2=0 then [45,55,47,50] else [],if x.length % 3=0 then [49,49] else []):=by rw[hlab];rfl
   rw[eX] at eStep;clear eX;refine nQ [.hp (Hp.whole w),.box b1 [.int .u8 k.nm,.slice a1 n1 c1,.slice a2 n2 c2,.slice a3 n3 c3,.slice a4 n4 c4,.slice a5 n5 c5] 61,.box b2 [zs,zl,zl,zl,zl,zl] 30,.box b4 [sv nm,oP.v,oI.v,oD.v,oC.v,oR.v] 30,.hp HP,.hp oP.h,.hp oI.h,.hp oD.h,.hp HC,.hp oC.h,.hp HR,.hp oR.h] λq' hq'=>?_;refine R2 cQ (e:=68) rfl h5 i rfl hil λb9 o9 cs hcs hR hcell=>?_;rw[<-hx] at hR;obtain⟨ax,nx,cx',rfl,hSx⟩:=hR;refine lQ 0 (hcell 0 _ rfl) ?_;have hnx:=hSx.len;apply hq';clear hcell;refine m9 λq' hq'=>?_;refine DN k.nm 5 rfl dc ?_;refine k7 _ (λw' hm=>P1 114 i (k.nm / 2 ^ 5) om (p8 (D0 _ _) hnm) w') ?_;rw[show k.nm / 2 ^ 5=k.nm / 32 from rfl,<-hlab];intro b23;apply hq';refine nQ [.hp (Hp.whole w),.box b1 [.int .u8 k.nm,.slice a1 n1 c1,.slice a2 n2 c2,.slice a3 n3 c3,.slice a4 n4 c4,.slice a5 n5 c5] 61,.box b2 [zs,zl,zl,zl,zl,zl] 30,.box b4 [sv nm,oP.v,oI.v,oD.v,oC.v,oR.v] 30,.hp HP,.hp oP.h,.hp oI.h,.hp oD.h,.hp HC,.hp oC.h,.hp HR,.hp oR.h,.box b23 [sv lab,iQ 0,zs,zl,zs,zl,zs,zs] 74] λq' hq'=>?_;refine call (λw' hm=>mB 3 dc oD.n x ax nx cx' 1 (Hp.whole w) w' (hm 0 _ rfl) om dc gx hSx (hP.mono (hm 0 _ rfl).whole)) ?_;rintro _ _ ⟨H9,xs,a7,m7,c7,rfl,rfl,hx5,hE,hS7⟩;rw[show oD.n=D.length by omega] at hE hS7;obtain⟨X,hX⟩ :∃X,X=(R5 D.length 3 x).1:=⟨_,rfl⟩
   rw[<-hX] at hE eStep;have hE2:=hE;obtain⟨Y,hY⟩ :∃Y,Y=X:=⟨_,rfl⟩
   rw[<-hY] at hE2;obtain⟨op9,f9,fac9,args9⟩:=Y;obtain⟨a9,n9,c9,a8,n8,c8,rfl,_,_⟩:=hE2;apply hq';refine nQ [.hp (Hp.whole w),.box b1 [.int .u8 k.nm,.slice a1 n1 c1,.slice a2 n2 c2,.slice a3 n3 c3,.slice a4 n4 c4,.slice a5 n5 c5] 61,.box b2 [zs,zl,zl,zl,zl,zl] 30,.box b4 [sv nm,oP.v,oI.v,oD.v,oC.v,oR.v] 30,.hp HP,.hp oP.h,.hp oI.h,.hp oD.h,.hp HC,.hp oC.h,.hp HR,.hp oR.h,.box b23 [sv lab,iQ op9,sv f9.1,.slice a9 n9 c9,sv fac9,.slice a8 n8 c8,zs,zs] 74,.hp H9] λq' hq'=>?_;refine gF nx 2 (nx % 2) rfl rfl dc rfl ?_;apply hq';refine K9 (by rfl) (λe2=>?_) λe2=>?_
   ·have e2:=of_decide_eq_true e2;rw[if_pos (show x.length % 2=0 by omega)] at eStep;refine m9 λq' hq'=>?_;apply hq';refine m9 λq' hq'=>?_;refine gF nx 3 (nx % 3) rfl rfl dc rfl ?_;apply hq';refine K9 (by rfl) (λe3=>?_) λe3=>?_;focus
     have e3:=of_decide_eq_true e3;rw[if_pos (show x.length % 3=0 by omega)] at eStep;refine m9 λq' hq'=>?_;apply hq';refine nQ [.hp (Hp.whole w),.box b1 [.int .u8 k.nm,.slice a1 n1 c1,.slice a2 n2 c2,.slice a3 n3 c3,.slice a4 n4 c4,.slice a5 n5 c5] 61,.box b2 [zs,zl,zl,zl,zl,zl] 30,.box b4 [sv nm,oP.v,oI.v,oD.v,oC.v,oR.v] 30,.hp HP,.hp oP.h,.hp oI.h,.hp oD.h,.hp HC,.hp oC.h,.hp HR,.hp oR.h,.box b23 [sv lab,iQ op9,sv f9.1,.slice a9 n9 c9,sv fac9,.slice a8 n8 c8,sv [45,55,47,50],sv [49,49]] 74,.hp H9] λq' hq'=>?_;intro b24;refine qM (R:=mK 4) (o:=oR) (L:=R.take i) (H:=HR.join H9) cQ (e:=74) rfl (i:=11) rfl (λ_=>hGR.mono (O2 4) (Hp.le_join_l _ _)) (lab,X,[45,55,47,50],[49,49]) [sv lab,iQ op9,sv f9.1,.slice a9 n9 c9,sv fac9,.slice a8 n8 c8,sv [45,55,47,50],sv [49,49]] (j:=14) rfl rfl rfl rfl (by rw[j1];omega) (λhs=>?_) λo2 _ hG2=>?_
     ·obtain⟨w0,w',hok⟩:=hs;exact⟨[iQ op9,sv f9.1,.slice a9 n9 c9,sv fac9,.slice a8 n8 c8],rfl,D6 _ _ _ _ _ (Hp.le_join_r (hok.disj 10 13 _ _ dc rfl rfl)) hE⟩
    rotate_left
    focus
     have e3:=of_decide_eq_false e3;rw[if_neg (show ¬ x.length % 3=0 by omega)] at eStep;refine nQ [.hp (Hp.whole w),.box b1 [.int .u8 k.nm,.slice a1 n1 c1,.slice a2 n2 c2,.slice a3 n3 c3,.slice a4 n4 c4,.slice a5 n5 c5] 61,.box b2 [zs,zl,zl,zl,zl,zl] 30,.box b4 [sv nm,oP.v,oI.v,oD.v,oC.v,oR.v] 30,.hp HP,.hp oP.h,.hp oI.h,.hp oD.h,.hp HC,.hp oC.h,.hp HR,.hp oR.h,.box b23 [sv lab,iQ op9,sv f9.1,.slice a9 n9 c9,sv fac9,.slice a8 n8 c8,sv [45,55,47,50],zs] 74,.hp H9] λq' hq'=>?_;intro b24;refine qM (R:=mK 4) (o:=oR) (L:=R.take i) (H:=HR.join H9) cQ (e:=74) rfl (i:=11) rfl (λ_=>hGR.mono (O2 4) (Hp.le_join_l _ _)) (lab,X,[45,55,47,50],[]) [sv lab,iQ op9,sv f9.1,.slice a9 n9 c9,sv fac9,.slice a8 n8 c8,sv [45,55,47,50],zs] (j:=14) rfl rfl rfl rfl (by rw[j1];omega) (λhs=>?_) λo2 _ hG2=>?_
     ·obtain⟨w0,w',hok⟩:=hs;exact⟨[iQ op9,sv f9.1,.slice a9 n9 c9,sv fac9,.slice a8 n8 c8],rfl,D6 _ _ _ _ _ (Hp.le_join_r (hok.disj 10 13 _ _ dc rfl rfl)) hE⟩
    all_goals
     apply hq';refine m9 λq' hq'=>?_;refine nwo ?_;apply hq';exact⟨(HP,oP,oI,oD,HC,oC,i+1,HR.join H9,o2),⟨by dsimp only;omega,hGI,by dsimp only;rw[eStep];exact hG2⟩,by dsimp only;omega,y6.mk (λ_ _ h=>(Ok.join (h.pick [0,10,13,1,2,3,4,5,6,7,8,9,11] rfl rfl)).pick [0,2,3,4,5,6,7,8,9,10,1,11] rfl rfl) rfl rfl⟩
   ·have e2:=of_decide_eq_false e2;rw[if_neg (show ¬ x.length % 2=0 by omega)] at eStep;refine m9 λq' hq'=>?_;refine gF nx 3 (nx % 3) rfl rfl dc rfl ?_;apply hq';refine K9 (by rfl) (λe3=>?_) λe3=>?_;focus
     have e3:=of_decide_eq_true e3;rw[if_pos (show x.length % 3=0 by omega)] at eStep;refine m9 λq' hq'=>?_;apply hq';refine nQ [.hp (Hp.whole w),.box b1 [.int .u8 k.nm,.slice a1 n1 c1,.slice a2 n2 c2,.slice a3 n3 c3,.slice a4 n4 c4,.slice a5 n5 c5] 61,.box b2 [zs,zl,zl,zl,zl,zl] 30,.box b4 [sv nm,oP.v,oI.v,oD.v,oC.v,oR.v] 30,.hp HP,.hp oP.h,.hp oI.h,.hp oD.h,.hp HC,.hp oC.h,.hp HR,.hp oR.h,.box b23 [sv lab,iQ op9,sv f9.1,.slice a9 n9 c9,sv fac9,.slice a8 n8 c8,zs,sv [49,49]] 74,.hp H9] λq' hq'=>?_;intro b24;refine qM (R:=mK 4) (o:=oR) (L:=R.take i) (H:=HR.join H9) cQ (e:=74) rfl (i:=11) rfl (λ_=>hGR.mono (O2 4) (Hp.le_join_l _ _)) (lab,X,[],[49,49]) [sv lab,iQ op9,sv f9.1,.slice a9 n9 c9,sv fac9,.slice a8 n8 c8,zs,sv [49,49]] (j:=14) rfl rfl rfl rfl (by rw[j1];omega) (λhs=>?_) λo2 _ hG2=>?_
     ·obtain⟨w0,w',hok⟩:=hs;exact⟨[iQ op9,sv f9.1,.slice a9 n9 c9,sv fac9,.slice a8 n8 c8],rfl,D6 _ _ _ _ _ (Hp.le_join_r (hok.disj 10 13 _ _ dc rfl rfl)) hE⟩
    rotate_left
    focus
     have e3:=of_decide_eq_false e3;rw[if_neg (show ¬ x.length % 3=0 by omega)] at eStep;refine nQ [.hp (Hp.whole w),.box b1 [.int .u8 k.nm,.slice a1 n1 c1,.slice a2 n2 c2,.slice a3 n3 c3,.slice a4 n4 c4,.slice a5 n5 c5] 61,.box b2 [zs,zl,zl,zl,zl,zl] 30,.box b4 [sv nm,oP.v,oI.v,oD.v,oC.v,oR.v] 30,.hp HP,.hp oP.h,.hp oI.h,.hp oD.h,.hp HC,.hp oC.h,.hp HR,.hp oR.h,.box b23 [sv lab,iQ op9,sv f9.1,.slice a9 n9 c9,sv fac9,.slice a8 n8 c8,zs,zs] 74,.hp H9] λq' hq'=>?_;intro b24;refine qM (R:=mK 4) (o:=oR) (L:=R.take i) (H:=HR.join H9) cQ (e:=74) rfl (i:=11) rfl (λ_=>hGR.mono (O2 4) (Hp.le_join_l _ _)) (lab,X,[],[]) [sv lab,iQ op9,sv f9.1,.slice a9 n9 c9,sv fac9,.slice a8 n8 c8,zs,zs] (j:=14) rfl rfl rfl rfl (by rw[j1];omega) (λhs=>?_) λo2 _ hG2=>?_
     ·obtain⟨w0,w',hok⟩:=hs;exact⟨[iQ op9,sv f9.1,.slice a9 n9 c9,sv fac9,.slice a8 n8 c8],rfl,D6 _ _ _ _ _ (Hp.le_join_r (hok.disj 10 13 _ _ dc rfl rfl)) hE⟩
    all_goals
     apply hq';refine m9 λq' hq'=>?_;refine nwo ?_;apply hq';exact⟨(HP,oP,oI,oD,HC,oC,i+1,HR.join H9,o2),⟨by dsimp only;omega,hGI,by dsimp only;rw[eStep];exact hG2⟩,by dsimp only;omega,y6.mk (λ_ _ h=>(Ok.join (h.pick [0,10,13,1,2,3,4,5,6,7,8,9,11] rfl rfl)).pick [0,2,3,4,5,6,7,8,9,10,1,11] rfl rfl) rfl rfl⟩
  focus
   have t2:=of_decide_eq_false t2
 rotate_left
 focus
  apply hq';refine dU rfl ?_
 all_goals
  have eR:R.take i=R:=by rw[hRd];exact iF _ om
  rw[eR] at hGR;obtain⟨hGP,hOI,hOD,hGC⟩:=hGI;have hdl:RB [.hp HP,.hp oP.h,.hp oI.h,.hp oD.h,.hp HC,.hp oC.h,.hp HR,.hp oR.h]:=by
   obtain⟨w0,w1,hok⟩:=hsat;exact (hok.pick [0,4,5,6,7,8,9,10,11] rfl rfl).djL
  have eK:D4 k=⟨nm,P,I,D,C,R⟩:=by
   rw[hnm2,hRd,hCd,hDd,hId,hPd];rfl
  rw[eK];refine m9 λq' hq'=>?_;apply hq';exact⟨[.hp (joinL [.hp HP,.hp oP.h,.hp oI.h,.hp oD.h,.hp HC,.hp oC.h,.hp HR,.hp oR.h])],⟨_,_,rfl,rfl,rfl,⟨oP.a,oP.n,oP.c,oI.a,oI.n,oI.c,oD.a,oD.n,oD.c,oC.a,oC.n,oC.c,oR.a,oR.n,oR.c,rfl,hGP.sl J0 dc (H0 hdl (i:=0) rfl) (H0 hdl (i:=1) rfl),(w5.sl (f:=fF) (λ_=>rfl) dc hOI).mono (j7 _) (H0 hdl (i:=2) rfl),(w5.sl (f:=P2) (λ_=>rfl) dc hOD).mono (j7 _) (H0 hdl (i:=3) rfl),hGC.sl V5 dc (H0 hdl (i:=4) rfl) (H0 hdl (i:=5) rfl),hGR.sl (O2 4) dc (H0 hdl (i:=6) rfl) (H0 hdl (i:=7) rfl)⟩⟩,λw' h=>(h.pick [0,4,5,6,7,8,9,10,11] rfl rfl).joinL⟩
end Go.Proofs.YtpjhmeicbjkcdaaGreatDoor
namespace Go.Proofs.YtpjhmeicbjkcdaaGreatDoor
open Go Go.RowKit Go.Dw
theorem EB {n:Nat} {l:Q4} (h:l.1.natAbs < 1000/\l.2.1.natAbs < 1000/\l.2.2.1.natAbs < 1000/\l.2.2.2.natAbs < 1000):LR (Z5 n l):=by
 obtain⟨_,h1,h2,h3⟩:=GN (n:=n) h;exact⟨om,om,λt ht=>by have:=(h3 t ht).1;omega⟩
theorem DP (n:Nat) :∀(d:Nat) (l:List Nat),(∀x∈l,x < 256)->RA (R5 n d l).1
 | 0,l,_=>.mk (EB (PW l)) dc dc nofun
 | d+1,l,h=>by
  by_cases hl:l = []\/l.getD 0 0 % 6=0
  ·rw[tS n (by rcases hl with h | h;exact .inl h;exact .inr (.inr h))];exact .mk (EB (PW l)) dc dc nofun
  ·rw[JF n d (λe=>hl (.inl e)) (λe=>hl (.inr e))];have hx:l.getD 0 0 < 256:=by
    rw[e8];cases e:l[0]? with
    | none=>decide
    | some y=>exact h y (eE e)
   have hm:(if l.getD 0 0 % 6=2\/l.getD 0 0 % 6=5 then 1 else 1+l.getD 0 0 / 6 % 2)<=2:=by
    split
    ·decide
    ·have:=A6 (l.getD 0 0 / 6) (show 0 < 2 by decide);omega
   refine .mk ⟨dc,dc,nofun⟩ ?_ (by rw[tU];omega) ?_
   ·split
    ·have:=mW (z:=((l.getD 0 0:Nat):Int) - 100) (k:=3) dc om;omega
    ·decide
   ·have key :∀i,∀y∈(cJ n d (l.drop 1) i).1,RA y:=by
     intro i;induction i with
     | zero=>exact nofun
     | succ i ih=>
      intro y hy;have hy:y∈(cJ n d (l.drop 1) i).1++[(R5 n d (cJ n d (l.drop 1) i).2).1]:=hy;rcases y8.1 hy with h' | h'
      ·exact ih y h'
      ·rw[v6] at h';subst h';exact DP n d _ (λx hx=>h x (A8 (tT n d _ i x hx)))
    exact key _
theorem IJ {k:UI} (g:HF k):Ek (D4 k):=by
 have hG:=AH (FI g);refine⟨?_,by have:=hG.gp.1;omega,by have:=hG.gi.1;omega,by have:=hG.gd.1;omega,by have:=hG.gc.1;omega,by have:=hG.gr.1;omega,?_,?_,?_,?_⟩
 ·have:=(dO (kind:=112) dc (i:=k.nm % 5) om k.nm).2;show (gP 112 (k.nm % 5) k.nm).length < 1000000
  omega
 ·intro x hx;obtain⟨i,hi,rfl⟩:=sN hx;have:=(hG.gp.2 i hi).1;exact⟨by have:=this.c;omega,λc hc=>by have:=(this.v c hc).1;omega⟩
 ·intro x hx;obtain⟨i,hi,rfl⟩:=sN hx;obtain⟨s1,s2,s3⟩:=(hG.gi.2 i hi).1.s;exact⟨by have:=N8 s1;omega,by have:=N8 s2;omega,by have:=N8 s3;omega⟩
 ·intro x hx;obtain⟨i,hi,rfl⟩:=sN hx;have hF:=(hG.gc.2 i hi).1.2;have hc:=N8 hF.c;refine⟨om,by have:=hF.l;omega,λt ht=>?_⟩;obtain⟨j,hj,rfl⟩:=sN ht;have:=hF.t j hj;unfold zN at this;dsimp only at this;split at this
  ·exact absurd this dc
  ·split at this
   ·exact absurd this dc
   ·split at this
    ·rename_i h1;exact absurd this h1
    ·rename_i h1
     have h2:=N8 (B9.1 h1);rw[e8,i7 hj] at h2;exact p8 h2 dc
 ·intro x hx;obtain⟨i,y,rfl,_,hy⟩:=mU hx;refine⟨DP _ 3 y (g.g y hy),?_,?_⟩
  ·show (if y.length % 2=0 then [45,55,47,50] else []).length < 1000000
   split <;> decide
  ·show (if y.length % 3=0 then [49,49] else []).length < 1000000
   split <;> decide
end Go.Proofs.YtpjhmeicbjkcdaaGreatDoor
namespace Go.Proofs.YtpjhmeicbjkcdaaGreatDoor
open Go Go.RowKit Go.Dw
theorem VS {k:UI} (g:HF k):SA (D4 k)=(gH (D4 k),0)/\8<=(gH (D4 k)).length/\(gH (D4 k)).length<=7000:=by
 have hl:=VP g;refine⟨?_,?_,hl⟩
 ·unfold SA;rw[if_neg (λc=>c (FI g)),if_neg om]
 ·unfold gH;simp only[d6,d7,i6];omega
theorem WJ {k:UI} (g:HF k) {cs:List Value} (w:World) (hp:vX 4 (Hp.whole w) (D4 k) cs) (hT:dY (Hp.whole w)) :
  j2 Tryz.prog 13 #[.agg cs.toArray] w (v8 w (.tuple #[sv (gH (D4 k)),iQ 0])):=by
 have h:=BW w hp (IJ g) hT;rw[(VS g).1] at h;exact h
end Go.Proofs.YtpjhmeicbjkcdaaGreatDoor
namespace Go.Proofs.YtpjhmeicbjkcdaaGreatDoor
open Go Go.RowKit Go.Dw
theorem vX.le {d e:Nat} (hde:d<=e) {h:Hp} {p:kR} {cs:List Value} (hp:vX d h p cs):vX e h p cs:=by
 obtain⟨a1,n1,c1,a2,n2,c2,a3,n3,c3,a4,n4,c4,a5,n5,c5,e,h1,h2,h3,h4,h5⟩:=hp.ex;exact⟨a1,n1,c1,a2,n2,c2,a3,n3,c3,a4,n4,c4,a5,n5,c5,e,h1,h2,h3,h4,Tt (λ_ _ ⟨xs,h6,h7⟩=>⟨xs,h6,To hde h7⟩) h5⟩
set_option maxRecDepth 10000 in
theorem Sp {k:UI} (g:HF k) {cs:List Value} (w:World) (hS:OG (Hp.whole w) k cs) (hT:uT (Hp.whole w)) (hP:dY (Hp.whole w)) :
  j2 Tryz.prog 8 #[.agg cs.toArray] w (v8 w (.bool true)):=by
 have hS0:=hS;have hlaw:=So g;have hsh:=IJ g;have hpr:=(VS g).1;obtain⟨A1,N1,C1,A2,N2,C2,A3,N3,C3,A4,N4,C4,A5,N5,C5,rfl,_⟩:=hS.ex;refine enterZ (cx 65) [.agg #[.int .u8 k.nm,.slice A1 N1 C1,.slice A2 N2 C2,.slice A3 N3 C3,.slice A4 N4 C4,.slice A5 N5 C5]] [.tmp 2] Tryz.func8 ?_;intro b1;refine m9 (λ_ kz=>kz _ _ ?_);refine m9 λq' hq'=>?_;refine k7 _ (λw' hm=>GO w' (hT.mono (hm 0 _ rfl).whole) (hP.mono (hm 0 _ rfl).whole)) ?_;apply hq';refine dU rfl ?_;refine m9 λq' hq'=>?_;refine call (λw' hm=>HJ g w' (hS0.mono (hm 0 _ rfl).whole) (hP.mono (hm 0 _ rfl).whole)) ?_;rintro _ _ ⟨H,xs,rfl,rfl,_,hp⟩;obtain⟨a1,n1,c1,a2,n2,c2,a3,n3,c3,a4,n4,c4,a5,n5,c5,rfl,_⟩:=tO hp;intro b3;apply hq';refine nQ [.hp (Hp.whole w),.box b1 [.int .u8 k.nm,.slice A1 N1 C1,.slice A2 N2 C2,.slice A3 N3 C3,.slice A4 N4 C4,.slice A5 N5 C5] 61,.hp H,.box b3 [sv (D4 k).nm,.slice a1 n1 c1,.slice a2 n2 c2,.slice a3 n3 c3,.slice a4 n4 c4,.slice a5 n5 c5] 30] λq' hq'=>?_;refine k7 _ (λw' hm=>WJ g w' (hp.mono (hm 2 _ rfl).whole) (hP.mono (hm 0 _ rfl).whole)) ?_;have hPe:jA (gH (D4 k))=(D4 k,0,0,0):=by
  unfold jA;rw[if_neg (λc=>c hlaw.1),hlaw.2]
 have hFe:Sc (gH (D4 k))=(gH (D4 k),0,0,0):=by
  unfold Sc;rw[if_neg (λc=>c hlaw.1),hlaw.2,hpr]
 have hPa:=λ(w':World) (hm:(Hp.whole w).In w')=>sG (gH (D4 k)) w' (hT.mono hm.whole);have hFo:=λ(w':World) (hm:(Hp.whole w).In w')=>Sn (gH (D4 k)) w' (hT.mono hm.whole) (hP.mono hm.whole) (λ_=>hlaw.2.symm ▸ hsh);rw[hPe] at hPa;rw[hFe] at hFo;generalize gH (D4 k)=T at hPa hFo ⊢;dsimp only at hPa hFo;apply hq';refine m9 λq' hq'=>?_;refine call (λw' hm=>hPa w' (hm 0 _ rfl)) ?_;rintro _ _ ⟨H2,ys,rfl,rfl,_,hp2⟩;obtain⟨u1,m1,e1,u2,m2,e2,u3,m3,e3,u4,m4,e4,u5,m5,e5,rfl,_⟩:=tO hp2;intro b6;apply hq';refine nQ [.hp (Hp.whole w),.box b1 [.int .u8 k.nm,.slice A1 N1 C1,.slice A2 N2 C2,.slice A3 N3 C3,.slice A4 N4 C4,.slice A5 N5 C5] 61,.hp H,.box b3 [sv (D4 k).nm,.slice a1 n1 c1,.slice a2 n2 c2,.slice a3 n3 c3,.slice a4 n4 c4,.slice a5 n5 c5] 30,.hp H2,.box b6 [sv (D4 k).nm,.slice u1 m1 e1,.slice u2 m2 e2,.slice u3 m3 e3,.slice u4 m4 e4,.slice u5 m5 e5] 30] λq' hq'=>?_;refine call (λw' hm=>hFo w' (hm 0 _ rfl)) ?_;rintro _ _ ⟨H3,rfl,rfl⟩;apply hq';have cE:=λ(w':World) (h1:vX 4 (Hp.whole w') (D4 k) [sv (D4 k).nm,.slice a1 n1 c1,.slice a2 n2 c2,.slice a3 n3 c3,.slice a4 n4 c4,.slice a5 n5 c5]) (h2:vX 9 (Hp.whole w') (D4 k) [sv (D4 k).nm,.slice u1 m1 e1,.slice u2 m2 e2,.slice u3 m3 e3,.slice u4 m4 e4,.slice u5 m5 e5])=>Qc w' (h1.le (by decide:4<=9)) h2 hsh;rw[decide_eq_true rfl] at cE;refine m9 λq' hq'=>?_;refine k7 _ (λw' hm=>cE w' (hp.mono (hm 2 _ rfl).whole) (hp2.mono (hm 4 _ rfl).whole)) ?_;refine dL ?_;apply hq';exact⟨[],⟨congrArg Value.bool (decide_eq_true rfl),rfl⟩,pk [0]⟩
end Go.Proofs.YtpjhmeicbjkcdaaGreatDoor
namespace Go.Proofs.YtpjhmeicbjkcdaaGreatDoor
open Go Go.RowKit Go.Dw
theorem Ti (f:Nat->d8) {T:d8} {i:Nat} (h:i < T.length):Rq f 0 (T.take (i+1))=Rq f 0 (T.take i)++(if T[i]=32 then f i else [T[i]]):=by
 rw[Y6 h,Sf];show _++((if T[i]=32 then f (0+(T.take i).length) else [T[i]])++[])=_
 rw[k8,w7,j1,T6 om]
theorem Tz (f:Nat->Nat) (T:d8) (i:Nat):(Rq (λi=>Rn (f i % 4)) 0 (T.take i)).length<=9*T.length:=by
 have h2:=Se (λi=>Rn (f i % 4)) 9 dc (λi=>Sb _) (T.take i) 0;have:(T.take i).length<=T.length:=by rw[j1];omega
 omega
theorem Tq {j:Nat} (hj:j < 4):[Value.string (bs [32]),sv [10],sv [32,32],sv [32,35,32,59,32,125,32,34,10]][j]?=some (sv (Rn j)):=by
 match j,hj with
 | 0,_=>rfl
 | 1,_=>rfl
 | 2,_=>rfl
 | 3,_=>rfl
set_option maxRecDepth 10000 in
theorem Uc {k:UI} (g:HF k) {cs:List Value} {L:List Nat} {a:Option Addr} {m c:Nat} (w:World) (hS:OG (Hp.whole w) k cs) (hT:uT (Hp.whole w)) (hP:dY (Hp.whole w)) (hL:Sl (E0 QI) 1 (Hp.whole w) a m c L) (hlt :∀x∈L,x < 256) (hcap:L.length < 9223372036854775808) :
  j2 Tryz.prog 6 #[.agg cs.toArray,.slice a m c] w (v8 w (.bool true)):=by
 have hS0:=hS;have hm:=hL.len;have hsh:=IJ g;obtain⟨A1,N1,C1,A2,N2,C2,A3,N3,C3,A4,N4,C4,A5,N5,C5,rfl,_⟩:=hS.ex;refine enterZ (cx 78) [.agg #[.int .u8 k.nm,.slice A1 N1 C1,.slice A2 N2 C2,.slice A3 N3 C3,.slice A4 N4 C4,.slice A5 N5 C5],.slice a m c] [.tmp 4] Tryz.func6 ?_;intro b2;refine m9 (λ_ kz=>kz _ _ ?_);refine m9 λq' hq'=>?_;refine k7 _ (λw' hm=>GO w' (hT.mono (hm 0 _ rfl).whole) (hP.mono (hm 0 _ rfl).whole)) ?_;apply hq';refine K9 (by rfl) (λs1=>?_) λs1=>?_
 ·refine k7 _ (λw' hm=>GO w' (hT.mono (hm 0 _ rfl).whole) (hP.mono (hm 0 _ rfl).whole)) ?_;exact⟨[],⟨rfl,rfl⟩,pk [0]⟩
 have s1 : ¬ ((m:Int)=0):=of_decide_eq_false s1;refine m9 λq' hq'=>?_;refine call (λw' hm=>HJ g w' (hS0.mono (hm 0 _ rfl).whole) (hP.mono (hm 0 _ rfl).whole)) ?_;rintro _ _ ⟨H,xs,rfl,rfl,_,hp⟩;obtain⟨a1,n1,c1,a2,n2,c2,a3,n3,c3,a4,n4,c4,a5,n5,c5,rfl,_⟩:=tO hp;intro b5;apply hq';refine nQ [.hp (Hp.whole w),.box b2 [.int .u8 k.nm,.slice A1 N1 C1,.slice A2 N2 C2,.slice A3 N3 C3,.slice A4 N4 C4,.slice A5 N5 C5] 61,.hp H,.box b5 [sv (D4 k).nm,.slice a1 n1 c1,.slice a2 n2 c2,.slice a3 n3 c3,.slice a4 n4 c4,.slice a5 n5 c5] 30] λq' hq'=>?_;refine k7 _ (λw' hm=>WJ g w' (hp.mono (hm 2 _ rfl).whole) (hP.mono (hm 0 _ rfl).whole)) ?_;have hhi:=(VS g).2.2;obtain⟨f,hf⟩ :∃f:Nat->Nat,f=λi=>L.getD (i % L.length) 0:=⟨_,rfl⟩
 have hlaw:=Tb g f;have hPe:jA (Rq (λi=>Rn (f i % 4)) 0 (gH (D4 k))++Ri)=(D4 k,0,0,0):=by
  unfold jA;rw[if_neg (λc=>c hlaw.1),hlaw.2]
 have hPa:=λ(w':World) (hm:(Hp.whole w).In w')=>sG (Rq (λi=>Rn (f i % 4)) 0 (gH (D4 k))++Ri) w' (hT.mono hm.whole);rw[hPe] at hPa;clear hPe hlaw;generalize gH (D4 k)=T at hPa hhi ⊢;dsimp only at hPa;have hTs:=C8 T;apply hq';(iterate 2 refine m9 (λ_ kz=>kz _ _ ?_));refine z6.mk Nat (λi=>[(1,.v (.slice a m c)),(5,.bx 3 0),(6,.v (sv T)),(7,.v (iQ 0)),(8,.v (sv (Rq (λi=>Rn (f i % 4)) 0 (T.take i)))),(9,.v (iQ i))]) (λ_=>[.hp (Hp.whole w),.box b2 [.int .u8 k.nm,.slice A1 N1 C1,.slice A2 N2 C2,.slice A3 N3 C3,.slice A4 N4 C4,.slice A5 N5 C5] 61,.hp H,.box b5 [sv (D4 k).nm,.slice a1 n1 c1,.slice a2 n2 c2,.slice a3 n3 c3,.slice a4 n4 c4,.slice a5 n5 c5] 30]) (λi=>i<=T.length) (λi=>T.length - i) 0 (j0 _) (y6.mk (λ_ _ h=>h) rfl rfl) ?_;rintro i hi;have hbd:=Tz f T i;refine m9 λq' hq'=>?_;apply hq';refine K9 (by rfl) (λs2=>?_) λs2=>?_
 ·have s2:=of_decide_eq_true s2;have hiT:i < T.length:=om
  have hst:=Ti (λi=>Rn (f i % 4)) hiT;refine m9 λq' hq'=>?_;refine aB cQ (S:=9) rfl rfl i rfl hiT ?_;rw[e8,i7 hiT,Option.getD_some];apply hq';refine K9 (by rfl) (λs3=>?_) λs3=>?_
  ·have s3:=of_decide_eq_true s3;have e32:T[i]=32:=UInt8.toNat_inj.1 (by show T[i].toNat=32;omega);rw[if_pos e32] at hst;have hj:i % L.length < L.length:=A6 _ om;have hx:=hlt L[i % L.length] (j5 hj);have hfi:f i=L[i % L.length]:=by rw[hf];dsimp only;rw[e8,i7 hj,Option.getD_some]
   have hk4:f i % 4 < 4:=A6 _ dc;have hl4:=Sb (f i % 4);refine m9 λq' hq'=>?_;intro b40;refine gF i m (i % L.length) rfl om om (by rw[hm]) ?_;refine R2 cQ (e:=5) rfl (hL) (i % L.length) rfl hj λb9 o9 cs hcs hR hcell=>?_;subst hR;refine lQ 0 (hcell 0 _ rfl) ?_;refine gF L[i % L.length] 4 (f i % 4) rfl rfl dc (by rw[hfi]) ?_;refine dC cQ (e:=9) rfl rfl (f i % 4) (f i % 4) rfl hk4 om ?_;refine xU cQ (i:=4) rfl (Tq hk4) rfl ?_;refine gG (ty:=9) om ?_;apply hq';refine nwo ?_;exact⟨i+1,hiT,om,y6.mk (pj [0,1,2,3]) (by rw[hst];rfl) rfl⟩
  ·have s3:=of_decide_eq_false s3;have e32:T[i]≠32:=λc=>s3 (by rw[c];rfl);rw[if_neg e32] at hst;refine m9 λq' hq'=>?_;refine nwo ?_;refine nN cQ (S:=9) rfl rfl i (i+1) (.inr ⟨_,_,rfl,rfl⟩) (.inr ⟨_,_,rfl,rfl⟩) om om ?_;have e1:(T.take (i+1)).drop i = [T[i]]:=by
    rw[Y6 hiT,List.drop_append_of_le_length (by rw[j1];omega),J2 (by rw[j1];omega),I4]
   rw[e1];refine gG (ty:=9) (by rw[p7];omega) ?_;apply hq';refine nwo ?_;exact⟨i+1,hiT,om,y6.mk (λ_ _ h=>h) (by rw[hst];rfl) rfl⟩
 ·have s2:=of_decide_eq_false s2;have e1:i=T.length:=om
  subst e1;rw[q8] at hbd ⊢;refine m9 λq' hq'=>?_;refine gG (ty:=9) (b:=Ri) (by rw[show Ri.length=5 from rfl];omega) ?_;refine call (λw' hm=>hPa w' (hm 0 _ rfl)) ?_;rintro _ _ ⟨H2,ys,rfl,rfl,_,hp2⟩;obtain⟨u1,m1,e1,u2,m2,e2,u3,m3,e3,u4,m4,e4,u5,m5,e5,rfl,_⟩:=tO hp2;intro b10;apply hq';have cE:=λ(w':World) (h1:vX 4 (Hp.whole w') (D4 k) [sv (D4 k).nm,.slice a1 n1 c1,.slice a2 n2 c2,.slice a3 n3 c3,.slice a4 n4 c4,.slice a5 n5 c5]) (h2:vX 9 (Hp.whole w') (D4 k) [sv (D4 k).nm,.slice u1 m1 e1,.slice u2 m2 e2,.slice u3 m3 e3,.slice u4 m4 e4,.slice u5 m5 e5])=>Qc w' (h1.le (by decide:4<=9)) h2 hsh;refine m9 λq' hq'=>?_;refine k7 _ (λw' hm=>cE w' (hp.mono (hm 2 _ rfl).whole) (hp2.mono (hm 4 _ rfl).whole)) ?_;apply hq';exact⟨[],⟨congrArg Value.bool (decide_eq_true rfl),rfl⟩,pk [0]⟩
end Go.Proofs.YtpjhmeicbjkcdaaGreatDoor
namespace Go.Proofs.YtpjhmeicbjkcdaaGreatDoor
open Go Go.RowKit Go.Dw Go.ChangeShapes Go.WideShapes Go.ChangeAt
set_option maxRecDepth 100000 in
theorem Px (os:Os) (started:os.Started) (H:Type) (enc:TypeId×Value->H) :
  ReturnsInHanded {} Tryz.checked os 6 .any (λw args=>(Rows.documentBlanksSpec.pre enc Tryz.prog Tryz.f6 [] false w args/\laidMetH Tryz.prog kZ w)/\sizedMet enc Tryz.prog Tryz.f6 (OpenSpec.ofChange Rows.documentBlanksSpec) false w args)
   (Rows.documentBlanksSpec.post enc Tryz.prog Tryz.f6 false true false false):=by
 refine returnsInHanded_of_change_and (C:=Tryz.checked) (X:=λw _=>laidMetH Tryz.prog kZ w) (λ_ _ _ hh h=>h.of_heap hh) own started kr Tryz.func6
  (ChangeSpec.witness_shaped (enc:=enc) (C:=Tryz.checked) (os:=os) (X:=λw _=>laidMetH Tryz.prog kZ w) false (World.laidAll Tryz.prog os kZ) #[.agg #[.int .u8 0,zl,zl,zl,zl,zl],zl] 8 (World.laidAll_os _ _ _)
   (SP os _) kr kr kr (Hk os _)) ?_
 intro W base args ds gs before hval0 hW _ _ hL _;have hval :∀(j:Nat) t v,Tryz.f6.params[j]?=some t->args[j]?=some v->Value.okWide Tryz.prog W .any base t v:=hval0;have hW':=hW;obtain⟨p,q,hA0,hV,rfl,hfz,hnd⟩:=hW;have hA:DataW.TrodAll enc Tryz.prog W 0 (λ_=>true) true Tryz.f6.params.toList args.toList ds p:=hA0;rw[Tryz.params6] at hA hval;obtain⟨v0,v1,d0,d1,p0,p1,rfl,rfl,rfl,h0,h1⟩:=trodAll_two hA;obtain⟨k0,cs0,rfl,g0,hS0⟩:=Gy (hval 0 _ v0 rfl rfl) h0;obtain⟨L1,a1,m1,c1,rfl,hL1,hb1,hc1⟩:=Uh (hval 1 _ v1 rfl rfl) h1;exact XX rfl kr kr hW' rfl rfl rfl (Uc g0 W hS0 (FD hL) (FE hL) hL1 hb1 hc1)
theorem Qe:Rows.DocumentBlanksSaid:=
 OpenClaim.holds_of_wide 6 Tryz.f6 rfl rfl rfl rfl rfl rfl rfl ⟨rfl,rfl,rfl,rfl,rfl⟩ rfl rfl rfl rfl rfl kr Tryz.func6 documentBlanks_facts
  (of_decide_eq_true kr) (by unfold Func.isWrapper;first | (rw[if_pos (by decide +kernel)];kernel_rfl) | (rw[if_neg (by decide +kernel)];exact⟨rfl,rfl⟩))
  (λos started H enc _=>Px os started H enc)
theorem documentBlanks_holds:Rows.DocumentBlanksCardSaid:=
 Claim7.holds_tied_plain_at .later [] [.data,.data,.data,.data,.sentinel,.sentinel,.listed,.data,.pinned] true (true,"5524b49a99c14b84714612f17c4273e75e7ba66b67a78b9d8144231c70c6d12f") true
  Qe (λ_ h=>by cases h) kr (λ_ h=>by cases h) documentBlanks_row_tie rfl ⟨rfl,rfl⟩ kr rfl
  (λf fn hf hfn=>by
   obtain rfl:f=6:=M0 ((show Tryz.prog.funcNamed "dowel/dowellaw36.DocumentBlanks" = some 6 by kernel_rfl).symm.trans hf) |>.symm
   obtain rfl:fn=Tryz.f6:=(M0 (Tryz.func6.symm.trans hfn)).symm;exact⟨kr,λj t ht=>by
    rw[Tryz.params6] at ht;have hm:t∈[61,68]:=by simpa using Array.mem_of_getElem? ht
    have hall:([61,68].all λu=>!Tryz.prog.wantsStandIn u)=true:=kr
    exact (show Tryz.prog.wantsStandIn t=false by simpa using s7.1 hall t hm)⟩)
  documentBlanks_goes.symm
end Go.Proofs.YtpjhmeicbjkcdaaGreatDoor
