/- Parts of one proof, joined. No condition of its own. -/
import Derived.Test.YtpjhmeicbjkcdaaGreatDoorZa1
import Derived.LaidMore
import Derived.OpenShut
import Derived.Stop.Joined
import Derived.MakeChecks
import Derived.LaidSub
import Derived.Lay
import Derived.LaidOnce
import Derived.ChangeMaps5
import Derived.Test.YtpjhmeicbjkcdaaGreatDoorTie
import Derived.Test.YtpjhmeicbjkcdaaGreatDoorCards
import Derived.Test.YtpjhmeicbjkcdaaGreatDoorVh
open Bool renaming and_eq_true->k6,and_true->Nf,or_eq_true->U8,and_false->uV,not_eq_true'->Z7
open Classical renaming not_not->l9,byContradiction->j9
open Int renaming mul_ediv_cancel_left->Nd,fdiv_eq_ediv_of_nonneg->Lv,natCast_ediv->Fx,eq_ofNat_of_zero_le->aS
open List renaming length_map->l7,length_append->d6,length_cons->d7,length_nil->d9,getElem?_append_left->Y0,getElem?_append_right->N0,getElem?_eq_some_iff->q9,mem_cons->A8,all_append->qE,all_eq_true->z6,flatten_cons->w5,intercalate->mW,length_replicate->O9,length_singleton->w7,mem_map->G6,replicate->p7,length_eq_zero_iff->M0,append_assoc->o6,any_eq_false->J8,any_eq_true->E6,append_nil->p8,length_range->L9,map_append->E9,range->z8,getD_eq_getElem?_getD->i7,getElem?_eq_getElem->i6,getElem_mem->j0,mem_of_mem_drop->E8,take_of_length_le->u7,length_take->j8,take_succ_eq_append_getElem->L8,getElem?_cons_succ->aR,getElem?_cons_zero->aQ,getElem?_drop->bV,getElem?_map->G7,getElem?_range->qH,getElem?_take_of_lt->Na,mem_iff_getElem->Q1,length_pos_iff->G2,take_zero->R1,getElem_of_mem->qG,mem_append->G1,mem_of_getElem?->MX,mem_singleton->E2
open List.cons renaming injEq->FK
open Nat renaming le_refl->k8,lt_of_le_of_lt->s7,zero_le->f8,add_sub_cancel_left->BS,add_assoc->nX,add_mul->D9,div_add_mod->qD,div_le_self->D7,le_trans->v8,mod_eq_of_lt->C9,mod_lt->C8,mul_add->B9,mul_assoc->A0,mul_comm->q8,mul_le_mul_right->y9,pos_of_ne_zero->F8,pow_add->iO,zero_add->y8,zero_mul->Z4,gcd->I5,gcd_dvd_left->BR,gcd_pos_of_pos_right->gM,le_of_dvd->SQ,eq_zero_or_pos->w6,mul_div_cancel_left->Ni,mul_one->E3,one_mul->P9,pow_le_pow_right->I4,ble->R0,eq_of_beq_eq_true->J4,le_max_left->Y6,le_max_right->W4,le_of_ble_eq_true->E0,le_of_succ_le_succ->E1,max->tI,two_pow_pos->cA,min_eq_left->Y5,add_zero->G3,add_comm->V9
open Option renaming bind_eq_some_iff->Nh
open Option.some renaming inj->Y4,injEq->m9
namespace Go.Proofs.YtpjhmeicbjkcdaaGreatDoor
open Go Go.RowKit Go.Dw
theorem fE (s:e8) (hs:s.length < 1000000) (w:World) :
  j6 Tryz.prog 175 #[sv s] w (fD w λv cs=>∃g,cs = [.hp g]/\FG 65536 s g v):=by
 refine enterZ (cx 8) [sv s] [.cell 2 141,.tmp 3] Tryz.func175 ?_;intro b2;refine call (λw' hm=>CE s 65536 dc hs w') ?_;rintro _ _ ⟨g,rfl,n1,a1,k1,c1,a2,k2,c2,x,y,rfl,hr⟩;exact⟨[.hp g],⟨g,rfl,n1,a1,k1,c1,a2,k2,c2,x,y,rfl,hr⟩,pk [0,2]⟩
theorem eW {s:e8} {g:Hp} {v:Value} (h:FG 65536 s g v) (hn:I7 s=0) :∃r,v=.tuple #[.agg (fR r).toArray,iQ 0]/\SI s g r:=by
 have h2:FG 400 s g v:=by
  have e:bB 400 s=0:=hn;unfold FG at h ⊢;rw[KH hn] at h;rw[e];exact h
 obtain⟨r,h3,h4⟩:=NP h2 hn;rw[hn] at h3;exact⟨r,h3,h4⟩
set_option maxHeartbeats 4000000 in
set_option maxRecDepth 10000 in
theorem oZ {k h:Hp} {rb b kk dd:Nat} {r:RS} {a:Option Addr} {n c:Nat} {L:List kV} {ad:Option Addr} {nd cd:Nat} {DD:List S1} (w:World) (hin:((KJ rb b kk ad nd cd).h.join h).In w) (hdj:(KJ rb b kk ad nd cd).h.dj h) (hk:k.le ((Hp.whole w).minus ((KJ rb b kk ad nd cd).h.join h))) (hR:G9 k h b r) (hg:Y3 r)
  (hL:Sl (jJ dd) 8 ((Hp.whole w).minus ((KJ rb b kk ad nd cd).h.join h)) a n c L) (hn:L.length < 1000000) (hD:Sl (B0 O1) 4 ((Hp.whole w).minus ((KJ rb b kk ad nd cd).h.join h)) ad nd cd DD) (hdn:DD.length < 1000000) :
  j6 Tryz.prog 84 #[pQ rb,.slice a n c] w (O6 w ((KJ rb b kk ad nd cd).h.join h) λv h' cs=>∃ys H,cs = [.box rb ys 155,.hp H]/\((∃xs,v=.agg xs.toArray/\xs.length=8/\jJ 9 H (rH (L.map λx:kV=>x.1) (DD.map λx:S1=>x.1) r).2 xs)/\(∃kk',ys=J1 b kk' ad nd cd)/\G9 k h' b (rH (L.map λx:kV=>x.1) (DD.map λx:S1=>x.1) r).1)):=by
 have hlen:=hL.len;have ok0:=Ok.startB hin hdj;refine enterMSZ (cx 95) [pQ rb,.slice a n c] ok0 [.cell 4 74] Tryz.func84 ?_;obtain⟨c0,hc0⟩ :∃c0,c0=(Hp.whole w).minus ((KJ rb b kk ad nd cd).h.join h):=⟨_,rfl⟩
 rw[<-hc0] at hk hD hL ⊢;obtain⟨names,hnames⟩ :∃l,l=L.map λx:kV=>x.1:=⟨_,rfl⟩
 rw[<-hnames];have hnl:n=names.length:=by rw[hnames,l7];exact hlen
 obtain⟨dims,hdims⟩ :∃l,l=DD.map λx:S1=>x.1:=⟨_,rfl⟩
 rw[<-hdims];intro b3 b4;refine o7 λq' hq'=>?_;apply hq';refine nQ [.hp c0,.hp h,.box rb (J1 b (kk) ad nd cd) 155,.box b3 [.slice a n c] 28,.box b4 [zs,iQ 0,zs,zl,zs,zl,zs,zs] 74] λq' hq'=>?_;refine l6 (i:=1) rfl (λw0 w' hok=>N9 (n:=names.length) (m:=64) (by rw[hnl]) rfl w' (hok.mem 1 _ rfl) (DR.mk (hk.trans (hok.le01 rfl rfl)) hR (hok.bx1 (j:=2) (n:=0) rfl rfl dc rfl))) ?_;rintro _ h1 _ ⟨rfl,hR1⟩;have hR1:G9 k h1 b (J2 (r) names.length 64):=hR1;apply hq';refine nQ [.hp c0,.hp h1,.box rb (J1 b (kk) ad nd cd) 155,.box b3 [.slice a n c] 28,.box b4 [zs,iQ 0,zs,zl,zs,zl,zs,zs] 74] λq' hq'=>?_;refine lR 2 0 ?_;refine l6 (i:=1) rfl (λw0 w' hok=>m6 w' (hok.mem 1 _ rfl) (hok.kle rfl rfl hk) hR1) ?_;rintro _ h2 _ ⟨rfl,hR2⟩;have hR2:G9 k h2 b (x8 (J2 (r) names.length 64) qN):=hR2;obtain⟨r2,er2⟩ :∃x,x=x8 (J2 (r) names.length 64) qN:=⟨_,rfl⟩
 rw[<-er2] at hR2;apply hq';refine nQ [.hp c0,.hp h2,.box rb (J1 b (kk) ad nd cd) 155,.box b3 [.slice a n c] 28,.box b4 [zs,iQ 0,zs,zl,zs,zl,zs,zs] 74] λq' hq'=>?_;refine call (λw' hm=>V7 _ _ _ w') ?_;rintro _ _ ⟨b5,b6,rfl,rfl⟩;refine l6 (i:=1) rfl (λw0 w' hok=>P8 (cap:=[pQ b5,pQ b6]) (chk:=dY names) w' (hok.mem 1 _ rfl) (DR.mk (hk.trans (hok.le01 rfl rfl)) hR2 (hok.bx1 (j:=2) (n:=0) rfl rfl dc rfl)) (λw1 hi1 s _=>T5 (cap:=[pQ b3]) s w1 om (by rw[<-hnl];exact hi1.whole.cell (hok.bx1 (j:=5) (n:=0) rfl rfl dc rfl)) (hi1.whole.cell (hok.bx1 (j:=6) (n:=0) rfl rfl dc rfl)) (λw2 hi2 i hi=>by
   have hle:c0.le (Hp.whole w2):=((hok.le01 rfl rfl).trans hi1.whole).trans hi2.whole;subst hnames;exact GI (L:=L) i w2 ((hi1.whole.trans hi2.whole).cell (hok.bx1 (j:=3) (n:=0) rfl rfl dc rfl)) (hL.mono (M8 _) hle) hi))) ?_
 rintro _ h3 _ ⟨rfl,rfl,hR3⟩;obtain⟨A,hA⟩ :∃x,x=P2 r2 (dY names):=⟨_,rfl⟩
 rw[<-hA] at hR3 ⊢;intro b7;apply hq';refine nQ [.hp c0,.hp h3,.box rb (J1 b (kk) ad nd cd) 155,.box b3 [.slice a n c] 28,.box b4 [zs,iQ 0,zs,zl,zs,zl,zs,zs] 74,.box b5 [iQ n] 3,.box b6 [.func (.func 173) #[] #[pQ b3]] 110,.box b7 [sv A.2,iQ 0,zs,zl,zs,zl,zs,zs] 74] λq' hq'=>?_;refine lR 2 0 ?_;refine l6 (i:=1) rfl (λw0 w' hok=>m6 w' (hok.mem 1 _ rfl) (hok.kle rfl rfl hk) hR3) ?_;rintro _ h4 _ ⟨rfl,hR4⟩;have hR4:G9 k h4 b (x8 A.1 [58]):=hR4;obtain⟨r4,er4⟩ :∃x,x=x8 A.1 [58]:=⟨_,rfl⟩
 rw[<-er4] at hR4;apply hq';refine nQ [.hp c0,.hp h4,.box rb (J1 b (kk) ad nd cd) 155,.box b3 [.slice a n c] 28,.box b4 [zs,iQ 0,zs,zl,zs,zl,zs,zs] 74,.box b5 [iQ n] 3,.box b6 [.func (.func 173) #[] #[pQ b3]] 110,.box b7 [sv A.2,iQ 0,zs,zl,zs,zl,zs,zs] 74] λq' hq'=>?_;refine fI cQ (i:=2) (j:=2) rfl rfl rfl (by show 2 < 3;decide) rfl rfl ?_;apply hq';refine nQ [.hp c0,.hp h4,.box rb (J1 b (0) ad nd cd) 155,.box b3 [.slice a n c] 28,.box b4 [zs,iQ 0,zs,zl,zs,zl,zs,zs] 74,.box b5 [iQ n] 3,.box b6 [.func (.func 173) #[] #[pQ b3]] 110,.box b7 [sv A.2,iQ 0,zs,zl,zs,zl,zs,zs] 74] λq' hq'=>?_;obtain⟨E,hE⟩ :∃x,x=R4 dims 8 r4 0:=⟨_,rfl⟩
 refine nR (i:=2) (j:=1) dc rfl rfl (λw0 w' hok=>vW hdn 8 dc k h4 rb b r4 0 ad nd cd 1 w' dc (hok.inJ (i:=2) (j:=1) (c:=.box rb (J1 b 0 ad nd cd) 155) (d:=.hp h4) rfl rfl) (hok.disj 2 1 _ _ dc rfl rfl) (hk.trans (hok.le2 (i:=2) (j:=1) (m:=0) dc dc rfl rfl rfl)) hR4 (hD.mono (j7 _) (hok.le2 (i:=2) (j:=1) (m:=0) dc dc rfl rfl rfl)) dc) ?_;rintro _ _ h9 H9 ⟨⟨xs,rfl,hx5,hE9⟩,rfl,hR9⟩;rw[<-hdims,<-hE] at hE9 hR9 ⊢;have hE2:=hE9;obtain⟨Y,hY⟩ :∃Y,Y=E.2.2:=⟨_,rfl⟩
 rw[<-hY] at hE2;obtain⟨op9,f9,fac9,args9⟩:=Y;obtain⟨a9,n9,c9,a8,n8,c8,rfl,_,_⟩:=hE2;obtain⟨kx,hkx⟩ :∃kx,kx=E.2.1:=⟨_,rfl⟩
 rw[<-hkx];have gE:Y3 E.1:=by
  rw[hE,er4,hA,er2];exact A7.good ((((A7.lim r _ 64).trans (A7.exp _ _)).trans ((A7.nam _ _).trans (A7.exp _ _))).trans (A7.expr dims 8 _ 0)) hg
 apply hq';refine nQ [.hp c0,.hp h9,.box rb (J1 b (kx) ad nd cd) 155,.box b3 [.slice a n c] 28,.box b4 [zs,iQ 0,zs,zl,zs,zl,zs,zs] 74,.box b5 [iQ n] 3,.box b6 [.func (.func 173) #[] #[pQ b3]] 110,.box b7 [sv A.2,iQ op9,sv f9.1,.slice a9 n9 c9,sv fac9,.slice a8 n8 c8,zs,zs] 74,.hp H9] λq' hq'=>?_;refine lR 2 0 ?_;refine l6 (i:=1) rfl (λw0 w' hok=>cN (s:=xN) w' (hok.mem 1 _ rfl) (hok.kle rfl rfl hk) hR9) ?_;rintro _ h10 _ ⟨rfl,rfl,hR10⟩;obtain⟨lo,hlo⟩ :∃x,x=(if aA E.1 xN=true then R6 (E5 E.1) else (E.1,[])):=⟨_,rfl⟩
 have hlo0:=hlo;apply hq';refine s8 (λglo=>?_) λglo=>?_;focus
  have hR10:G9 k h10 b (E5 E.1):=by unfold U5 at hR10;rw[if_pos glo] at hR10;exact hR10
  rw[if_pos glo] at hlo;refine nQ [.hp c0,.hp h10,.box rb (J1 b (kx) ad nd cd) 155,.box b3 [.slice a n c] 28,.box b4 [zs,iQ 0,zs,zl,zs,zl,zs,zs] 74,.box b5 [iQ n] 3,.box b6 [.func (.func 173) #[] #[pQ b3]] 110,.box b7 [sv A.2,iQ op9,sv f9.1,.slice a9 n9 c9,sv fac9,.slice a8 n8 c8,zs,zs] 74,.hp H9] λq' hq'=>?_;refine l6 (i:=1) rfl (λw0 w' hok=>W5 w' (hok.mem 1 _ rfl) (DR.mk (hk.trans (hok.le01 rfl rfl)) hR10 (hok.bx1 (j:=2) (n:=0) rfl rfl dc rfl))) ?_;rintro _ h11 _ ⟨rfl,rfl,hR11⟩;have hR11:G9 k h11 b ((R6 (E5 E.1)).1):=hR11;rw[<-hlo] at hR11 ⊢;apply hq';refine nQ [.hp c0,.hp h11,.box rb (J1 b (kx) ad nd cd) 155,.box b3 [.slice a n c] 28,.box b4 [zs,iQ 0,zs,zl,zs,zl,zs,zs] 74,.box b5 [iQ n] 3,.box b6 [.func (.func 173) #[] #[pQ b3]] 110,.box b7 [sv A.2,iQ op9,sv f9.1,.slice a9 n9 c9,sv fac9,.slice a8 n8 c8,sv lo.2,zs] 74,.hp H9] λq' hq'=>?_;refine lR 2 0 ?_;refine l6 (i:=1) rfl (λw0 w' hok=>cN (s:=YO) w' (hok.mem 1 _ rfl) (hok.kle rfl rfl hk) hR11) ?_;rintro _ h12 _ ⟨rfl,rfl,hR12⟩;obtain⟨hi,hhi⟩ :∃x,x=(if aA lo.1 YO=true then R6 (E5 lo.1) else (lo.1,[])):=⟨_,rfl⟩
  have hhi0:=hhi;apply hq';refine s8 (λghi=>?_) λghi=>?_
  ·have hR12:G9 k h12 b (E5 lo.1):=by unfold U5 at hR12;rw[if_pos ghi] at hR12;exact hR12
   rw[if_pos ghi] at hhi;refine nQ [.hp c0,.hp h12,.box rb (J1 b (kx) ad nd cd) 155,.box b3 [.slice a n c] 28,.box b4 [zs,iQ 0,zs,zl,zs,zl,zs,zs] 74,.box b5 [iQ n] 3,.box b6 [.func (.func 173) #[] #[pQ b3]] 110,.box b7 [sv A.2,iQ op9,sv f9.1,.slice a9 n9 c9,sv fac9,.slice a8 n8 c8,sv lo.2,zs] 74,.hp H9] λq' hq'=>?_;refine l6 (i:=1) rfl (λw0 w' hok=>W5 w' (hok.mem 1 _ rfl) (DR.mk (hk.trans (hok.le01 rfl rfl)) hR12 (hok.bx1 (j:=2) (n:=0) rfl rfl dc rfl))) ?_;rintro _ h13 _ ⟨rfl,rfl,hR13⟩;have hR13:G9 k h13 b ((R6 (E5 lo.1)).1):=hR13;rw[<-hhi] at hR13 ⊢;apply hq';refine nQ [.hp c0,.hp h13,.box rb (J1 b (kx) ad nd cd) 155,.box b3 [.slice a n c] 28,.box b4 [zs,iQ 0,zs,zl,zs,zl,zs,zs] 74,.box b5 [iQ n] 3,.box b6 [.func (.func 173) #[] #[pQ b3]] 110,.box b7 [sv A.2,iQ op9,sv f9.1,.slice a9 n9 c9,sv fac9,.slice a8 n8 c8,sv lo.2,sv hi.2] 74,.hp H9] λq' hq'=>?_;have eF :∀R9,R9=(if (lo.2≠[]/\hi.2≠[])/\aA hi.1 [59]=true/\dF hi.2*dG lo.2 < dF lo.2*dG hi.2 then y7 hi.1 8 else hi.1)->rH names dims r=(x8 R9 [59],(A.2,E.2.2,lo.2,hi.2)):=by
    rintro _ rfl;unfold rH;dsimp only;rw[<-er2,<-hA,<-er4,<-hE,<-hlo0,<-hhi0]
   refine cG (b:=[]) ?_;refine d8 (λs1=>?_) λs1=>?_;focus
    refine cG (b:=[]) ?_;refine d8 (λs2=>?_) λs2=>?_
    ·refine lR 2 0 ?_;refine k7 _ (λw' hm=>S0 w' (hm 1 _ rfl) (hk.trans (hm 0 _ rfl).whole) hR13) ?_;apply hq';refine s8 (λs3=>?_) λs3=>?_;focus
      have h0:hi.1.e=0:=(S2 s3).1;have gL:Y3 lo.1:=by rw[hlo0];exact A7.good (A7.opt E.1 xN) gE
      have nH:I7 hi.2=0:=by
       rw[hhi0] at h0 s2 ⊢;split at h0
       ·rename_i q;rw[if_pos q];exact nF (A7.good (A7.next _) gL) h0
       ·rename_i q;rw[if_neg q] at s2;exact absurd rfl s2
      have l0:lo.1.e=0:=A7.ok (by rw[hhi0];exact A7.opt lo.1 YO) h0;have nL:I7 lo.2=0:=by
       rw[hlo0] at l0 s1 ⊢;split at l0
       ·rename_i q;rw[if_pos q];exact nF (A7.good (A7.next _) gE) l0
       ·rename_i q;rw[if_neg q] at s1;exact absurd rfl s1
      have lnL:=Q2 nL;have lnH:=Q2 nH;refine nQ [.hp c0,.hp h13,.box rb (J1 b (kx) ad nd cd) 155,.box b3 [.slice a n c] 28,.box b4 [zs,iQ 0,zs,zl,zs,zl,zs,zs] 74,.box b5 [iQ n] 3,.box b6 [.func (.func 173) #[] #[pQ b3]] 110,.box b7 [sv A.2,iQ op9,sv f9.1,.slice a9 n9 c9,sv fac9,.slice a8 n8 c8,sv lo.2,sv hi.2] 74,.hp H9] λq' hq'=>?_;refine call (λw' hm=>fE lo.2 om w') ?_;rintro _ _ ⟨g8,rfl,hRat1⟩;obtain⟨⟨m1,⟨p1,u1,v1⟩,⟨x1,y1,z1⟩⟩,rfl,hS1⟩:=eW hRat1 nL;intro b8;apply hq';refine nQ [.hp c0,.hp h13,.box rb (J1 b (kx) ad nd cd) 155,.box b3 [.slice a n c] 28,.box b4 [zs,iQ 0,zs,zl,zs,zl,zs,zs] 74,.box b5 [iQ n] 3,.box b6 [.func (.func 173) #[] #[pQ b3]] 110,.box b7 [sv A.2,iQ op9,sv f9.1,.slice a9 n9 c9,sv fac9,.slice a8 n8 c8,sv lo.2,sv hi.2] 74,.hp H9,.hp g8,.box b8 [.bool m1,.slice p1 u1 v1,.bool false,.slice x1 y1 z1] 141] λq' hq'=>?_;refine call (λw' hm=>fE hi.2 om w') ?_;rintro _ _ ⟨g9,rfl,hRat2⟩;obtain⟨⟨m2,⟨p2,u2,v2⟩,⟨x2,y2,z2⟩⟩,rfl,hS2⟩:=eW hRat2 nH;intro b9;obtain⟨X1,Y1,q1,q2,q3⟩:=hS1;obtain⟨X2,Y2,w1,w2,w3⟩:=hS2;apply hq';refine nQ [.hp c0,.hp h13,.box rb (J1 b (kx) ad nd cd) 155,.box b3 [.slice a n c] 28,.box b4 [zs,iQ 0,zs,zl,zs,zl,zs,zs] 74,.box b5 [iQ n] 3,.box b6 [.func (.func 173) #[] #[pQ b3]] 110,.box b7 [sv A.2,iQ op9,sv f9.1,.slice a9 n9 c9,sv fac9,.slice a8 n8 c8,sv lo.2,sv hi.2] 74,.hp H9,.hp g8,.box b8 [.bool m1,.slice p1 u1 v1,.bool false,.slice x1 y1 z1] 141,.hp g9,.box b9 [.bool m2,.slice p2 u2 v2,.bool false,.slice x2 y2 z2] 141] λq' hq'=>?_;refine k7 _ (λw' hm=>cS w' (q1.mono (hm 9 _ rfl).whole) (w1.mono (hm 11 _ rfl).whole)) ?_;rw[q2,q3,w2,w3];apply hq';refine d8 (λs4=>?_) λs4=>?_
      ·refine nQ [.hp c0,.hp h13,.box rb (J1 b (kx) ad nd cd) 155,.box b3 [.slice a n c] 28,.box b4 [zs,iQ 0,zs,zl,zs,zl,zs,zs] 74,.box b5 [iQ n] 3,.box b6 [.func (.func 173) #[] #[pQ b3]] 110,.box b7 [sv A.2,iQ op9,sv f9.1,.slice a9 n9 c9,sv fac9,.slice a8 n8 c8,sv lo.2,sv hi.2] 74,.hp H9,.hp g8,.box b8 [.bool m1,.slice p1 u1 v1,.bool false,.slice x1 y1 z1] 141,.hp g9,.box b9 [.bool m2,.slice p2 u2 v2,.bool false,.slice x2 y2 z2] 141] λq' hq'=>?_;refine lR 2 0 ?_;refine l6 (i:=1) rfl (λw0 w' hok=>G8 w' (hok.mem 1 _ rfl) (hok.kle rfl rfl hk) hR13) ?_;rintro _ h14 _ ⟨rfl,hR14⟩;have hR14:G9 k h14 b (y7 hi.1 8):=hR14;apply hq';refine nQ [.hp c0,.hp h14,.box rb (J1 b (kx) ad nd cd) 155,.box b3 [.slice a n c] 28,.box b4 [zs,iQ 0,zs,zl,zs,zl,zs,zs] 74,.box b5 [iQ n] 3,.box b6 [.func (.func 173) #[] #[pQ b3]] 110,.box b7 [sv A.2,iQ op9,sv f9.1,.slice a9 n9 c9,sv fac9,.slice a8 n8 c8,sv lo.2,sv hi.2] 74,.hp H9,.hp g8,.box b8 [.bool m1,.slice p1 u1 v1,.bool false,.slice x1 y1 z1] 141,.hp g9,.box b9 [.bool m2,.slice p2 u2 v2,.bool false,.slice x2 y2 z2] 141] λq' hq'=>?_;refine lR 2 0 ?_;refine l6 (i:=1) rfl (λw0 w' hok=>m6 w' (hok.mem 1 _ rfl) (hok.kle rfl rfl hk) hR14) ?_;rintro _ h15 _ ⟨rfl,hR15⟩;have hR15:G9 k h15 b (x8 (y7 hi.1 8) [59]):=hR15;apply hq';refine nQ [.hp c0,.hp h15,.box rb (J1 b (kx) ad nd cd) 155,.box b3 [.slice a n c] 28,.box b4 [zs,iQ 0,zs,zl,zs,zl,zs,zs] 74,.box b5 [iQ n] 3,.box b6 [.func (.func 173) #[] #[pQ b3]] 110,.box b7 [sv A.2,iQ op9,sv f9.1,.slice a9 n9 c9,sv fac9,.slice a8 n8 c8,sv lo.2,sv hi.2] 74,.hp H9,.hp g8,.box b8 [.bool m1,.slice p1 u1 v1,.bool false,.slice x1 y1 z1] 141,.hp g9,.box b9 [.bool m2,.slice p2 u2 v2,.bool false,.slice x2 y2 z2] 141] λq' hq'=>?_;apply hq';rw[eF (y7 hi.1 8) (by rw[if_pos ⟨⟨s1,s2⟩,s3,fL.1 s4⟩])];exact⟨h15,[.box rb (J1 b kx ad nd cd) 155,.hp H9],⟨_,_,rfl,⟨_,rfl,rfl,⟨[iQ op9,sv f9.1,.slice a9 n9 c9,sv fac9,.slice a8 n8 c8],rfl,hE9⟩⟩,⟨kx,rfl⟩,hR15⟩,pk [0,1,2,8]⟩
      focus
       refine nQ [.hp c0,.hp h13,.box rb (J1 b (kx) ad nd cd) 155,.box b3 [.slice a n c] 28,.box b4 [zs,iQ 0,zs,zl,zs,zl,zs,zs] 74,.box b5 [iQ n] 3,.box b6 [.func (.func 173) #[] #[pQ b3]] 110,.box b7 [sv A.2,iQ op9,sv f9.1,.slice a9 n9 c9,sv fac9,.slice a8 n8 c8,sv lo.2,sv hi.2] 74,.hp H9,.hp g8,.box b8 [.bool m1,.slice p1 u1 v1,.bool false,.slice x1 y1 z1] 141,.hp g9,.box b9 [.bool m2,.slice p2 u2 v2,.bool false,.slice x2 y2 z2] 141] λq' hq'=>?_;refine lR 2 0 ?_;refine l6 (i:=1) rfl (λw0 w' hok=>m6 w' (hok.mem 1 _ rfl) (hok.kle rfl rfl hk) hR13) ?_;rintro _ h14 _ ⟨rfl,hR14⟩;have hR14:G9 k h14 b (x8 (hi.1) [59]):=hR14;apply hq';refine nQ [.hp c0,.hp h14,.box rb (J1 b (kx) ad nd cd) 155,.box b3 [.slice a n c] 28,.box b4 [zs,iQ 0,zs,zl,zs,zl,zs,zs] 74,.box b5 [iQ n] 3,.box b6 [.func (.func 173) #[] #[pQ b3]] 110,.box b7 [sv A.2,iQ op9,sv f9.1,.slice a9 n9 c9,sv fac9,.slice a8 n8 c8,sv lo.2,sv hi.2] 74,.hp H9,.hp g8,.box b8 [.bool m1,.slice p1 u1 v1,.bool false,.slice x1 y1 z1] 141,.hp g9,.box b9 [.bool m2,.slice p2 u2 v2,.bool false,.slice x2 y2 z2] 141] λq' hq'=>?_;apply hq';rw[eF (hi.1) (by rw[if_neg (λc=>s4 (fL.2 c.2.2))])]
     rotate_left
     focus
      refine nQ [.hp c0,.hp h13,.box rb (J1 b (kx) ad nd cd) 155,.box b3 [.slice a n c] 28,.box b4 [zs,iQ 0,zs,zl,zs,zl,zs,zs] 74,.box b5 [iQ n] 3,.box b6 [.func (.func 173) #[] #[pQ b3]] 110,.box b7 [sv A.2,iQ op9,sv f9.1,.slice a9 n9 c9,sv fac9,.slice a8 n8 c8,sv lo.2,sv hi.2] 74,.hp H9] λq' hq'=>?_;refine lR 2 0 ?_;refine l6 (i:=1) rfl (λw0 w' hok=>m6 w' (hok.mem 1 _ rfl) (hok.kle rfl rfl hk) hR13) ?_;rintro _ h14 _ ⟨rfl,hR14⟩;have hR14:G9 k h14 b (x8 (hi.1) [59]):=hR14;apply hq';refine nQ [.hp c0,.hp h14,.box rb (J1 b (kx) ad nd cd) 155,.box b3 [.slice a n c] 28,.box b4 [zs,iQ 0,zs,zl,zs,zl,zs,zs] 74,.box b5 [iQ n] 3,.box b6 [.func (.func 173) #[] #[pQ b3]] 110,.box b7 [sv A.2,iQ op9,sv f9.1,.slice a9 n9 c9,sv fac9,.slice a8 n8 c8,sv lo.2,sv hi.2] 74,.hp H9] λq' hq'=>?_;apply hq';rw[eF (hi.1) (by rw[if_neg (λc=>by rw[s3] at c;cases c.2.1)])]
     all_goals
      exact⟨h14,[.box rb (J1 b kx ad nd cd) 155,.hp H9],⟨_,_,rfl,⟨_,rfl,rfl,⟨[iQ op9,sv f9.1,.slice a9 n9 c9,sv fac9,.slice a8 n8 c8],rfl,hE9⟩⟩,⟨kx,rfl⟩,hR14⟩,pk [0,1,2,8]⟩
    focus
     apply hq';refine dQ rfl ?_;refine nQ [.hp c0,.hp h13,.box rb (J1 b (kx) ad nd cd) 155,.box b3 [.slice a n c] 28,.box b4 [zs,iQ 0,zs,zl,zs,zl,zs,zs] 74,.box b5 [iQ n] 3,.box b6 [.func (.func 173) #[] #[pQ b3]] 110,.box b7 [sv A.2,iQ op9,sv f9.1,.slice a9 n9 c9,sv fac9,.slice a8 n8 c8,sv lo.2,sv hi.2] 74,.hp H9] λq' hq'=>?_;refine lR 2 0 ?_;refine l6 (i:=1) rfl (λw0 w' hok=>m6 w' (hok.mem 1 _ rfl) (hok.kle rfl rfl hk) hR13) ?_;rintro _ h14 _ ⟨rfl,hR14⟩;have hR14:G9 k h14 b (x8 (hi.1) [59]):=hR14;apply hq';refine nQ [.hp c0,.hp h14,.box rb (J1 b (kx) ad nd cd) 155,.box b3 [.slice a n c] 28,.box b4 [zs,iQ 0,zs,zl,zs,zl,zs,zs] 74,.box b5 [iQ n] 3,.box b6 [.func (.func 173) #[] #[pQ b3]] 110,.box b7 [sv A.2,iQ op9,sv f9.1,.slice a9 n9 c9,sv fac9,.slice a8 n8 c8,sv lo.2,sv hi.2] 74,.hp H9] λq' hq'=>?_;apply hq';rw[eF (hi.1) (by rw[if_neg (λc=>s2 c.1.2)])]
   rotate_left
   focus
    apply hq';refine dQ rfl ?_;refine nQ [.hp c0,.hp h13,.box rb (J1 b (kx) ad nd cd) 155,.box b3 [.slice a n c] 28,.box b4 [zs,iQ 0,zs,zl,zs,zl,zs,zs] 74,.box b5 [iQ n] 3,.box b6 [.func (.func 173) #[] #[pQ b3]] 110,.box b7 [sv A.2,iQ op9,sv f9.1,.slice a9 n9 c9,sv fac9,.slice a8 n8 c8,sv lo.2,sv hi.2] 74,.hp H9] λq' hq'=>?_;refine lR 2 0 ?_;refine l6 (i:=1) rfl (λw0 w' hok=>m6 w' (hok.mem 1 _ rfl) (hok.kle rfl rfl hk) hR13) ?_;rintro _ h14 _ ⟨rfl,hR14⟩;have hR14:G9 k h14 b (x8 (hi.1) [59]):=hR14;apply hq';refine nQ [.hp c0,.hp h14,.box rb (J1 b (kx) ad nd cd) 155,.box b3 [.slice a n c] 28,.box b4 [zs,iQ 0,zs,zl,zs,zl,zs,zs] 74,.box b5 [iQ n] 3,.box b6 [.func (.func 173) #[] #[pQ b3]] 110,.box b7 [sv A.2,iQ op9,sv f9.1,.slice a9 n9 c9,sv fac9,.slice a8 n8 c8,sv lo.2,sv hi.2] 74,.hp H9] λq' hq'=>?_;apply hq';rw[eF (hi.1) (by rw[if_neg (λc=>s1 c.1.1)])]
   all_goals
    exact⟨h14,[.box rb (J1 b kx ad nd cd) 155,.hp H9],⟨_,_,rfl,⟨_,rfl,rfl,⟨[iQ op9,sv f9.1,.slice a9 n9 c9,sv fac9,.slice a8 n8 c8],rfl,hE9⟩⟩,⟨kx,rfl⟩,hR14⟩,pk [0,1,2,8]⟩
  focus
   have hR12:G9 k h12 b lo.1:=by unfold U5 at hR12;rw[if_neg (by rw[ghi];decide)] at hR12;exact hR12
   rw[if_neg (by rw[ghi];decide)] at hhi;have hi1:hi.1=lo.1:=by rw[hhi]
   have hi2:hi.2 = []:=by rw[hhi]
   rw[<-hi1] at hR12;refine X9 [.hp c0,.hp h12,.box rb (J1 b (kx) ad nd cd) 155,.box b3 [.slice a n c] 28,.box b4 [zs,iQ 0,zs,zl,zs,zl,zs,zs] 74,.box b5 [iQ n] 3,.box b6 [.func (.func 173) #[] #[pQ b3]] 110,.box b7 [sv A.2,iQ op9,sv f9.1,.slice a9 n9 c9,sv fac9,.slice a8 n8 c8,sv lo.2,sv hi.2] 74,.hp H9] (by rw[hi2];first | done | rfl) ?_
 rotate_left
 focus
  have hR10:G9 k h10 b E.1:=by unfold U5 at hR10;rw[if_neg (by rw[glo];decide)] at hR10;exact hR10
  rw[if_neg (by rw[glo];decide)] at hlo;have lo1:lo.1=E.1:=by rw[hlo]
  have lo2:lo.2 = []:=by rw[hlo]
  rw[<-lo1] at hR10;refine X9 [.hp c0,.hp h10,.box rb (J1 b (kx) ad nd cd) 155,.box b3 [.slice a n c] 28,.box b4 [zs,iQ 0,zs,zl,zs,zl,zs,zs] 74,.box b5 [iQ n] 3,.box b6 [.func (.func 173) #[] #[pQ b3]] 110,.box b7 [sv A.2,iQ op9,sv f9.1,.slice a9 n9 c9,sv fac9,.slice a8 n8 c8,sv lo.2,zs] 74,.hp H9] (by rw[lo2];first | done | rfl) ?_;refine o7 λq' hq'=>?_;refine lR 2 0 ?_;refine l6 (i:=1) rfl (λw0 w' hok=>cN (s:=YO) w' (hok.mem 1 _ rfl) (hok.kle rfl rfl hk) hR10) ?_;rintro _ h11 _ ⟨rfl,rfl,hR11⟩;obtain⟨hi,hhi⟩ :∃x,x=(if aA lo.1 YO=true then R6 (E5 lo.1) else (lo.1,[])):=⟨_,rfl⟩
  have hhi0:=hhi;apply hq';refine s8 (λghi=>?_) λghi=>?_;focus
   have hR11:G9 k h11 b (E5 lo.1):=by unfold U5 at hR11;rw[if_pos ghi] at hR11;exact hR11
   rw[if_pos ghi] at hhi;refine nQ [.hp c0,.hp h11,.box rb (J1 b (kx) ad nd cd) 155,.box b3 [.slice a n c] 28,.box b4 [zs,iQ 0,zs,zl,zs,zl,zs,zs] 74,.box b5 [iQ n] 3,.box b6 [.func (.func 173) #[] #[pQ b3]] 110,.box b7 [sv A.2,iQ op9,sv f9.1,.slice a9 n9 c9,sv fac9,.slice a8 n8 c8,sv lo.2,zs] 74,.hp H9] λq' hq'=>?_;refine l6 (i:=1) rfl (λw0 w' hok=>W5 w' (hok.mem 1 _ rfl) (DR.mk (hk.trans (hok.le01 rfl rfl)) hR11 (hok.bx1 (j:=2) (n:=0) rfl rfl dc rfl))) ?_;rintro _ h12 _ ⟨rfl,rfl,hR12⟩;have hR12:G9 k h12 b ((R6 (E5 lo.1)).1):=hR12;rw[<-hhi] at hR12 ⊢;apply hq';refine X9 [.hp c0,.hp h12,.box rb (J1 b (kx) ad nd cd) 155,.box b3 [.slice a n c] 28,.box b4 [zs,iQ 0,zs,zl,zs,zl,zs,zs] 74,.box b5 [iQ n] 3,.box b6 [.func (.func 173) #[] #[pQ b3]] 110,.box b7 [sv A.2,iQ op9,sv f9.1,.slice a9 n9 c9,sv fac9,.slice a8 n8 c8,sv lo.2,sv hi.2] 74,.hp H9] rfl ?_
  rotate_left
  ·have hR11:G9 k h11 b lo.1:=by unfold U5 at hR11;rw[if_neg (by rw[ghi];decide)] at hR11;exact hR11
   rw[if_neg (by rw[ghi];decide)] at hhi;have hi1:hi.1=lo.1:=by rw[hhi]
   have hi2:hi.2 = []:=by rw[hhi]
   rw[<-hi1] at hR11;refine X9 [.hp c0,.hp h11,.box rb (J1 b (kx) ad nd cd) 155,.box b3 [.slice a n c] 28,.box b4 [zs,iQ 0,zs,zl,zs,zl,zs,zs] 74,.box b5 [iQ n] 3,.box b6 [.func (.func 173) #[] #[pQ b3]] 110,.box b7 [sv A.2,iQ op9,sv f9.1,.slice a9 n9 c9,sv fac9,.slice a8 n8 c8,sv lo.2,sv hi.2] 74,.hp H9] (by rw[hi2];first | done | rfl) ?_;refine o7 λq' hq'=>?_;have eF :∀R9,R9=(if (lo.2≠[]/\hi.2≠[])/\aA hi.1 [59]=true/\dF hi.2*dG lo.2 < dF lo.2*dG hi.2 then y7 hi.1 8 else hi.1)->rH names dims r=(x8 R9 [59],(A.2,E.2.2,lo.2,hi.2)):=by
    rintro _ rfl;unfold rH;dsimp only;rw[<-er2,<-hA,<-er4,<-hE,<-hlo0,<-hhi0]
   refine cG (b:=[]) ?_;refine d8 (λs1=>?_) λs1=>?_;focus
    refine cG (b:=[]) ?_;refine d8 (λs2=>?_) λs2=>?_
    ·refine lR 2 0 ?_;refine k7 _ (λw' hm=>S0 w' (hm 1 _ rfl) (hk.trans (hm 0 _ rfl).whole) hR11) ?_;apply hq';refine s8 (λs3=>?_) λs3=>?_;focus
      have h0:hi.1.e=0:=(S2 s3).1;have gL:Y3 lo.1:=by rw[hlo0];exact A7.good (A7.opt E.1 xN) gE
      have nH:I7 hi.2=0:=by
       rw[hhi0] at h0 s2 ⊢;split at h0
       ·rename_i q;rw[if_pos q];exact nF (A7.good (A7.next _) gL) h0
       ·rename_i q;rw[if_neg q] at s2;exact absurd rfl s2
      have l0:lo.1.e=0:=A7.ok (by rw[hhi0];exact A7.opt lo.1 YO) h0;have nL:I7 lo.2=0:=by
       rw[hlo0] at l0 s1 ⊢;split at l0
       ·rename_i q;rw[if_pos q];exact nF (A7.good (A7.next _) gE) l0
       ·rename_i q;rw[if_neg q] at s1;exact absurd rfl s1
      have lnL:=Q2 nL;have lnH:=Q2 nH;refine nQ [.hp c0,.hp h11,.box rb (J1 b (kx) ad nd cd) 155,.box b3 [.slice a n c] 28,.box b4 [zs,iQ 0,zs,zl,zs,zl,zs,zs] 74,.box b5 [iQ n] 3,.box b6 [.func (.func 173) #[] #[pQ b3]] 110,.box b7 [sv A.2,iQ op9,sv f9.1,.slice a9 n9 c9,sv fac9,.slice a8 n8 c8,sv lo.2,sv hi.2] 74,.hp H9] λq' hq'=>?_;refine call (λw' hm=>fE lo.2 om w') ?_;rintro _ _ ⟨g8,rfl,hRat1⟩;obtain⟨⟨m1,⟨p1,u1,v1⟩,⟨x1,y1,z1⟩⟩,rfl,hS1⟩:=eW hRat1 nL;intro b8;apply hq';refine nQ [.hp c0,.hp h11,.box rb (J1 b (kx) ad nd cd) 155,.box b3 [.slice a n c] 28,.box b4 [zs,iQ 0,zs,zl,zs,zl,zs,zs] 74,.box b5 [iQ n] 3,.box b6 [.func (.func 173) #[] #[pQ b3]] 110,.box b7 [sv A.2,iQ op9,sv f9.1,.slice a9 n9 c9,sv fac9,.slice a8 n8 c8,sv lo.2,sv hi.2] 74,.hp H9,.hp g8,.box b8 [.bool m1,.slice p1 u1 v1,.bool false,.slice x1 y1 z1] 141] λq' hq'=>?_;refine call (λw' hm=>fE hi.2 om w') ?_;rintro _ _ ⟨g9,rfl,hRat2⟩;obtain⟨⟨m2,⟨p2,u2,v2⟩,⟨x2,y2,z2⟩⟩,rfl,hS2⟩:=eW hRat2 nH;intro b9;obtain⟨X1,Y1,q1,q2,q3⟩:=hS1;obtain⟨X2,Y2,w1,w2,w3⟩:=hS2;apply hq';refine nQ [.hp c0,.hp h11,.box rb (J1 b (kx) ad nd cd) 155,.box b3 [.slice a n c] 28,.box b4 [zs,iQ 0,zs,zl,zs,zl,zs,zs] 74,.box b5 [iQ n] 3,.box b6 [.func (.func 173) #[] #[pQ b3]] 110,.box b7 [sv A.2,iQ op9,sv f9.1,.slice a9 n9 c9,sv fac9,.slice a8 n8 c8,sv lo.2,sv hi.2] 74,.hp H9,.hp g8,.box b8 [.bool m1,.slice p1 u1 v1,.bool false,.slice x1 y1 z1] 141,.hp g9,.box b9 [.bool m2,.slice p2 u2 v2,.bool false,.slice x2 y2 z2] 141] λq' hq'=>?_;refine k7 _ (λw' hm=>cS w' (q1.mono (hm 9 _ rfl).whole) (w1.mono (hm 11 _ rfl).whole)) ?_;rw[q2,q3,w2,w3];apply hq';refine d8 (λs4=>?_) λs4=>?_
      ·refine nQ [.hp c0,.hp h11,.box rb (J1 b (kx) ad nd cd) 155,.box b3 [.slice a n c] 28,.box b4 [zs,iQ 0,zs,zl,zs,zl,zs,zs] 74,.box b5 [iQ n] 3,.box b6 [.func (.func 173) #[] #[pQ b3]] 110,.box b7 [sv A.2,iQ op9,sv f9.1,.slice a9 n9 c9,sv fac9,.slice a8 n8 c8,sv lo.2,sv hi.2] 74,.hp H9,.hp g8,.box b8 [.bool m1,.slice p1 u1 v1,.bool false,.slice x1 y1 z1] 141,.hp g9,.box b9 [.bool m2,.slice p2 u2 v2,.bool false,.slice x2 y2 z2] 141] λq' hq'=>?_;refine lR 2 0 ?_;refine l6 (i:=1) rfl (λw0 w' hok=>G8 w' (hok.mem 1 _ rfl) (hok.kle rfl rfl hk) hR11) ?_;rintro _ h12 _ ⟨rfl,hR12⟩;have hR12:G9 k h12 b (y7 hi.1 8):=hR12;apply hq';refine nQ [.hp c0,.hp h12,.box rb (J1 b (kx) ad nd cd) 155,.box b3 [.slice a n c] 28,.box b4 [zs,iQ 0,zs,zl,zs,zl,zs,zs] 74,.box b5 [iQ n] 3,.box b6 [.func (.func 173) #[] #[pQ b3]] 110,.box b7 [sv A.2,iQ op9,sv f9.1,.slice a9 n9 c9,sv fac9,.slice a8 n8 c8,sv lo.2,sv hi.2] 74,.hp H9,.hp g8,.box b8 [.bool m1,.slice p1 u1 v1,.bool false,.slice x1 y1 z1] 141,.hp g9,.box b9 [.bool m2,.slice p2 u2 v2,.bool false,.slice x2 y2 z2] 141] λq' hq'=>?_;refine lR 2 0 ?_;refine l6 (i:=1) rfl (λw0 w' hok=>m6 w' (hok.mem 1 _ rfl) (hok.kle rfl rfl hk) hR12) ?_;rintro _ h13 _ ⟨rfl,hR13⟩;have hR13:G9 k h13 b (x8 (y7 hi.1 8) [59]):=hR13;apply hq';refine nQ [.hp c0,.hp h13,.box rb (J1 b (kx) ad nd cd) 155,.box b3 [.slice a n c] 28,.box b4 [zs,iQ 0,zs,zl,zs,zl,zs,zs] 74,.box b5 [iQ n] 3,.box b6 [.func (.func 173) #[] #[pQ b3]] 110,.box b7 [sv A.2,iQ op9,sv f9.1,.slice a9 n9 c9,sv fac9,.slice a8 n8 c8,sv lo.2,sv hi.2] 74,.hp H9,.hp g8,.box b8 [.bool m1,.slice p1 u1 v1,.bool false,.slice x1 y1 z1] 141,.hp g9,.box b9 [.bool m2,.slice p2 u2 v2,.bool false,.slice x2 y2 z2] 141] λq' hq'=>?_;apply hq';rw[eF (y7 hi.1 8) (by rw[if_pos ⟨⟨s1,s2⟩,s3,fL.1 s4⟩])];exact⟨h13,[.box rb (J1 b kx ad nd cd) 155,.hp H9],⟨_,_,rfl,⟨_,rfl,rfl,⟨[iQ op9,sv f9.1,.slice a9 n9 c9,sv fac9,.slice a8 n8 c8],rfl,hE9⟩⟩,⟨kx,rfl⟩,hR13⟩,pk [0,1,2,8]⟩
      focus
       refine nQ [.hp c0,.hp h11,.box rb (J1 b (kx) ad nd cd) 155,.box b3 [.slice a n c] 28,.box b4 [zs,iQ 0,zs,zl,zs,zl,zs,zs] 74,.box b5 [iQ n] 3,.box b6 [.func (.func 173) #[] #[pQ b3]] 110,.box b7 [sv A.2,iQ op9,sv f9.1,.slice a9 n9 c9,sv fac9,.slice a8 n8 c8,sv lo.2,sv hi.2] 74,.hp H9,.hp g8,.box b8 [.bool m1,.slice p1 u1 v1,.bool false,.slice x1 y1 z1] 141,.hp g9,.box b9 [.bool m2,.slice p2 u2 v2,.bool false,.slice x2 y2 z2] 141] λq' hq'=>?_;refine lR 2 0 ?_;refine l6 (i:=1) rfl (λw0 w' hok=>m6 w' (hok.mem 1 _ rfl) (hok.kle rfl rfl hk) hR11) ?_;rintro _ h12 _ ⟨rfl,hR12⟩;have hR12:G9 k h12 b (x8 (hi.1) [59]):=hR12;apply hq';refine nQ [.hp c0,.hp h12,.box rb (J1 b (kx) ad nd cd) 155,.box b3 [.slice a n c] 28,.box b4 [zs,iQ 0,zs,zl,zs,zl,zs,zs] 74,.box b5 [iQ n] 3,.box b6 [.func (.func 173) #[] #[pQ b3]] 110,.box b7 [sv A.2,iQ op9,sv f9.1,.slice a9 n9 c9,sv fac9,.slice a8 n8 c8,sv lo.2,sv hi.2] 74,.hp H9,.hp g8,.box b8 [.bool m1,.slice p1 u1 v1,.bool false,.slice x1 y1 z1] 141,.hp g9,.box b9 [.bool m2,.slice p2 u2 v2,.bool false,.slice x2 y2 z2] 141] λq' hq'=>?_;apply hq';rw[eF (hi.1) (by rw[if_neg (λc=>s4 (fL.2 c.2.2))])]
     rotate_left
     focus
      refine nQ [.hp c0,.hp h11,.box rb (J1 b (kx) ad nd cd) 155,.box b3 [.slice a n c] 28,.box b4 [zs,iQ 0,zs,zl,zs,zl,zs,zs] 74,.box b5 [iQ n] 3,.box b6 [.func (.func 173) #[] #[pQ b3]] 110,.box b7 [sv A.2,iQ op9,sv f9.1,.slice a9 n9 c9,sv fac9,.slice a8 n8 c8,sv lo.2,sv hi.2] 74,.hp H9] λq' hq'=>?_;refine lR 2 0 ?_;refine l6 (i:=1) rfl (λw0 w' hok=>m6 w' (hok.mem 1 _ rfl) (hok.kle rfl rfl hk) hR11) ?_;rintro _ h12 _ ⟨rfl,hR12⟩;have hR12:G9 k h12 b (x8 (hi.1) [59]):=hR12;apply hq';refine nQ [.hp c0,.hp h12,.box rb (J1 b (kx) ad nd cd) 155,.box b3 [.slice a n c] 28,.box b4 [zs,iQ 0,zs,zl,zs,zl,zs,zs] 74,.box b5 [iQ n] 3,.box b6 [.func (.func 173) #[] #[pQ b3]] 110,.box b7 [sv A.2,iQ op9,sv f9.1,.slice a9 n9 c9,sv fac9,.slice a8 n8 c8,sv lo.2,sv hi.2] 74,.hp H9] λq' hq'=>?_;apply hq';rw[eF (hi.1) (by rw[if_neg (λc=>by rw[s3] at c;cases c.2.1)])]
     all_goals
      exact⟨h12,[.box rb (J1 b kx ad nd cd) 155,.hp H9],⟨_,_,rfl,⟨_,rfl,rfl,⟨[iQ op9,sv f9.1,.slice a9 n9 c9,sv fac9,.slice a8 n8 c8],rfl,hE9⟩⟩,⟨kx,rfl⟩,hR12⟩,pk [0,1,2,8]⟩
    focus
     apply hq';refine dQ rfl ?_;refine nQ [.hp c0,.hp h11,.box rb (J1 b (kx) ad nd cd) 155,.box b3 [.slice a n c] 28,.box b4 [zs,iQ 0,zs,zl,zs,zl,zs,zs] 74,.box b5 [iQ n] 3,.box b6 [.func (.func 173) #[] #[pQ b3]] 110,.box b7 [sv A.2,iQ op9,sv f9.1,.slice a9 n9 c9,sv fac9,.slice a8 n8 c8,sv lo.2,sv hi.2] 74,.hp H9] λq' hq'=>?_;refine lR 2 0 ?_;refine l6 (i:=1) rfl (λw0 w' hok=>m6 w' (hok.mem 1 _ rfl) (hok.kle rfl rfl hk) hR11) ?_;rintro _ h12 _ ⟨rfl,hR12⟩;have hR12:G9 k h12 b (x8 (hi.1) [59]):=hR12;apply hq';refine nQ [.hp c0,.hp h12,.box rb (J1 b (kx) ad nd cd) 155,.box b3 [.slice a n c] 28,.box b4 [zs,iQ 0,zs,zl,zs,zl,zs,zs] 74,.box b5 [iQ n] 3,.box b6 [.func (.func 173) #[] #[pQ b3]] 110,.box b7 [sv A.2,iQ op9,sv f9.1,.slice a9 n9 c9,sv fac9,.slice a8 n8 c8,sv lo.2,sv hi.2] 74,.hp H9] λq' hq'=>?_;apply hq';rw[eF (hi.1) (by rw[if_neg (λc=>s2 c.1.2)])]
   rotate_left
   focus
    apply hq';refine dQ rfl ?_;refine nQ [.hp c0,.hp h11,.box rb (J1 b (kx) ad nd cd) 155,.box b3 [.slice a n c] 28,.box b4 [zs,iQ 0,zs,zl,zs,zl,zs,zs] 74,.box b5 [iQ n] 3,.box b6 [.func (.func 173) #[] #[pQ b3]] 110,.box b7 [sv A.2,iQ op9,sv f9.1,.slice a9 n9 c9,sv fac9,.slice a8 n8 c8,sv lo.2,sv hi.2] 74,.hp H9] λq' hq'=>?_;refine lR 2 0 ?_;refine l6 (i:=1) rfl (λw0 w' hok=>m6 w' (hok.mem 1 _ rfl) (hok.kle rfl rfl hk) hR11) ?_;rintro _ h12 _ ⟨rfl,hR12⟩;have hR12:G9 k h12 b (x8 (hi.1) [59]):=hR12;apply hq';refine nQ [.hp c0,.hp h12,.box rb (J1 b (kx) ad nd cd) 155,.box b3 [.slice a n c] 28,.box b4 [zs,iQ 0,zs,zl,zs,zl,zs,zs] 74,.box b5 [iQ n] 3,.box b6 [.func (.func 173) #[] #[pQ b3]] 110,.box b7 [sv A.2,iQ op9,sv f9.1,.slice a9 n9 c9,sv fac9,.slice a8 n8 c8,sv lo.2,sv hi.2] 74,.hp H9] λq' hq'=>?_;apply hq';rw[eF (hi.1) (by rw[if_neg (λc=>s1 c.1.1)])]
   all_goals
    exact⟨h12,[.box rb (J1 b kx ad nd cd) 155,.hp H9],⟨_,_,rfl,⟨_,rfl,rfl,⟨[iQ op9,sv f9.1,.slice a9 n9 c9,sv fac9,.slice a8 n8 c8],rfl,hE9⟩⟩,⟨kx,rfl⟩,hR12⟩,pk [0,1,2,8]⟩
 all_goals
  refine o7 λq' hq'=>?_;have eF :∀R9,R9=(if (lo.2≠[]/\hi.2≠[])/\aA hi.1 [59]=true/\dF hi.2*dG lo.2 < dF lo.2*dG hi.2 then y7 hi.1 8 else hi.1)->rH names dims r=(x8 R9 [59],(A.2,E.2.2,lo.2,hi.2)):=by
   rintro _ rfl;unfold rH;dsimp only;rw[<-er2,<-hA,<-er4,<-hE,<-hlo0,<-hhi0]
  refine cG (b:=[]) ?_;refine d8 (λs1=>?_) λs1=>?_;focus
   refine cG (b:=[]) ?_;refine d8 (λs2=>?_) λs2=>?_
   ·refine lR 2 0 ?_;refine k7 _ (λw' hm=>S0 w' (hm 1 _ rfl) (hk.trans (hm 0 _ rfl).whole) hR12) ?_;apply hq';refine s8 (λs3=>?_) λs3=>?_;focus
     have h0:hi.1.e=0:=(S2 s3).1;have gL:Y3 lo.1:=by rw[hlo0];exact A7.good (A7.opt E.1 xN) gE
     have nH:I7 hi.2=0:=by
      rw[hhi0] at h0 s2 ⊢;split at h0
      ·rename_i q;rw[if_pos q];exact nF (A7.good (A7.next _) gL) h0
      ·rename_i q;rw[if_neg q] at s2;exact absurd rfl s2
     have l0:lo.1.e=0:=A7.ok (by rw[hhi0];exact A7.opt lo.1 YO) h0;have nL:I7 lo.2=0:=by
      rw[hlo0] at l0 s1 ⊢;split at l0
      ·rename_i q;rw[if_pos q];exact nF (A7.good (A7.next _) gE) l0
      ·rename_i q;rw[if_neg q] at s1;exact absurd rfl s1
     have lnL:=Q2 nL;have lnH:=Q2 nH;refine nQ [.hp c0,.hp h12,.box rb (J1 b (kx) ad nd cd) 155,.box b3 [.slice a n c] 28,.box b4 [zs,iQ 0,zs,zl,zs,zl,zs,zs] 74,.box b5 [iQ n] 3,.box b6 [.func (.func 173) #[] #[pQ b3]] 110,.box b7 [sv A.2,iQ op9,sv f9.1,.slice a9 n9 c9,sv fac9,.slice a8 n8 c8,sv lo.2,sv hi.2] 74,.hp H9] λq' hq'=>?_;refine call (λw' hm=>fE lo.2 om w') ?_;rintro _ _ ⟨g8,rfl,hRat1⟩;obtain⟨⟨m1,⟨p1,u1,v1⟩,⟨x1,y1,z1⟩⟩,rfl,hS1⟩:=eW hRat1 nL;intro b8;apply hq';refine nQ [.hp c0,.hp h12,.box rb (J1 b (kx) ad nd cd) 155,.box b3 [.slice a n c] 28,.box b4 [zs,iQ 0,zs,zl,zs,zl,zs,zs] 74,.box b5 [iQ n] 3,.box b6 [.func (.func 173) #[] #[pQ b3]] 110,.box b7 [sv A.2,iQ op9,sv f9.1,.slice a9 n9 c9,sv fac9,.slice a8 n8 c8,sv lo.2,sv hi.2] 74,.hp H9,.hp g8,.box b8 [.bool m1,.slice p1 u1 v1,.bool false,.slice x1 y1 z1] 141] λq' hq'=>?_;refine call (λw' hm=>fE hi.2 om w') ?_;rintro _ _ ⟨g9,rfl,hRat2⟩;obtain⟨⟨m2,⟨p2,u2,v2⟩,⟨x2,y2,z2⟩⟩,rfl,hS2⟩:=eW hRat2 nH;intro b9;obtain⟨X1,Y1,q1,q2,q3⟩:=hS1;obtain⟨X2,Y2,w1,w2,w3⟩:=hS2;apply hq';refine nQ [.hp c0,.hp h12,.box rb (J1 b (kx) ad nd cd) 155,.box b3 [.slice a n c] 28,.box b4 [zs,iQ 0,zs,zl,zs,zl,zs,zs] 74,.box b5 [iQ n] 3,.box b6 [.func (.func 173) #[] #[pQ b3]] 110,.box b7 [sv A.2,iQ op9,sv f9.1,.slice a9 n9 c9,sv fac9,.slice a8 n8 c8,sv lo.2,sv hi.2] 74,.hp H9,.hp g8,.box b8 [.bool m1,.slice p1 u1 v1,.bool false,.slice x1 y1 z1] 141,.hp g9,.box b9 [.bool m2,.slice p2 u2 v2,.bool false,.slice x2 y2 z2] 141] λq' hq'=>?_;refine k7 _ (λw' hm=>cS w' (q1.mono (hm 9 _ rfl).whole) (w1.mono (hm 11 _ rfl).whole)) ?_;rw[q2,q3,w2,w3];apply hq';refine d8 (λs4=>?_) λs4=>?_
     ·refine nQ [.hp c0,.hp h12,.box rb (J1 b (kx) ad nd cd) 155,.box b3 [.slice a n c] 28,.box b4 [zs,iQ 0,zs,zl,zs,zl,zs,zs] 74,.box b5 [iQ n] 3,.box b6 [.func (.func 173) #[] #[pQ b3]] 110,.box b7 [sv A.2,iQ op9,sv f9.1,.slice a9 n9 c9,sv fac9,.slice a8 n8 c8,sv lo.2,sv hi.2] 74,.hp H9,.hp g8,.box b8 [.bool m1,.slice p1 u1 v1,.bool false,.slice x1 y1 z1] 141,.hp g9,.box b9 [.bool m2,.slice p2 u2 v2,.bool false,.slice x2 y2 z2] 141] λq' hq'=>?_;refine lR 2 0 ?_;refine l6 (i:=1) rfl (λw0 w' hok=>G8 w' (hok.mem 1 _ rfl) (hok.kle rfl rfl hk) hR12) ?_;rintro _ h13 _ ⟨rfl,hR13⟩;have hR13:G9 k h13 b (y7 hi.1 8):=hR13;apply hq';refine nQ [.hp c0,.hp h13,.box rb (J1 b (kx) ad nd cd) 155,.box b3 [.slice a n c] 28,.box b4 [zs,iQ 0,zs,zl,zs,zl,zs,zs] 74,.box b5 [iQ n] 3,.box b6 [.func (.func 173) #[] #[pQ b3]] 110,.box b7 [sv A.2,iQ op9,sv f9.1,.slice a9 n9 c9,sv fac9,.slice a8 n8 c8,sv lo.2,sv hi.2] 74,.hp H9,.hp g8,.box b8 [.bool m1,.slice p1 u1 v1,.bool false,.slice x1 y1 z1] 141,.hp g9,.box b9 [.bool m2,.slice p2 u2 v2,.bool false,.slice x2 y2 z2] 141] λq' hq'=>?_;refine lR 2 0 ?_;refine l6 (i:=1) rfl (λw0 w' hok=>m6 w' (hok.mem 1 _ rfl) (hok.kle rfl rfl hk) hR13) ?_;rintro _ h14 _ ⟨rfl,hR14⟩;have hR14:G9 k h14 b (x8 (y7 hi.1 8) [59]):=hR14;apply hq';refine nQ [.hp c0,.hp h14,.box rb (J1 b (kx) ad nd cd) 155,.box b3 [.slice a n c] 28,.box b4 [zs,iQ 0,zs,zl,zs,zl,zs,zs] 74,.box b5 [iQ n] 3,.box b6 [.func (.func 173) #[] #[pQ b3]] 110,.box b7 [sv A.2,iQ op9,sv f9.1,.slice a9 n9 c9,sv fac9,.slice a8 n8 c8,sv lo.2,sv hi.2] 74,.hp H9,.hp g8,.box b8 [.bool m1,.slice p1 u1 v1,.bool false,.slice x1 y1 z1] 141,.hp g9,.box b9 [.bool m2,.slice p2 u2 v2,.bool false,.slice x2 y2 z2] 141] λq' hq'=>?_;apply hq';rw[eF (y7 hi.1 8) (by rw[if_pos ⟨⟨s1,s2⟩,s3,fL.1 s4⟩])];exact⟨h14,[.box rb (J1 b kx ad nd cd) 155,.hp H9],⟨_,_,rfl,⟨_,rfl,rfl,⟨[iQ op9,sv f9.1,.slice a9 n9 c9,sv fac9,.slice a8 n8 c8],rfl,hE9⟩⟩,⟨kx,rfl⟩,hR14⟩,pk [0,1,2,8]⟩
     focus
      refine nQ [.hp c0,.hp h12,.box rb (J1 b (kx) ad nd cd) 155,.box b3 [.slice a n c] 28,.box b4 [zs,iQ 0,zs,zl,zs,zl,zs,zs] 74,.box b5 [iQ n] 3,.box b6 [.func (.func 173) #[] #[pQ b3]] 110,.box b7 [sv A.2,iQ op9,sv f9.1,.slice a9 n9 c9,sv fac9,.slice a8 n8 c8,sv lo.2,sv hi.2] 74,.hp H9,.hp g8,.box b8 [.bool m1,.slice p1 u1 v1,.bool false,.slice x1 y1 z1] 141,.hp g9,.box b9 [.bool m2,.slice p2 u2 v2,.bool false,.slice x2 y2 z2] 141] λq' hq'=>?_;refine lR 2 0 ?_;refine l6 (i:=1) rfl (λw0 w' hok=>m6 w' (hok.mem 1 _ rfl) (hok.kle rfl rfl hk) hR12) ?_;rintro _ h13 _ ⟨rfl,hR13⟩;have hR13:G9 k h13 b (x8 (hi.1) [59]):=hR13;apply hq';refine nQ [.hp c0,.hp h13,.box rb (J1 b (kx) ad nd cd) 155,.box b3 [.slice a n c] 28,.box b4 [zs,iQ 0,zs,zl,zs,zl,zs,zs] 74,.box b5 [iQ n] 3,.box b6 [.func (.func 173) #[] #[pQ b3]] 110,.box b7 [sv A.2,iQ op9,sv f9.1,.slice a9 n9 c9,sv fac9,.slice a8 n8 c8,sv lo.2,sv hi.2] 74,.hp H9,.hp g8,.box b8 [.bool m1,.slice p1 u1 v1,.bool false,.slice x1 y1 z1] 141,.hp g9,.box b9 [.bool m2,.slice p2 u2 v2,.bool false,.slice x2 y2 z2] 141] λq' hq'=>?_;apply hq';rw[eF (hi.1) (by rw[if_neg (λc=>s4 (fL.2 c.2.2))])]
    rotate_left
    focus
     refine nQ [.hp c0,.hp h12,.box rb (J1 b (kx) ad nd cd) 155,.box b3 [.slice a n c] 28,.box b4 [zs,iQ 0,zs,zl,zs,zl,zs,zs] 74,.box b5 [iQ n] 3,.box b6 [.func (.func 173) #[] #[pQ b3]] 110,.box b7 [sv A.2,iQ op9,sv f9.1,.slice a9 n9 c9,sv fac9,.slice a8 n8 c8,sv lo.2,sv hi.2] 74,.hp H9] λq' hq'=>?_;refine lR 2 0 ?_;refine l6 (i:=1) rfl (λw0 w' hok=>m6 w' (hok.mem 1 _ rfl) (hok.kle rfl rfl hk) hR12) ?_;rintro _ h13 _ ⟨rfl,hR13⟩;have hR13:G9 k h13 b (x8 (hi.1) [59]):=hR13;apply hq';refine nQ [.hp c0,.hp h13,.box rb (J1 b (kx) ad nd cd) 155,.box b3 [.slice a n c] 28,.box b4 [zs,iQ 0,zs,zl,zs,zl,zs,zs] 74,.box b5 [iQ n] 3,.box b6 [.func (.func 173) #[] #[pQ b3]] 110,.box b7 [sv A.2,iQ op9,sv f9.1,.slice a9 n9 c9,sv fac9,.slice a8 n8 c8,sv lo.2,sv hi.2] 74,.hp H9] λq' hq'=>?_;apply hq';rw[eF (hi.1) (by rw[if_neg (λc=>by rw[s3] at c;cases c.2.1)])]
    all_goals
     exact⟨h13,[.box rb (J1 b kx ad nd cd) 155,.hp H9],⟨_,_,rfl,⟨_,rfl,rfl,⟨[iQ op9,sv f9.1,.slice a9 n9 c9,sv fac9,.slice a8 n8 c8],rfl,hE9⟩⟩,⟨kx,rfl⟩,hR13⟩,pk [0,1,2,8]⟩
   focus
    apply hq';refine dQ rfl ?_;refine nQ [.hp c0,.hp h12,.box rb (J1 b (kx) ad nd cd) 155,.box b3 [.slice a n c] 28,.box b4 [zs,iQ 0,zs,zl,zs,zl,zs,zs] 74,.box b5 [iQ n] 3,.box b6 [.func (.func 173) #[] #[pQ b3]] 110,.box b7 [sv A.2,iQ op9,sv f9.1,.slice a9 n9 c9,sv fac9,.slice a8 n8 c8,sv lo.2,sv hi.2] 74,.hp H9] λq' hq'=>?_;refine lR 2 0 ?_;refine l6 (i:=1) rfl (λw0 w' hok=>m6 w' (hok.mem 1 _ rfl) (hok.kle rfl rfl hk) hR12) ?_;rintro _ h13 _ ⟨rfl,hR13⟩;have hR13:G9 k h13 b (x8 (hi.1) [59]):=hR13;apply hq';refine nQ [.hp c0,.hp h13,.box rb (J1 b (kx) ad nd cd) 155,.box b3 [.slice a n c] 28,.box b4 [zs,iQ 0,zs,zl,zs,zl,zs,zs] 74,.box b5 [iQ n] 3,.box b6 [.func (.func 173) #[] #[pQ b3]] 110,.box b7 [sv A.2,iQ op9,sv f9.1,.slice a9 n9 c9,sv fac9,.slice a8 n8 c8,sv lo.2,sv hi.2] 74,.hp H9] λq' hq'=>?_;apply hq';rw[eF (hi.1) (by rw[if_neg (λc=>s2 c.1.2)])]
  rotate_left
  focus
   apply hq';refine dQ rfl ?_;refine nQ [.hp c0,.hp h12,.box rb (J1 b (kx) ad nd cd) 155,.box b3 [.slice a n c] 28,.box b4 [zs,iQ 0,zs,zl,zs,zl,zs,zs] 74,.box b5 [iQ n] 3,.box b6 [.func (.func 173) #[] #[pQ b3]] 110,.box b7 [sv A.2,iQ op9,sv f9.1,.slice a9 n9 c9,sv fac9,.slice a8 n8 c8,sv lo.2,sv hi.2] 74,.hp H9] λq' hq'=>?_;refine lR 2 0 ?_;refine l6 (i:=1) rfl (λw0 w' hok=>m6 w' (hok.mem 1 _ rfl) (hok.kle rfl rfl hk) hR12) ?_;rintro _ h13 _ ⟨rfl,hR13⟩;have hR13:G9 k h13 b (x8 (hi.1) [59]):=hR13;apply hq';refine nQ [.hp c0,.hp h13,.box rb (J1 b (kx) ad nd cd) 155,.box b3 [.slice a n c] 28,.box b4 [zs,iQ 0,zs,zl,zs,zl,zs,zs] 74,.box b5 [iQ n] 3,.box b6 [.func (.func 173) #[] #[pQ b3]] 110,.box b7 [sv A.2,iQ op9,sv f9.1,.slice a9 n9 c9,sv fac9,.slice a8 n8 c8,sv lo.2,sv hi.2] 74,.hp H9] λq' hq'=>?_;apply hq';rw[eF (hi.1) (by rw[if_neg (λc=>s1 c.1.1)])]
  all_goals
   exact⟨h13,[.box rb (J1 b kx ad nd cd) 155,.hp H9],⟨_,_,rfl,⟨_,rfl,rfl,⟨[iQ op9,sv f9.1,.slice a9 n9 c9,sv fac9,.slice a8 n8 c8],rfl,hE9⟩⟩,⟨kx,rfl⟩,hR13⟩,pk [0,1,2,8]⟩
end Go.Proofs.YtpjhmeicbjkcdaaGreatDoor
namespace Go.Proofs.YtpjhmeicbjkcdaaGreatDoor
open Go
theorem Hi {r:RS} {c m:Nat} (h:(J2 r c m).e=0):c < m:=by
 unfold J2 at h;split at h
 ·exact absurd h (bK r dc)
 ·omega
theorem UV (names:List e8) (r:RS):A7 (x8 (J2 r names.length 64) vC) (oB names r).1:=by
 unfold oB;dsimp only;exact (((((A7.nam _ _).trans (A7.exp _ _)).trans (A7.int _ _ _)).trans (A7.exp _ _)).trans (A7.cels _ _ _)).trans (A7.exp _ _)
theorem VT (parts names:List e8) (r:RS):A7 (x8 (J2 r names.length 12) vD) (BD parts names r).1:=by
 unfold BD;dsimp only;exact (((((((A7.nam _ _).trans (A7.exp _ _)).trans (A7.nam _ _)).trans (A7.exp _ _)).trans (A7.lst (λr=>A7.int r _ _) 4 _)).trans (A7.exp _ _)).trans (A7.lst A7.numb 3 _)).trans (A7.exp _ _)
theorem WU (names:List e8) (r:RS):A7 (x8 (J2 r names.length 64) qO) (BJ names r).1:=by
 unfold BJ wI;dsimp only;have h:=(((((((A7.nam (x8 (J2 r names.length 64) qO) (dY names)).trans (A7.exp _ [61])).trans (A7.int _ (-1073741824) 1073741824)).trans (A7.exp _ [91])).trans (A7.int _ (-1073741824) 1073741824)).trans (A7.exp _ [44])).trans (A7.int _ (-1073741824) 1073741824)).trans (A7.exp _ [93]);exact ((h.trans (A7.fail _ 8)).ite h).trans (A7.exp _ _)
theorem XF (names dims:List e8) (r:RS):A7 (x8 (J2 r names.length 64) qP) (wN names dims r).1:=by
 unfold wN;dsimp only;have h:=(((A7.nam (x8 (J2 r names.length 64) qP) (dY names)).trans (A7.exp _ [58])).trans (A7.for dims _)).trans (A7.exp _ [60,61]);exact (((h.trans (A7.fail _ 14)).ite h).trans (A7.next _)).trans (A7.exp _ _)
theorem UA (names dims:List e8) (r:RS):A7 (x8 (J2 r names.length 64) qN) (rH names dims r).1:=by
 unfold rH;dsimp only;have h:=((((A7.nam (x8 (J2 r names.length 64) qN) (dY names)).trans (A7.exp _ [58])).trans (A7.expr dims 8 _ 0)).trans (A7.opt _ xN)).trans (A7.opt _ YO);exact ((h.trans (A7.fail _ 8)).ite h).trans (A7.exp _ _)
structure JG {α:Type} (w:e8) (tk:List α->RS->RS×α) (m:Nat) (tot:RS×List α) (r:RS) (out:List α):Prop where
 t :∃f,J5 r<=f/\pF w tk f r out=tot
 l:out.length<=m+1
 k:r.e=0->out.length<=m
 g:Y3 r
section
variable {α:Type} {w:e8} {tk:List α->RS->RS×α} {m:Nat} {tot:RS×List α} {r:RS} {out:List α}
theorem JG.zero (g:Y3 r):JG w tk m (pF w tk (J5 r) r []) r []:=⟨⟨J5 r,k8 _,rfl⟩,f8 _,λ_=>f8 _,g⟩
theorem JG.next (ht:A7 (x8 (J2 r out.length m) w) (tk out r).1) (h:JG w tk m tot r out) (hi:aA r w=true):JG w tk m tot (tk out r).1 (out++[(tk out r).2])/\J5 (tk out r).1 < J5 r:=by
 have h0:=(S2 hi).1;have hlt:J5 (tk out r).1 < J5 r:=s7 ht.rem (pE h.g.l hi);have hm:=h.k h0;obtain⟨f,hf,e⟩:=h.t;have ha:A7 r (tk out r).1:=((A7.lim r _ _).trans (A7.exp _ _)).trans ht;refine⟨⟨?_,by rw[d6];simp only[d7,d9];omega,λe0=>?_,ha.good h.g⟩,hlt⟩
 ·cases f with
  | zero=>exact absurd hf om
  | succ f=>
   refine⟨f,om,?_⟩;rw[<-e];conv=>rhs;unfold pF
   rw[if_pos hi]
 ·have:=Hi ((A7.exp _ w).ok (ht.ok e0));rw[d6];simp only[d7,d9];omega
theorem JG.done (h:JG w tk m tot r out) (hi:aA r w=false):tot=(r,out):=by
 obtain⟨f,hf,e⟩:=h.t;rw[<-e];cases f with
 | zero=>rfl
 | succ f=>unfold pF;rw[if_neg (by rw[hi];decide)]
end
end Go.Proofs.YtpjhmeicbjkcdaaGreatDoor
namespace Go.Dw
open Go Go.RowKit
theorem Ok.leI {w0 w:World} {s:List Ch} (hok:Ok w0 s w) {i j:Nat} {h:Hp} {x:Ch} (hne:j≠i) (hj:m8 s j=some x) (hi:m8 s i=some (.hp h)):x.h.le ((Hp.whole w).minus h):=
 Hp.le_minus (hok.mem j _ hj).whole (hok.disj j i _ _ hne hj hi)
end Go.Dw
namespace Go.Proofs.YtpjhmeicbjkcdaaGreatDoor
open Go Go.RowKit Go.Dw
theorem KR {k h:Hp} {rb b:Nat} {r:RS} {a:Option Addr} {n c:Nat} {L:List W3} (w:World) (hin:h.In w) (hd:DR ((Hp.whole w).minus h) k h rb b r) (hL:Sl bN 3 ((Hp.whole w).minus h) a n c L) (hn:L.length < 1000000) :
  j6 Tryz.prog 80 #[pQ rb,.slice a n c] w (O6 w h λv h' cs=>∃H a9 n9 c9,cs = [.hp H]/\(v=.agg #[sv (oB (L.map λx:W3=>x.1) r).2.1,iQ (oB (L.map λx:W3=>x.1) r).2.2.1,.slice a9 n9 c9]/\Sl pN 1 H a9 n9 c9 (oB (L.map λx:W3=>x.1) r).2.2.2/\G9 k h' b (oB (L.map λx:W3=>x.1) r).1)):=by
 have h0:=GV w hin hd hL hn;refine⟨h0.1,h0.2.mono λe w' he=>?_⟩;obtain⟨v,h',cs,rfl,hok,o,H,rfl,rfl,hG,hR⟩:=he;have hdj:H.dj o.h:=hok.disj 2 3 _ _ dc rfl rfl;exact⟨_,h',[.hp (H.join o.h)],rfl,(Ok.join (hok.pick [0,2,3,1] rfl rfl)).pick [0,2,1] rfl rfl,H.join o.h,o.a,o.n,o.c,rfl,rfl,hG.sl S6 dc (Hp.le_join_l _ _) (Hp.le_join_r hdj),hR⟩
def UT:jL:=⟨[],[],[],[],[],[]⟩
def pB (s:e8):jL×Int×Int×Int:=if (yN s).1.e≠0 then (UT,(yN s).1.ln,(yN s).1.co,(yN s).1.e) else ((yN s).2,0,0,0)
theorem Ec (d:Nat) (H:Hp):qB d H UT [zs,zl,zl,zl,zl,zl]:=
 ⟨⟨none,0,0,none,0,0,none,0,0,none,0,0,none,0,0,rfl,Sl.nil _ _ _ _ _,Sl.nil _ _ _ _ _,Sl.nil _ _ _ _ _,Sl.nil _ _ _ _ _,Sl.nil _ _ _ _ _⟩⟩
theorem UW (s:e8):Y3 (yV s):=Y3.new (tT s).1
set_option maxHeartbeats 4000000 in
set_option maxRecDepth 10000 in
theorem AO (s:e8) (w:World) (hT:kU (Hp.whole w)) :
  j6 Tryz.prog 22 #[sv s] w (fD w λv cs=>∃H xs,cs = [.hp H]/\v=.tuple #[.agg xs.toArray,iQ (pB s).2.1,iQ (pB s).2.2.1,iQ (pB s).2.2.2]/\xs.length=6/\qB 9 H (pB s).1 xs):=by
 refine enterZ (cx 125) [sv s] [.cell 2 30,.tmp 3,.tmp 4,.tmp 5] Tryz.func22 ?_;intro b2;refine o7 λq' hq'=>?_;apply hq';refine nQ [.hp (Hp.whole w),.box b2 [zs,zl,zl,zl,zl,zl] 30] λq' hq'=>?_;refine call (λw' hm=>XU s w' (hT.mono (hm 0 _ rfl).whole)) ?_;rintro _ _ ⟨b,h,k,rfl,rfl,hR⟩;obtain⟨r,hr⟩ :∃r,r=yV s:=⟨_,rfl⟩
 have hg:Y3 r:=by rw[hr];exact UW s
 rw[<-hr] at hR;intro rb;apply hq';refine nQ [.hp (Hp.whole w),.box b2 [zs,zl,zl,zl,zl,zl] 30,.hp h,.hp k,.box rb [pQ b,zl,iQ 0] 155] λq' hq'=>?_;refine l6 (i:=2) rfl (λw0 w' hok=>m6 w' (hok.mem 2 _ rfl) (hok.leI (i:=2) (j:=3) dc rfl rfl) hR) ?_;rintro _ h1 _ ⟨rfl,hR1⟩;have hR1:G9 k h1 b (x8 r NF):=hR1;obtain⟨r1,er1⟩ :∃x,x=x8 r NF:=⟨_,rfl⟩
 rw[<-er1] at hR1;apply hq';refine nQ [.hp (Hp.whole w),.box b2 [zs,zl,zl,zl,zl,zl] 30,.hp h1,.hp k,.box rb [pQ b,zl,iQ 0] 155] λq' hq'=>?_;refine l6 (i:=2) rfl (λw0 w' hok=>P8 (cap:=[]) (chk:=λ_=>0) w' (hok.mem 2 _ rfl) (DR.mk (hok.leI (i:=2) (j:=3) dc rfl rfl) hR1 ((hok.leI (i:=2) (j:=4) dc rfl rfl).cell (J3 rb _ rfl))) (λw1 hi1 s _=>BN s w1)) ?_;rintro _ h2 _ ⟨rfl,rfl,hR2⟩;obtain⟨A,hA⟩ :∃x,x=P2 r1 (λ_=>0):=⟨_,rfl⟩
 rw[<-hA] at hR2 ⊢;apply hq';refine nQ [.hp (Hp.whole w),.box b2 [sv A.2,zl,zl,zl,zl,zl] 30,.hp h2,.hp k,.box rb [pQ b,zl,iQ 0] 155] λq' hq'=>?_;refine l6 (i:=2) rfl (λw0 w' hok=>m6 w' (hok.mem 2 _ rfl) (hok.leI (i:=2) (j:=3) dc rfl rfl) hR2) ?_;rintro _ h3 _ ⟨rfl,hR3⟩;have hR3:G9 k h3 b (x8 A.1 [59]):=hR3;obtain⟨r3,er3⟩ :∃x,x=x8 A.1 [59]:=⟨_,rfl⟩
 rw[<-er3] at hR3;have g3:Y3 r3:=by
  rw[er3,hA,er1];exact A7.good (((A7.exp r NF).trans (A7.nam _ _)).trans (A7.exp _ _)) hg
 apply hq';obtain⟨tp,etp⟩ :∃x,x=pF vC (λout r=>oB (out.map (·.1)) r) (J5 r3) r3 []:=⟨_,rfl⟩
 refine u6.mkS (RS×List W3×Hp×Hp×Dw.Os) (λ_=>[(2,.bx 3 0),(6,.v (pQ rb))]) (λg=>[.hp (Hp.whole w),.hp g.2.2.1,.box rb [pQ b,zl,iQ 0] 155,.box b2 [sv A.2,g.2.2.2.2.v,zl,zl,zl,zl] 30,.hp k,.hp g.2.2.2.1,.hp g.2.2.2.2.h]) (λg=>G9 k g.2.2.1 b g.1/\JG vC (λout r=>oB (out.map (·.1)) r) 64 tp g.1 g.2.1/\aT bN 83 3 g.2.2.2.1 g.2.2.2.2 g.2.1) (λg=>J5 g.1) (r3,[],h3,Hp.emp,Dw.Os.nil) ⟨hR3,by rw[etp];exact JG.zero g3,aT.nil⟩ (v6.mk (λ_ _ h=>(h.pick [0,2,4,1,3] rfl rfl).emp.emp) rfl rfl) ?_;rintro⟨rr,out,hp,HHp,op⟩ ⟨hRp,hI,hGp⟩ hsat;dsimp only at hRp hI hGp ⊢;refine o7 λq' hq'=>?_;refine lR 2 0 ?_;refine k7 _ (λw' hm=>S0 (s:=vC) w' (hm 1 _ rfl) (hm 4 _ rfl).whole hRp) ?_;apply hq';refine s8 (λg1=>?_) λg1=>?_
 ·have hlo:out.length<=64:=hI.k (S2 g1).1;obtain⟨hI2,hlt⟩:=hI.next (by have:=UV (out.map (·.1)) rr;rw[l7] at this;exact this) g1;obtain⟨B,hB⟩ :∃x,x=oB (out.map (·.1)) rr:=⟨_,rfl⟩
  try dsimp only at hI2 hlt
  rw[<-hB] at hI2 hlt;refine s6.cut (Hp×Hp×Dw.Os) (λ_=>[(2,.bx 3 0),(6,.v (pQ rb))]) (λg=>[.hp (Hp.whole w),.hp g.1,.box rb [pQ b,zl,iQ 0] 155,.box b2 [sv A.2,g.2.2.v,zl,zl,zl,zl] 30,.hp k,.hp g.2.1,.hp g.2.2.h]) (λg=>G9 k g.1 b B.1/\aT bN 83 3 g.2.1 g.2.2 (out++[B.2])) (s6.by_order0 (s0:=[.hp (Hp.whole w),.hp Hp.emp,.box rb [pQ b,zl,iQ 0] 155,.box b2 [sv A.2,op.v,zl,zl,zl,zl] 30,.hp k,.hp HHp,.hp Hp.emp]) cQ (.take 0 <| .take 1 <| .take 2 <| .take 3 <| .take 4 <| .take 5 <| .take 6 <| .run 7 <| .run 8 <| .run 9 <| .run 10 <| .run 11 <| .run 12 <| .done) kr (sK) ?_) ?_
  ·refine l6 (i:=1) rfl (λw0 w' hok=>KR (L:=out) w' (hok.mem 1 _ rfl) (DR.mk (hok.leI (i:=1) (j:=4) dc rfl rfl) hRp (hok.bx1 (j:=2) (n:=0) rfl rfl dc rfl)) (hGp.sl I9 dc (hok.leI (i:=1) (j:=5) dc rfl rfl) (hok.leI (i:=1) (j:=6) dc rfl rfl)) om) ?_;rintro _ h9 _ ⟨H9,a9,n9,c9,rfl,rfl,hC9,hR9⟩;rw[<-hB] at hC9 hR9 ⊢;refine⟨sK,?_⟩;intro b9;refine⟨sK,?_⟩;refine oL (R:=bN) (o:=op) (L:=out) (H:=HHp.join H9) cQ (e:=83) rfl (i:=6) rfl (λ_=>hGp.mono I9 (Hp.le_join_l _ _)) B.2 [sv B.2.1,iQ B.2.2.1,.slice a9 n9 c9] (j:=8) rfl rfl rfl rfl om (λhs=>?_) λo2 _ hG2=>?_
   ·obtain⟨w0,w',hok⟩:=hs;exact⟨a9,n9,c9,rfl,hC9.mono S6 (Hp.le_join_r (hok.disj 5 7 _ _ dc rfl rfl))⟩
   refine⟨sK,?_⟩;exact⟨(h9,HHp.join H9,o2),⟨hR9,hG2⟩,v6.mk (λ_ _ h=>(Ok.join (h.pick [0,5,7,1,2,3,4,6] rfl rfl)).pick [0,2,3,4,5,1,6] rfl rfl) rfl rfl⟩
  rintro⟨h9,H9,o9⟩ ⟨hR9,hG9⟩ _;dsimp only at hR9 hG9 ⊢;exact⟨(B.1,out++[B.2],h9,H9,o9),⟨hR9,hI2,hG9⟩,hlt,v6.mk (λ_ _ h=>h) rfl rfl⟩
 have ep:=hI.done g1;have hlp:out.length<=65:=hI.l;have hgp:Y3 rr:=hI.g;obtain⟨rp,erp⟩ :∃x,x=tp.1:=⟨_,rfl⟩
 have eop:out=tp.2:=by rw[ep]
 have ewp:rr=rp:=by rw[erp,ep]
 rw[ewp] at hRp hgp;rw[eop] at hGp hlp;clear hI ep ewp eop hsat;obtain⟨ti,eti⟩ :∃x,x=pF vD (λout r=>BD (tp.2.map (·.1)) (out.map (·.1)) r) (J5 rp) rp []:=⟨_,rfl⟩
 refine u6.mkS (RS×List mX×Hp×Dw.Os) (λ_=>[(2,.bx 3 0),(6,.v (pQ rb))]) (λg=>[.hp (Hp.whole w),.hp g.2.2.1,.box rb [pQ b,zl,iQ 0] 155,.box b2 [sv A.2,op.v,g.2.2.2.v,zl,zl,zl] 30,.hp k,.hp HHp,.hp op.h,.hp g.2.2.2.h]) (λg=>G9 k g.2.2.1 b g.1/\JG vD (λout r=>BD (tp.2.map (·.1)) (out.map (·.1)) r) 12 ti g.1 g.2.1/\w8 dM 93 9 g.2.2.2 g.2.1) (λg=>J5 g.1) (rp,[],hp,Dw.Os.nil) ⟨hRp,by rw[eti];exact JG.zero hgp,w8.nil _ _ _⟩ (v6.mk (λ_ _ h=>h.emp) rfl rfl) ?_;rintro⟨rr,out,hi,oi⟩ ⟨hRi,hI,hGi⟩ hsat;dsimp only at hRi hI hGi ⊢;refine o7 λq' hq'=>?_;refine lR 2 0 ?_;refine k7 _ (λw' hm=>S0 (s:=vD) w' (hm 1 _ rfl) (hm 4 _ rfl).whole hRi) ?_;apply hq';refine s8 (λg1=>?_) λg1=>?_
 ·have hlo:out.length<=12:=hI.k (S2 g1).1;obtain⟨hI2,hlt⟩:=hI.next (by have:=VT (tp.2.map (·.1)) (out.map (·.1)) rr;rw[l7] at this;exact this) g1;obtain⟨B,hB⟩ :∃x,x=BD (tp.2.map (·.1)) (out.map (·.1)) rr:=⟨_,rfl⟩
  try dsimp only at hI2 hlt
  rw[<-hB] at hI2 hlt;refine s6.cut (Hp×Dw.Os) (λ_=>[(2,.bx 3 0),(6,.v (pQ rb))]) (λg=>[.hp (Hp.whole w),.hp g.1,.box rb [pQ b,zl,iQ 0] 155,.box b2 [sv A.2,op.v,g.2.v,zl,zl,zl] 30,.hp k,.hp HHp,.hp op.h,.hp g.2.h]) (λg=>G9 k g.1 b B.1/\w8 dM 93 9 g.2 (out++[B.2])) (s6.by_order0 (s0:=[.hp (Hp.whole w),.hp Hp.emp,.box rb [pQ b,zl,iQ 0] 155,.box b2 [sv A.2,op.v,oi.v,zl,zl,zl] 30,.hp k,.hp HHp,.hp op.h,.hp Hp.emp]) cQ (.take 0 <| .take 1 <| .take 2 <| .take 3 <| .take 4 <| .take 5 <| .run 6 <| .run 7 <| .run 8 <| .run 9 <| .run 10 <| .run 11 <| .done) kr (sK) ?_) ?_
  ·refine l6 (i:=1) rfl (λw0 w' hok=>wK (L:=out) (P:=tp.2) w' (hok.mem 1 _ rfl) (DR.mk (hok.leI (i:=1) (j:=4) dc rfl rfl) hRi (hok.bx1 (j:=2) (n:=0) rfl rfl dc rfl)) ((w8.sl (f:=dM) (λ_=>rfl) dc hGi).mono (j7 _) (hok.leI (i:=1) (j:=7) dc rfl rfl)) om (hGp.sl I9 dc (hok.leI (i:=1) (j:=5) dc rfl rfl) (hok.leI (i:=1) (j:=6) dc rfl rfl)) om) ?_;rintro _ h9 _ ⟨rfl,rfl,hR9⟩;rw[<-hB] at hR9 ⊢;refine⟨sK,?_⟩;intro b9;refine⟨sK,?_⟩;refine gF (f:=dM) cQ (e:=93) rfl (i:=7) rfl hGi B.2 (j:=8) rfl rfl rfl rfl om λo2 hG2=>?_;refine⟨sK,?_⟩;exact⟨(h9,o2),⟨hR9,hG2⟩,v6.mk (pj [0,1,2,3,4,5,6,7]) rfl rfl⟩
  rintro⟨h9,o9⟩ ⟨hR9,hG9⟩ _;dsimp only at hR9 hG9 ⊢;exact⟨(B.1,out++[B.2],h9,o9),⟨hR9,hI2,hG9⟩,hlt,v6.mk (λ_ _ h=>h) rfl rfl⟩
 have ei:=hI.done g1;have hli:out.length<=13:=hI.l;have hgi:Y3 rr:=hI.g;obtain⟨ri,eri⟩ :∃x,x=ti.1:=⟨_,rfl⟩
 have eoi:out=ti.2:=by rw[ei]
 have ewi:rr=ri:=by rw[eri,ei]
 rw[ewi] at hRi hgi;rw[eoi] at hGi hli;clear hI ei ewi eoi hsat;obtain⟨td,etd⟩ :∃x,x=pF qO (λout r=>BJ (out.map (·.1)) r) (J5 ri) ri []:=⟨_,rfl⟩
 refine u6.mkS (RS×List S1×Hp×Dw.Os) (λ_=>[(2,.bx 3 0),(6,.v (pQ rb))]) (λg=>[.hp (Hp.whole w),.hp g.2.2.1,.box rb [pQ b,zl,iQ 0] 155,.box b2 [sv A.2,op.v,oi.v,g.2.2.2.v,zl,zl] 30,.hp k,.hp HHp,.hp op.h,.hp oi.h,.hp g.2.2.2.h]) (λg=>G9 k g.2.2.1 b g.1/\JG qO (λout r=>BJ (out.map (·.1)) r) 64 td g.1 g.2.1/\w8 O1 48 4 g.2.2.2 g.2.1) (λg=>J5 g.1) (ri,[],hi,Dw.Os.nil) ⟨hRi,by rw[etd];exact JG.zero hgi,w8.nil _ _ _⟩ (v6.mk (λ_ _ h=>h.emp) rfl rfl) ?_;rintro⟨rr,out,hd,od⟩ ⟨hRd,hI,hGd⟩ hsat;dsimp only at hRd hI hGd ⊢;refine o7 λq' hq'=>?_;refine lR 2 0 ?_;refine k7 _ (λw' hm=>S0 (s:=qO) w' (hm 1 _ rfl) (hm 4 _ rfl).whole hRd) ?_;apply hq';refine s8 (λg1=>?_) λg1=>?_
 ·have hlo:out.length<=64:=hI.k (S2 g1).1;obtain⟨hI2,hlt⟩:=hI.next (by have:=WU (out.map (·.1)) rr;rw[l7] at this;exact this) g1;obtain⟨B,hB⟩ :∃x,x=BJ (out.map (·.1)) rr:=⟨_,rfl⟩
  try dsimp only at hI2 hlt
  rw[<-hB] at hI2 hlt;refine s6.cut (Hp×Dw.Os) (λ_=>[(2,.bx 3 0),(6,.v (pQ rb))]) (λg=>[.hp (Hp.whole w),.hp g.1,.box rb [pQ b,zl,iQ 0] 155,.box b2 [sv A.2,op.v,oi.v,g.2.v,zl,zl] 30,.hp k,.hp HHp,.hp op.h,.hp oi.h,.hp g.2.h]) (λg=>G9 k g.1 b B.1/\w8 O1 48 4 g.2 (out++[B.2])) (s6.by_order0 (s0:=[.hp (Hp.whole w),.hp Hp.emp,.box rb [pQ b,zl,iQ 0] 155,.box b2 [sv A.2,op.v,oi.v,od.v,zl,zl] 30,.hp k,.hp HHp,.hp op.h,.hp oi.h,.hp Hp.emp]) cQ (.take 0 <| .take 1 <| .take 2 <| .take 3 <| .take 4 <| .run 5 <| .run 6 <| .run 7 <| .run 8 <| .run 9 <| .done) kr (sK) ?_) ?_
  ·refine l6 (i:=1) rfl (λw0 w' hok=>uK (L:=out) w' (hok.mem 1 _ rfl) (DR.mk (hok.leI (i:=1) (j:=4) dc rfl rfl) hRd (hok.bx1 (j:=2) (n:=0) rfl rfl dc rfl)) ((w8.sl (f:=O1) (λ_=>rfl) dc hGd).mono (j7 _) (hok.leI (i:=1) (j:=8) dc rfl rfl)) om) ?_;rintro _ h9 _ ⟨rfl,rfl,hR9⟩;rw[<-hB] at hR9 ⊢;refine⟨sK,?_⟩;intro b9;refine⟨sK,?_⟩;refine gF (f:=O1) cQ (e:=48) rfl (i:=8) rfl hGd B.2 (j:=9) rfl rfl rfl rfl om λo2 hG2=>?_;refine⟨sK,?_⟩;exact⟨(h9,o2),⟨hR9,hG2⟩,v6.mk (pj [0,1,2,3,4,5,6,7,8]) rfl rfl⟩
  rintro⟨h9,o9⟩ ⟨hR9,hG9⟩ _;dsimp only at hR9 hG9 ⊢;exact⟨(B.1,out++[B.2],h9,o9),⟨hR9,hI2,hG9⟩,hlt,v6.mk (λ_ _ h=>h) rfl rfl⟩
 have ed:=hI.done g1;have hld:out.length<=65:=hI.l;have hgd:Y3 rr:=hI.g;obtain⟨rd,erd⟩ :∃x,x=td.1:=⟨_,rfl⟩
 have eod:out=td.2:=by rw[ed]
 have ewd:rr=rd:=by rw[erd,ed]
 rw[ewd] at hRd hgd;rw[eod] at hGd hld;clear hI ed ewd eod hsat;refine nQ [.hp (Hp.whole w),.hp hd,.box rb [pQ b,zl,iQ 0] 155,.box b2 [sv A.2,op.v,oi.v,od.v,zl,zl] 30,.hp k,.hp HHp,.hp op.h,.hp oi.h,.hp od.h] λq' hq'=>?_;refine fI cQ (i:=2) (j:=1) rfl rfl rfl (by show 1 < 3;decide) rfl rfl ?_;apply hq';obtain⟨tc,etc⟩ :∃x,x=pF qP (λout r=>wN (out.map (·.1)) (td.2.map (·.1)) r) (J5 rd) rd []:=⟨_,rfl⟩
 refine u6.mkS (RS×List kY×Hp×Hp×Dw.Os) (λ_=>[(2,.bx 3 0),(6,.v (pQ rb))]) (λg=>[.hp (Hp.whole w),.hp g.2.2.1,.box rb (J1 b 0 od.a od.n od.c) 155,.box b2 [sv A.2,op.v,oi.v,od.v,g.2.2.2.2.v,zl] 30,.hp k,.hp HHp,.hp op.h,.hp oi.h,.hp od.h,.hp g.2.2.2.1,.hp g.2.2.2.2.h]) (λg=>G9 k g.2.2.1 b g.1/\JG qP (λout r=>wN (out.map (·.1)) (td.2.map (·.1)) r) 64 tc g.1 g.2.1/\aT kM 96 3 g.2.2.2.1 g.2.2.2.2 g.2.1) (λg=>J5 g.1) (rd,[],hd,Hp.emp,Dw.Os.nil) ⟨hRd,by rw[etc];exact JG.zero hgd,aT.nil⟩ (v6.mk (λ_ _ h=>h.emp.emp) rfl rfl) ?_;rintro⟨rr,out,hc,HHc,oc⟩ ⟨hRc,hI,hGc⟩ hsat;dsimp only at hRc hI hGc ⊢;refine o7 λq' hq'=>?_;refine lR 2 0 ?_;refine k7 _ (λw' hm=>S0 (s:=qP) w' (hm 1 _ rfl) (hm 4 _ rfl).whole hRc) ?_;apply hq';refine s8 (λg1=>?_) λg1=>?_
 ·have hlo:out.length<=64:=hI.k (S2 g1).1;obtain⟨hI2,hlt⟩:=hI.next (by have:=XF (out.map (·.1)) (td.2.map (·.1)) rr;rw[l7] at this;exact this) g1;obtain⟨B,hB⟩ :∃x,x=wN (out.map (·.1)) (td.2.map (·.1)) rr:=⟨_,rfl⟩
  try dsimp only at hI2 hlt
  rw[<-hB] at hI2 hlt;refine s6.cut (Hp×Hp×Dw.Os) (λ_=>[(2,.bx 3 0),(6,.v (pQ rb))]) (λg=>[.hp (Hp.whole w),.hp g.1,.box rb (J1 b 0 od.a od.n od.c) 155,.box b2 [sv A.2,op.v,oi.v,od.v,g.2.2.v,zl] 30,.hp k,.hp HHp,.hp op.h,.hp oi.h,.hp od.h,.hp g.2.1,.hp g.2.2.h]) (λg=>G9 k g.1 b B.1/\aT kM 96 3 g.2.1 g.2.2 (out++[B.2])) (s6.by_order0 (s0:=[.hp (Hp.whole w),.hp Hp.emp,.box rb (J1 b 0 od.a od.n od.c) 155,.box b2 [sv A.2,op.v,oi.v,od.v,oc.v,zl] 30,.hp k,.hp HHp,.hp op.h,.hp oi.h,.hp od.h,.hp HHc,.hp Hp.emp]) cQ (.take 0 <| .take 1 <| .take 2 <| .take 3 <| .take 4 <| .run 5 <| .run 6 <| .run 7 <| .run 8 <| .run 9 <| .done) kr (sK) ?_) ?_
  ·refine l6 (i:=1) rfl (λw0 w' hok=>sY (L:=out) (DD:=td.2) w' (hok.mem 1 _ rfl) (DR.mk (hok.leI (i:=1) (j:=4) dc rfl rfl) hRc (hok.bx1 (j:=2) (n:=0) rfl rfl dc rfl)) (hGc.sl S5 dc (hok.leI (i:=1) (j:=9) dc rfl rfl) (hok.leI (i:=1) (j:=10) dc rfl rfl)) om (hok.bx1 (j:=2) (n:=1) rfl rfl dc rfl) ((w8.sl (f:=O1) (λ_=>rfl) dc hGd).mono (j7 _) (hok.leI (i:=1) (j:=8) dc rfl rfl)) om) ?_;rintro _ h9 _ ⟨o9,rfl,rfl,hC9,hR9⟩;rw[<-hB] at hC9 hR9 ⊢;refine⟨sK,?_⟩;intro b9;refine⟨sK,?_⟩;refine oL (R:=kM) (o:=oc) (L:=out) (H:=HHc.join o9.h) cQ (e:=96) rfl (i:=10) rfl (λ_=>hGc.mono S5 (Hp.le_join_l _ _)) B.2 [sv B.2.1,sv B.2.2.1,o9.v] (j:=12) rfl rfl rfl rfl om (λhs=>?_) λo2 _ hG2=>?_
   ·obtain⟨w0,w',hok⟩:=hs;exact⟨o9.a,o9.n,o9.c,rfl,(w8.sl (f:=U0) (sz:=2) (λ_=>rfl) dc hC9).mono (j7 _) (Hp.le_join_r (hok.disj 9 11 _ _ dc rfl rfl))⟩
   refine⟨sK,?_⟩;exact⟨(h9,HHc.join o9.h,o2),⟨hR9,hG2⟩,v6.mk (λ_ _ h=>(Ok.join (h.pick [0,9,11,1,2,3,4,5,6,7,8,10] rfl rfl)).pick [0,2,3,4,5,6,7,8,9,1,10] rfl rfl) rfl rfl⟩
  rintro⟨h9,H9,o9⟩ ⟨hR9,hG9⟩ _;dsimp only at hR9 hG9 ⊢;exact⟨(B.1,out++[B.2],h9,H9,o9),⟨hR9,hI2,hG9⟩,hlt,v6.mk (λ_ _ h=>h) rfl rfl⟩
 have ec:=hI.done g1;have hlc:out.length<=65:=hI.l;have hgc:Y3 rr:=hI.g;obtain⟨rc,erc⟩ :∃x,x=tc.1:=⟨_,rfl⟩
 have eoc:out=tc.2:=by rw[ec]
 have ewc:rr=rc:=by rw[erc,ec]
 rw[ewc] at hRc hgc;rw[eoc] at hGc hlc;clear hI ec ewc eoc hsat;obtain⟨tq,etq⟩ :∃x,x=pF qN (λout r=>rH (out.map (·.1)) (td.2.map (·.1)) r) (J5 rc) rc []:=⟨_,rfl⟩
 refine u6.mkS (RS×List kV×Hp×Hp×Dw.Os×Nat) (λ_=>[(2,.bx 3 0),(6,.v (pQ rb))]) (λg=>[.hp (Hp.whole w),.hp g.2.2.1,.box rb (J1 b (g.2.2.2.2.2) od.a od.n od.c) 155,.box b2 [sv A.2,op.v,oi.v,od.v,oc.v,g.2.2.2.2.1.v] 30,.hp k,.hp HHp,.hp op.h,.hp oi.h,.hp od.h,.hp HHc,.hp oc.h,.hp g.2.2.2.1,.hp g.2.2.2.2.1.h]) (λg=>G9 k g.2.2.1 b g.1/\JG qN (λout r=>rH (out.map (·.1)) (td.2.map (·.1)) r) 64 tq g.1 g.2.1/\aT (jJ 9) 74 8 g.2.2.2.1 g.2.2.2.2.1 g.2.1) (λg=>J5 g.1) (rc,[],hc,Hp.emp,Dw.Os.nil,0) ⟨hRc,by rw[etq];exact JG.zero hgc,aT.nil⟩ (v6.mk (λ_ _ h=>h.emp.emp) rfl rfl) ?_;rintro⟨rr,out,hq,HHq,oq,kq⟩ ⟨hRq,hI,hGq⟩ hsat;dsimp only at hRq hI hGq ⊢;have hsat0:=hsat;refine o7 λq' hq'=>?_;refine lR 2 0 ?_;refine k7 _ (λw' hm=>S0 (s:=qN) w' (hm 1 _ rfl) (hm 4 _ rfl).whole hRq) ?_;apply hq';refine s8 (λg1=>?_) λg1=>?_
 ·have hlo:out.length<=64:=hI.k (S2 g1).1;obtain⟨hI2,hlt⟩:=hI.next (by have:=UA (out.map (·.1)) (td.2.map (·.1)) rr;rw[l7] at this;exact this) g1;obtain⟨B,hB⟩ :∃x,x=rH (out.map (·.1)) (td.2.map (·.1)) rr:=⟨_,rfl⟩
  try dsimp only at hI2 hlt
  rw[<-hB] at hI2 hlt;refine s6.cut (Hp×Hp×Dw.Os×Nat) (λ_=>[(2,.bx 3 0),(6,.v (pQ rb))]) (λg=>[.hp (Hp.whole w),.hp g.1,.box rb (J1 b (g.2.2.2) od.a od.n od.c) 155,.box b2 [sv A.2,op.v,oi.v,od.v,oc.v,g.2.2.1.v] 30,.hp k,.hp HHp,.hp op.h,.hp oi.h,.hp od.h,.hp HHc,.hp oc.h,.hp g.2.1,.hp g.2.2.1.h]) (λg=>G9 k g.1 b B.1/\aT (jJ 9) 74 8 g.2.1 g.2.2.1 (out++[B.2])) (s6.by_order0 (s0:=[.hp (Hp.whole w),.hp Hp.emp,.hp Hp.emp,.box b2 [sv A.2,op.v,oi.v,od.v,oc.v,oq.v] 30,.hp k,.hp HHp,.hp op.h,.hp oi.h,.hp od.h,.hp HHc,.hp oc.h,.hp HHq,.hp Hp.emp]) cQ (.take 0 <| .take 1 <| .take 2 <| .take 3 <| .take 4 <| .run 5 <| .run 6 <| .run 7 <| .run 8 <| .run 9 <| .done) kr (sK) ?_) ?_
  ·refine nR (i:=2) (j:=1) dc rfl rfl (λw0 w' hok=>by exact oZ (k:=k) (L:=out) (DD:=td.2) w' (hok.inJ (i:=2) (j:=1) (c:=.box rb (J1 b kq od.a od.n od.c) 155) (d:=.hp hq) rfl rfl) (hok.disj 2 1 _ _ dc rfl rfl) (hok.le2 (i:=2) (j:=1) (m:=4) (x:=.hp k) dc dc rfl rfl rfl) hRq hI.g (by exact hGq.sl (M8 9) dc (hok.le2 (i:=2) (j:=1) (m:=11) (x:=.hp HHq) dc dc rfl rfl rfl) (hok.le2 (i:=2) (j:=1) (m:=12) (x:=.hp oq.h) dc dc rfl rfl rfl)) om (by exact (w8.sl (f:=O1) (λ_=>rfl) dc hGd).mono (j7 _) (hok.le2 (i:=2) (j:=1) (m:=8) (x:=.hp od.h) dc dc rfl rfl rfl)) om) ?_;rintro _ _ h9 H9 ⟨⟨xs,rfl,hx8,hE9⟩,⟨kz,rfl⟩,hR9⟩;rw[<-hB] at hE9 hR9;have hE2:=hE9;obtain⟨y5,rfl,hY⟩:=hE2;obtain⟨Y,eY⟩ :∃Y,Y=B.2.2.1:=⟨_,rfl⟩
   rw[<-eY] at hY;obtain⟨op9,f9,fac9,args9⟩:=Y;obtain⟨a9,n9,c9,a8,n8,c8,rfl,_,_⟩:=hY;refine⟨sK,?_⟩;intro b9;refine⟨sK,?_⟩;refine oL (R:=(jJ 9)) (o:=oq) (L:=out) (H:=HHq.join H9) cQ (e:=74) rfl (i:=12) rfl (λ_=>hGq.mono (M8 9) (Hp.le_join_l _ _)) B.2 [sv B.2.1,iQ op9,sv f9.1,.slice a9 n9 c9,sv fac9,.slice a8 n8 c8,sv B.2.2.2.1,sv B.2.2.2.2] (j:=14) rfl rfl rfl rfl om (λhs=>?_) λo2 _ hG2=>?_
   ·obtain⟨w0,w',hok⟩:=hs;exact M8 9 _ _ _ _ (Hp.le_join_r (hok.disj 11 13 _ _ dc rfl rfl)) hE9
   refine⟨sK,?_⟩;exact⟨(h9,HHq.join H9,o2,kz),⟨hR9,hG2⟩,v6.mk (λ_ _ h=>(Ok.join (h.pick [0,11,13,1,2,3,4,5,6,7,8,9,10,12] rfl rfl)).pick [0,2,3,4,5,6,7,8,9,10,11,1,12] rfl rfl) rfl rfl⟩
  rintro⟨h9,H9,o9,kz⟩ ⟨hR9,hG9⟩ _;dsimp only at hR9 hG9 ⊢;exact⟨(B.1,out++[B.2],h9,H9,o9,kz),⟨hR9,hI2,hG9⟩,hlt,v6.mk (λ_ _ h=>h) rfl rfl⟩
 have eq:=hI.done g1;have hlq:out.length<=65:=hI.l;have hgq:Y3 rr:=hI.g;obtain⟨rq,erq⟩ :∃x,x=tq.1:=⟨_,rfl⟩
 have eoq:out=tq.2:=by rw[eq]
 have ewq:rr=rq:=by rw[erq,eq]
 rw[ewq] at hRq hgq;rw[eoq] at hGq hlq;clear hI eq ewq eoq;refine nQ [.hp (Hp.whole w),.hp hq,.box rb (J1 b kq od.a od.n od.c) 155,.box b2 [sv A.2,op.v,oi.v,od.v,oc.v,oq.v] 30,.hp k,.hp HHp,.hp op.h,.hp oi.h,.hp od.h,.hp HHc,.hp oc.h,.hp HHq,.hp oq.h] λq' hq'=>?_;refine lR 2 0 ?_;refine l6 (i:=1) rfl (λw0 w' hok=>JH w' (hok.mem 1 _ rfl) (hok.leI (i:=1) (j:=4) dc rfl rfl) hRq) ?_;rintro _ hf _ ⟨rfl,hRf⟩;have hRf:G9 k hf b (LW rq):=hRf;have eS:yN s=(LW rq,⟨A.2,tp.2,ti.2,td.2,tc.2,tq.2⟩):=by
  unfold yN He;dsimp only;rw[<-hr,<-er1,<-hA,<-er3,<-etp,<-erp,<-eti,<-eri,<-etd,<-erd,<-etc,<-erc,<-etq,<-erq]
 apply hq';refine nQ [.hp (Hp.whole w),.hp hf,.box rb (J1 b kq od.a od.n od.c) 155,.box b2 [sv A.2,op.v,oi.v,od.v,oc.v,oq.v] 30,.hp k,.hp HHp,.hp op.h,.hp oi.h,.hp od.h,.hp HHc,.hp oc.h,.hp HHq,.hp oq.h] λq' hq'=>?_;refine lR 2 0 ?_;refine k7 _ (λw' hm=>AT w' (hm 1 _ rfl) hRf) ?_;apply hq';refine nQ [.hp (Hp.whole w),.hp hf,.box rb (J1 b kq od.a od.n od.c) 155,.box b2 [sv A.2,op.v,oi.v,od.v,oc.v,oq.v] 30,.hp k,.hp HHp,.hp op.h,.hp oi.h,.hp od.h,.hp HHc,.hp oc.h,.hp HHq,.hp oq.h] λq' hq'=>?_;apply hq';refine d8 (λf1=>?_) λf1=>?_
 ·have eP:pB s=(UT,((LW rq).ln:Int),((LW rq).co:Int),(LW rq).e):=by
   unfold pB;rw[eS,if_pos f1]
  rw[eP,if_neg f1,if_neg f1];exact⟨[.hp Hp.emp],⟨Hp.emp,_,rfl,rfl,rfl,Ec 9 _⟩,λw' h=>(h.pick [0] rfl rfl).emp⟩
 ·have f2:(LW rq).e=0:=l9.1 f1;have eP:pB s=(⟨A.2,tp.2,ti.2,td.2,tc.2,tq.2⟩,0,0,0):=by
   unfold pB;rw[eS,if_neg (λc=>c f2)]
  rw[eP];have hdl:PC [.hp HHp,.hp op.h,.hp oi.h,.hp od.h,.hp HHc,.hp oc.h,.hp HHq,.hp oq.h]:=by
   obtain⟨w0,w1,hok⟩:=hsat0;exact (hok.pick [0,5,6,7,8,9,10,11,12] rfl rfl).djL
  refine⟨[.hp (joinL [.hp HHp,.hp op.h,.hp oi.h,.hp od.h,.hp HHc,.hp oc.h,.hp HHq,.hp oq.h])],⟨_,_,rfl,rfl,rfl,⟨op.a,op.n,op.c,oi.a,oi.n,oi.c,od.a,od.n,od.c,oc.a,oc.n,oc.c,oq.a,oq.n,oq.c,rfl,hGp.sl I9 dc (I3 hdl (i:=0) rfl) (I3 hdl (i:=1) rfl),(w8.sl (f:=dM) (λ_=>rfl) dc hGi).mono (j7 _) (I3 hdl (i:=2) rfl),(w8.sl (f:=O1) (λ_=>rfl) dc hGd).mono (j7 _) (I3 hdl (i:=3) rfl),hGc.sl S5 dc (I3 hdl (i:=4) rfl) (I3 hdl (i:=5) rfl),hGq.sl (M8 9) dc (I3 hdl (i:=6) rfl) (I3 hdl (i:=7) rfl)⟩⟩,λw' h=>(h.pick [0,5,6,7,8,9,10,11,12] rfl rfl).joinL⟩
end Go.Proofs.YtpjhmeicbjkcdaaGreatDoor
namespace Go.Proofs.YtpjhmeicbjkcdaaGreatDoor
open Go Go.RowKit Go.Dw
theorem Gu {α:Type} {R:uU α} {sz b T:Nat} {x y:α} {c d:List Value} {h:Hp} (hh:(Ch.box b (c++d) T).h.le h) (hc:c.length=sz) (hd:d.length=sz) (hx:R h x c) (hy:R h y d):Sl R sz h (some ⟨b,0,none⟩) 2 2 [x,y]:=by
 refine⟨rfl,k8 _,λi hi=>?_⟩;match i,hi with
 | 0,_=>
  refine⟨b,0,c,rfl,hc,hx,λj v hj=>hh.cell (J3 b T ?_)⟩;have hl:=(q9.1 hj).1;rw[show 0+0*sz+j=j by omega,Y0 hl];exact hj
 | 1,_=>
  refine⟨b,0,d,rfl,hd,hy,λj v hj=>hh.cell (J3 b T ?_)⟩;rw[show 0+1*sz+j=c.length+j by omega,N0 om,BS];exact hj
theorem R7 {d:Nat} {H:Hp} {p:jL} {xs:List Value} (h:qB d H p xs) :∃a1 n1 c1 a2 n2 c2 a3 n3 c3 a4 n4 c4 a5 n5 c5,xs = [sv p.nm,.slice a1 n1 c1,.slice a2 n2 c2,.slice a3 n3 c3,.slice a4 n4 c4,.slice a5 n5 c5]/\n1=p.parts.length/\n2=p.insts.length/\n3=p.dims.length/\n4=p.cons.length/\n5=p.reqs.length:=by
 obtain⟨a1,n1,c1,a2,n2,c2,a3,n3,c3,a4,n4,c4,a5,n5,c5,e,h1,h2,h3,h4,h5⟩:=h.ex;exact⟨a1,n1,c1,a2,n2,c2,a3,n3,c3,a4,n4,c4,a5,n5,c5,e,h1.len,h2.len,h3.len,h4.len,h5.len⟩
theorem US (s:e8) (h:s.length < 1000000):SJ ⟨s,[],[],[],[],[]⟩:=⟨h,sQ,sQ,sQ,sQ,sQ,nofun,nofun,nofun,nofun⟩
theorem Aj (w:World) (hP:dT (Hp.whole w)):j6 Tryz.prog 13 #[.agg #[sv [112],zl,zl,zl,zl,zl]] w (v7 w (.tuple #[sv [112,114,111,100,117,99,116,32,112,59,10],iQ 0])):=by
 have h:=MT (d:=0) (p:=⟨[112],[],[],[],[],[]⟩) (cs:=[sv [112],zl,zl,zl,zl,zl]) w ⟨⟨none,0,0,none,0,0,none,0,0,none,0,0,none,0,0,rfl,Sl.nil _ _ _ _ _,Sl.nil _ _ _ _ _,Sl.nil _ _ _ _ _,Sl.nil _ _ _ _ _,Sl.nil _ _ _ _ _⟩⟩ (US [112] dc) hP;rw[Eu] at h;exact h
theorem Jv:pB Ht=(UT,1,36,8):=by
 have h:=Ew;simp only[Prod.mk.injEq] at h;unfold pB;rw[if_pos (by rw[h.2.2];decide),h.1,h.2.1,h.2.2];rfl
theorem Hf:(pB Gd).1=UT/\(pB Gd).2.2.2=14:=by
 have h:=Ev;unfold pB;rw[if_pos (by rw[h];decide),h];exact⟨rfl,rfl⟩
theorem Ai {b1 b2 b3 T1 T2 T3:Nat} (w:World) (h1:(Ch.box b1 [sv [97],iQ 0,iQ 0,iQ 0] T1).h.In w) (h2:(Ch.box b2 [iQ 0,sv [49]] T2).h.In w)
  (h3:(Ch.box b3 [iQ 0,sv [48],.slice (some ⟨b2,0,none⟩) 1 1,zs,zl,iQ 0,sv [53],zl,zs,zl] T3).h.In w) :
  j6 Tryz.prog 19 #[.slice (some ⟨b1,0,none⟩) 1 1,.agg #[iQ 4,zs,zl,zs,.slice (some ⟨b3,0,none⟩) 2 2]] w (v7 w (.tuple #[sv [109,97,120,40,91,48,32,43,32,49,32,42,32,97,93,44,32,91,53,93,41],iQ 0])):=by
 have hD:Sl (B0 O1) 4 (Hp.whole w) (some ⟨b1,0,none⟩) 1 1 [([97],0,0,0)]:=Sl.box (f:=O1) (sz:=4) (λ_=>rfl) dc h1 [([97],0,0,0)] rfl rfl dc;have hT:Sl (B0 U0) 2 (Hp.whole w) (some ⟨b2,0,none⟩) 1 1 [(0,[49])]:=Sl.box (f:=U0) (sz:=2) (λ_=>rfl) dc h2 [(0,[49])] rfl rfl dc;have hA:Sl (P5 1) 5 (Hp.whole w) (some ⟨b3,0,none⟩) 2 2 [.mk 0 ([48],[(0,[49])]) [] [],.mk 0 ([53],[]) [] []]:=
  Gu (x:=Ex.mk 0 ([48],[(0,[49])]) [] []) (y:=Ex.mk 0 ([53],[]) [] []) (c:=[iQ 0,sv [48],.slice (some ⟨b2,0,none⟩) 1 1,zs,zl]) (d:=[iQ 0,sv [53],zl,zs,zl]) h3.whole rfl rfl
   ⟨_,_,_,none,0,0,rfl,hT,Sl.nil _ _ _ _ _⟩ ⟨none,0,0,none,0,0,rfl,Sl.nil _ _ _ _ _,Sl.nil _ _ _ _ _⟩
 have hx:AS Kf:=.mk ⟨dc,dc,nofun⟩ dc dc (by
  intro y hy;rcases A8.1 hy with rfl | hy
  ·exact .mk ⟨dc,dc,by intro t ht;rcases A8.1 ht with rfl | ht;decide;cases ht⟩ dc dc nofun
  ·rcases A8.1 hy with rfl | hy
   ·exact .mk ⟨dc,dc,nofun⟩ dc dc nofun
   ·cases hy)
 have h:=mU (e:=2) (D:=[([97],0,0,0)]) (x:=Kf) (cs:=[iQ 4,zs,zl,zs,.slice (some ⟨b3,0,none⟩) 2 2]) w hD ⟨none,0,0,_,_,_,rfl,Sl.nil _ _ _ _ _,hA⟩ hx dc (by intro d hd;rcases A8.1 hd with rfl | hd;decide;cases hd) (by decide +kernel);rw[Et] at h;exact h
set_option maxRecDepth 10000 in
theorem rV (w:World) (hT:kU (Hp.whole w)) (hP:dT (Hp.whole w)):j6 Tryz.prog 9 #[] w (v7 w (.bool true)):=by
 have hA:=λ(w':World) (hm:(Hp.whole w).In w')=>AO Ht w' (hT.mono hm.whole);have hB:=λ(w':World) (hm:(Hp.whole w).In w')=>AO Gd w' (hT.mono hm.whole);rw[Jv] at hA;rw[Hf.1,Hf.2] at hB;generalize (pB Gd).2.1=z1 at hB;generalize (pB Gd).2.2.1=z2 at hB;refine enterZ (cx 79) [] [.tmp 0] Tryz.func9 ?_;refine o7 (λ_ kz=>kz _ _ ?_);refine o7 λq' hq'=>?_;refine k7 _ (λw' hm=>Aj w' (hP.mono (hm 0 _ rfl).whole)) ?_;apply hq';refine o7 λq' hq'=>?_;refine call (λw' hm=>hA w' (hm 0 _ rfl)) ?_;rintro _ _ ⟨H1,xs,rfl,rfl,_,hp1⟩;obtain⟨a1,n1,c1,a2,n2,c2,a3,n3,c3,a4,n4,c4,a5,n5,c5,rfl,_⟩:=R7 hp1;intro b3;apply hq';refine o7 λq' hq'=>?_;refine call (λw' hm=>hB w' (hm 0 _ rfl)) ?_;rintro _ _ ⟨H2,ys,rfl,rfl,_,hp2⟩;obtain⟨u1,m1,e1,u2,m2,e2,u3,m3,e3,u4,m4,e4,u5,m5,e5,rfl,_⟩:=R7 hp2;intro b7;apply hq';refine nQ [.hp (Hp.whole w),.hp H1,.box b3 [zs,.slice a1 n1 c1,.slice a2 n2 c2,.slice a3 n3 c3,.slice a4 n4 c4,.slice a5 n5 c5] 30,.hp H2,.box b7 [zs,.slice u1 m1 e1,.slice u2 m2 e2,.slice u3 m3 e3,.slice u4 m4 e4,.slice u5 m5 e5] 30] λq' hq'=>?_;intro b32 b34 b39;refine k7 _ (λw' hm=>Ai (b1:=b32) (b2:=b34) (b3:=b39) w' (hm 5 _ rfl) (hm 6 _ rfl) (hm 7 _ rfl)) ?_;apply hq';show Q7 _ _ _ _ _ _
 (iterate 3 refine w1j λK hK=>?_;apply hK);refine wGYj λK hK=>?_;apply hK;refine wGYj λK hK=>?_;refine W8 (b:=[112,114,111,100,117,99,116,32,112,59,10]) ?_;(iterate 2 apply hK;refine w1j λK hK=>?_);(iterate 2 apply hK;refine wGYj λK hK=>?_);(iterate 2 apply hK;refine w1j λK hK=>?_);(iterate 2 apply hK;refine wGYj λK hK=>?_);(iterate 2 apply hK;refine w1j λK hK=>?_);(iterate 2 apply hK;refine wGYj λK hK=>?_);(iterate 2 apply hK;refine w1j λK hK=>?_);(iterate 2 apply hK;refine wGYj λK hK=>?_);(iterate 2 apply hK;refine w1j λK hK=>?_);(iterate 3 apply hK;refine wGYj λK hK=>?_);refine W8 (b:=[]) ?_;(iterate 2 apply hK;refine w1j λK hK=>?_);(iterate 2 apply hK;refine wGYj λK hK=>?_);(iterate 2 apply hK;refine w1j λK hK=>?_);(iterate 2 apply hK;refine wGYj λK hK=>?_);refine W8 (b:=[109,97,120,40,91,48,32,43,32,49,32,42,32,97,93,44,32,91,53,93,41]) ?_;(iterate 2 apply hK;refine w1j λK hK=>?_);apply hK;refine dA ?_;exact⟨[],⟨rfl,rfl⟩,pk [0]⟩
end Go.Proofs.YtpjhmeicbjkcdaaGreatDoor
namespace Go.Proofs.YtpjhmeicbjkcdaaGreatDoor
open Go Go.RowKit Go.Dw
def AJ (G:List e8):e8:=G.reverse.flatten
theorem bA (G:List e8) (x:e8):AJ (G++[x])=x++AJ G:=by unfold AJ;simp
theorem CP :∀L:List e8,Lib.join L []=L.flatten
 | []=>rfl
 | [x]=>by show mW [] [x]=_;simp[mW]
 | x::y::r=>by
  have ih:=CP (y::r);unfold Lib.join mW at ih ⊢;rw[List.intersperse_cons_cons,w5,w5,ih];rfl
theorem RT (k:Nat):T8 (p7 k 48)=0:=by
 unfold T8;rw[sX];intro d hd;obtain⟨c,hc,rfl⟩:=G6.1 hd;rw[(List.mem_replicate.1 hc).2];rfl
def Ga (m:Nat) (L:e8):Prop:=L.all l8=true/\cM L=true/\T8 L=m
def Fy (M m':Nat) (G:List e8):Prop:=(AJ G).all l8=true/\(0 < m'->M=m'*10 ^ (9*G.length)+T8 (AJ G)/\(AJ G).length=9*G.length)/\(m'=0->0 < G.length/\Ga M (AJ G)/\(AJ G).length<=9*G.length)
theorem VY {M m':Nat} {G:List e8} (h:Fy M m' G) (h0:0 < m'):Fy M (m' / 1000000000) (G++[if 0 < m' / 1000000000 then p7 (9 - (Lib.decDigits (m' % 1000000000)).length) 48++Lib.decDigits (m' % 1000000000) else Lib.decDigits (m' % 1000000000)]):=by
 obtain⟨h1,h2,_⟩:=h;obtain⟨e1,e2⟩:=h2 h0;obtain⟨d1,d2,d3,d4,d5⟩:=cX (m' % 1000000000);have hlen:=d5 9 dc (C8 _ dc);have hdm:=qD m' 1000000000;by_cases hq:0 < m' / 1000000000
 ·rw[if_pos hq];have hl:(p7 (9 - (Lib.decDigits (m' % 1000000000)).length) 48++Lib.decDigits (m' % 1000000000)).length=9:=by rw[d6,O9];omega
  refine⟨?_,λ_=>⟨?_,?_⟩,λh=>by omega⟩
  ·rw[bA,qE,qE,d1,h1,Nf,Nf];exact z6.2 λc hc=>by rw[(List.mem_replicate.1 hc).2];rfl
  ·rw[bA,aN,aN,RT,d2,d6,w7,e2,Z4,y8,e1];have:10 ^ (9*(G.length+1))=1000000000*10 ^ (9*G.length):=by rw[B9,iO,q8]
   rw[this,<-A0,<-nX,<-D9];congr 2
   omega
  ·rw[bA,d6,hl,e2,d6,w7];omega
 ·rw[if_neg hq];have hm:m' % 1000000000=m':=C9 om;rw[hm];clear d1 d2 d3 d4 d5 hlen hdm;obtain⟨d1,d2,d3,d4,d5⟩:=cX m';have hlen:=d5 9 dc om;refine⟨?_,λh=>by omega,λ_=>⟨sQ,⟨?_,?_,?_⟩,?_⟩⟩
  ·rw[bA,qE,d1,h1];rfl
  ·rw[bA,qE,d1,h1];rfl
  ·rw[bA];have:=d4 h0;unfold cM;rw[k6,U8,decide_eq_true_eq,decide_eq_true_eq];refine⟨by rw[d6];omega,.inr ?_⟩;cases hd:Lib.decDigits m' with
   | nil=>rw[hd] at d3;cases d3
   | cons c r=>
    rw[hd] at this;show (!decide (c=48))=true
    have h48:c≠48:=this;rw[decide_eq_false h48];rfl
  ·rw[bA,aN,d2,e2,e1]
  ·rw[bA,d6,e2,d6,w7];omega
theorem PR {a:Option Addr} {n c m:Nat} (w:World) (by':Nat) (hM:bT (Hp.whole w) (.slice a n c) m) (h0:0 < by') (hb:by' < Bs) :
  j6 Tryz.prog 198 #[.slice a n c,.int .u32 by'] w (fD w λv cs=>∃g a' n' c',cs = [.hp g]/\v=.tuple #[.slice a' n' c',.int .u32 ((m % by':Nat):Int)]/\bT g (.slice a' n' c') (m / by')):=by
 obtain⟨aa,nn,cc,L,e,hs,hc,hl⟩:=hM;cases e;have hcon:=yC w by' hs hc.l om h0 hb
 rw[hc.v] at hcon;refine⟨hcon.1,hcon.2.mono ?_⟩;rintro e w' ⟨v,cs,rfl,hk,g,a',n',c',L',rfl,rfl,hs',hc'⟩;exact⟨_,_,rfl,hk,g,a',n',c',rfl,rfl,⟨_,_,_,L',rfl,hs',hc',by have:=hc'.le_len hc (D7 m by');omega⟩⟩
set_option maxRecDepth 20000 in
set_option maxHeartbeats 2000000 in
theorem BB (g0:Bool) {a:Option Addr} {n c M:Nat} (w:World) (hM:bT (Hp.whole w) (.slice a n c) M) (hg0:g0=true->0 < M) (hm:M < 100000000000000000000) (hP:dT (Hp.whole w)) :
  j6 Tryz.prog 150 #[U9 g0 a n c] w (fD w λv cs=>cs = []/\∃L,v=sv (if g0=true then 45::L else L)/\Ga M L/\L.length<=27):=by
 have hn0:=hM.len;unfold U9;refine enterZ (cx 49) [.agg #[.bool g0,.slice a n c]] [.tmp 2] Tryz.func150 ?_;intro b1;refine d8 (λh1=>?_) λh1=>?_
 ·have h1:M=0:=hn0.1 om;have hgf:g0=false:=by cases g0 with | false=>rfl | true=>exact absurd (hg0 rfl) om
  subst hgf;exact⟨[],⟨rfl,[48],rfl,⟨rfl,rfl,by rw[h1];rfl⟩,dc⟩,pk [0]⟩
 ·have hM0:0 < M:=F8 λe=>h1 (by have:=hn0.2 e;omega);refine u6.mkS (Dw.Os×List e8×(Option Addr×Nat×Nat)×Hp×Nat) (λg=>[(1,.bx 1 0),(3,.v g.1.v),(4,.v (.slice g.2.2.1.1 g.2.2.1.2.1 g.2.2.1.2.2))]) (λg=>[.hp (Hp.whole w),.box b1 [.bool g0,.slice a n c] 139,.hp g.1.h,.hp g.2.2.2.1])
   (λg=>w8 fS 9 1 g.1 g.2.1/\Ll (Hp.whole w) g.2.2.2.1 g.2.2.1 g.2.2.2.2/\Fy M g.2.2.2.2 g.2.1/\g.2.1.length<=3/\g.2.2.2.2*10 ^ (9*g.2.1.length)<=M) (λg=>g.2.2.2.2)
   (Os.nil,[],(a,n,c),Hp.emp,M) ⟨w8.nil _ _ _,λk l1 _=>hM.mono l1,⟨rfl,λ_=>⟨by show M=M*10 ^ 0+0;simp,rfl⟩,λh=>by dsimp only at h;omega⟩,f8 _,by show M*10 ^ 0<=M;simp⟩ (v6.mk (λ_ _ h=>(h.emp).emp.pick [0,1,2,3] rfl rfl) rfl rfl) ?_
  rintro⟨o,G,⟨a2,n2,c2⟩,gh,m'⟩ ⟨hO,hRd,hG,hGl,hle⟩ hsat;dsimp only at *;have hRd' :∀k,(Hp.whole w).le k->gh.le k->bT k (.slice a2 n2 c2) m':=hRd;have hl:=(hRd' ((Hp.whole w).join gh) (Hp.le_left _ _) (hsat.leR 0 3 rfl rfl)).len;clear hsat;have hm':m'<=M:=v8 (Nat.le_mul_of_pos_right m' (F8 λe=>by have:=Nat.pow_eq_zero.1 e;omega)) hle;refine d8 (λh2=>?_) λh2=>?_
  ·have h0:0 < m':=F8 λe=>by have:=hl.2 e;omega
   have hst:=VY hG h0;obtain⟨d1,d2,d3,d4,d5⟩:=cX (m' % 1000000000);have hlen:=d5 9 dc (C8 _ dc);have hrm:m' % 1000000000 < 1000000000:=C8 _ dc;have hG2:G.length<=2:=by
    refine j9 λg=>?_;have e3:G.length=3:=om
    rw[e3] at hle;have:1*10 ^ 27<=m'*10 ^ 27:=y9 _ h0;have e4:(10:Nat) ^ 27=1000000000000000000000000000:=dc
    rw[show 9*3=27 from rfl] at hle;omega
   have hle2:m' / 1000000000*10 ^ (9*(G.length+1))<=M:=by
    have e3:10 ^ (9*(G.length+1))=1000000000*10 ^ (9*G.length):=by rw[B9,iO,q8]
    rw[e3,<-A0];exact v8 (y9 _ (Nat.div_mul_le_self _ _)) hle
   have hlt:m' / 1000000000 < m':=Nat.div_lt_self h0 dc;refine DB (λw' hm=>PR w' 1000000000 (hRd' _ (hm 0 _ rfl).whole (hm 3 _ rfl).whole) dc dc) ?_;rintro _ _ ⟨g,a3,n3,c3,rfl,rfl,hM3⟩ _;have hl3:=hM3.len;obtain⟨r,hr⟩ :∃r,r=m' % 1000000000:=⟨_,rfl⟩
   obtain⟨m3,hm3⟩ :∃m3,m3=m' / 1000000000:=⟨_,rfl⟩
   rw[<-hr];rw[<-hr,<-hm3] at hst;rw[<-hm3] at hM3 hl3;rw[<-hr] at hlen d3 hrm;rw[<-hm3] at hle2 hlt;clear hr hm3;refine nwo ?_;refine k7 _ (λw' hm=>QZ r om w' (hP.mono (hm 0 _ rfl).whole)) ?_;refine d8 (λh3=>?_) λh3=>?_;focus
    rw[if_pos (show 0 < m3 from F8 λe=>by have:=hl3.2 e;omega)] at hst;refine tY (y:=((9 - (Lib.decDigits r).length:Nat):Int)) (by rw[B6];omega) om om ?_;refine k7 _ (λw' hm=>ED (9 - (Lib.decDigits r).length) om w') ?_;refine P0 (ty:=9) (by rw[O9];omega) ?_;intro b37;refine gF (f:=fS) cQ (e:=9) rfl (i:=2) rfl hO (j:=5) (p7 (9 - (Lib.decDigits r).length) 48++Lib.decDigits r) rfl rfl rfl rfl om λo2 ho2=>?_
   rotate_left
   focus
    have h30:m3=0:=hl3.1 om;rw[if_neg om] at hst;intro b37;refine gF (f:=fS) cQ (e:=9) rfl (i:=2) rfl hO (j:=5) (Lib.decDigits r) rfl rfl rfl rfl om λo2 ho2=>?_
   all_goals
    exact⟨(o2,_,(a3,n3,c3),g,m3),⟨ho2,λk _ l2=>hM3.mono l2,hst,by dsimp only;rw[d6,w7];omega,by dsimp only;rw[d6,w7];exact hle2⟩,hlt,v6.mk (pj [0,1,2,4]) rfl rfl⟩
  ·have hm0:m'=0:=hl.1 om;obtain⟨hG0,hD,hDl⟩:=hG.2.2 hm0;refine l6 (i:=2) rfl (λw0 w' hok=>wD w' (hok.mem 2 _ rfl) hO om) ?_;rintro _ h' _ ⟨rfl,rfl,hO2⟩;have ej:Lib.join G.reverse []=AJ G:=CP _;refine k7 _ (λw' hm=>zI (o:=⟨o.a,o.n,o.c,h'⟩) w' [] (hm 2 _ rfl) hO2 (by rw[List.length_reverse];exact hG0) (by rw[List.length_reverse];omega) (by rw[ej];omega)) ?_;rw[ej];refine s8 (λhg=>?_) λhg=>?_
   ·subst hg;refine P0 (a:=[45]) (ty:=9) (by simp only[d7,d9];omega) ?_;exact⟨[],⟨rfl,AJ G,rfl,hD,om⟩,pk [0]⟩
   ·subst hg;exact⟨[],⟨rfl,AJ G,rfl,hD,om⟩,pk [0]⟩
end Go.Proofs.YtpjhmeicbjkcdaaGreatDoor
namespace Go.Proofs.YtpjhmeicbjkcdaaGreatDoor
open Go Go.RowKit Go.Dw
theorem WZ :∀(n:Nat) (L:e8),L.length=n->L.all l8=true->cM L=true->Lib.decDigits (T8 L)=L:=by
 intro n;induction n with
 | zero=>
  intro L hl _ hc;rw[M0] at hl;subst hl;cases hc
 | succ n ih=>
  intro L hl hd hc;obtain⟨A,c,rfl⟩ :∃A c,L=A++[c]:=⟨L.dropLast,L.getLast (by intro e;rw[e] at hl;cases hl),(List.dropLast_concat_getLast _).symm⟩
  rw[d6] at hl;have hl:A.length=n:=by simpa using hl
  rw[qE,k6] at hd;have hcd:l8 c=true:=by simpa using hd.2
  unfold l8 at hcd;rw[k6,decide_eq_true_eq,decide_eq_true_eq] at hcd;have e48:(48:UInt8).toNat=48:=rfl;have hv:T8 [c]=c.toNat - 48:=by show 10*0+(c.toNat - 48)=_;omega
  have hof:UInt8.ofNat (48+(c.toNat - 48))=c:=by
   rw[show 48+(c.toNat - 48)=c.toNat by omega];exact UInt8.ofNat_toNat
  rw[aN,hv];show Lib.decDigits (T8 A*10 ^ 1+_)=_
  rw[Nat.pow_one];cases A with
  | nil=>
   show Lib.decDigits (0*10+_)=_
   rw[Z4,y8,Lib.decDigits_one om,hof];rfl
  | cons a A=>
   have h0:a≠48:=by
    unfold cM at hc;rw[k6,U8,decide_eq_true_eq,decide_eq_true_eq] at hc;rcases hc.2 with h | h
    ·rw[d6] at h;simp at h
    ·intro e;subst e;cases h
   have hp:0 < T8 (a::A):=EZ hd.1 sQ h0;have hcA:cM (a::A)=true:=by
    unfold cM;rw[k6,U8,decide_eq_true_eq];refine⟨sQ,.inr ?_⟩;show (!decide (a=48))=true
    rw[decide_eq_false h0];rfl
   rw[IS om,show (T8 (a::A)*10+(c.toNat - 48)) / 10=T8 (a::A) by omega,show (T8 (a::A)*10+(c.toNat - 48)) % 10=c.toNat - 48 by omega,ih _ hl hd.1 hcA,hof]
theorem Bd {M:Nat} {L:e8} (h:Ga M L):L=Lib.decDigits M:=by rw[<-h.2.2];exact (WZ _ L rfl h.1 h.2.1).symm
theorem oU {z:Int} {a:Option Addr} {n c:Nat} (w:World) (hM:bT (Hp.whole w) (.slice a n c) z.natAbs) (hm:z.natAbs < 100000000000000000000) (hP:dT (Hp.whole w)) :
  j6 Tryz.prog 150 #[U9 (decide (z < 0)) a n c] w (v7 w (sv (zT z))):=by
 have h:=BB (decide (z < 0)) w hM (λg=>by have:=of_decide_eq_true g;omega) hm hP;refine⟨h.1,h.2.mono ?_⟩;rintro e w' ⟨v,cs,rfl,hok,rfl,L,rfl,hL,_⟩;refine⟨_,[],rfl,hok,?_,rfl⟩;rw[Bd hL];unfold zT;by_cases g:z < 0
 ·rw[decide_eq_true g,if_pos rfl,if_pos g]
 ·rw[decide_eq_false g,if_neg dc,if_neg g]
theorem Bg {L:List Nat} {x:Nat} (h:fG L x):JK L=L/\trN L=L.length:=by
 have h1:=W2 h.l;rw[h.v] at h1;have e:=h1.uniq h;exact⟨e,by rw[<-gP,e]⟩
theorem rC (neg:Bool) {a:Option Addr} {n c x:Nat} (w:World) (hM:bT (Hp.whole w) (.slice a n c) x):j6 Tryz.prog 197 #[.bool neg,.slice a n c] w (v7 w (U9 (neg && decide (0 < x)) a n c)):=by
 obtain⟨_,_,_,L,e,hs,hc,hl⟩:=hM;cases e;have h:=aV neg w hs om;have e2:=(Bg hc).2;rw[e2,<-hs.len] at h;have e3:decide (0 < n)=decide (0 < x):=by
  rw[decide_eq_decide,hs.len];have:=hc.zero;rw[<-M0] at this;omega
 rw[e3] at h;exact h
set_option maxRecDepth 10000 in
theorem sU {g1 g2:Bool} {a1 a2:Option Addr} {n1 c1 n2 c2 x y:Nat} (w:World) (ha:bT (Hp.whole w) (.slice a1 n1 c1) x) (hb:bT (Hp.whole w) (.slice a2 n2 c2) y) (hy:0 < y) (hd:x % y=0) :
  j6 Tryz.prog 196 #[U9 g1 a1 n1 c1,U9 g2 a2 n2 c2] w (fD w λv cs=>∃g a n c rv,cs = [.hp g]/\v=.tuple #[U9 ((!(g1==g2)) && decide (0 < x / y)) a n c,rv,iQ 0]/\bT g (.slice a n c) (x / y)):=by
 unfold U9;refine enterZ (cx 51) [.agg #[.bool g1,.slice a1 n1 c1],.agg #[.bool g2,.slice a2 n2 c2]] [.cell 4 139,.cell 5 139,.tmp 6] Tryz.func196 ?_;intro b2 b3 b4 b5;refine o7 (λ_ kz=>kz _ _ ?_);refine nQ [.hp (Hp.whole w),.box b2 [.bool g1,.slice a1 n1 c1] 139,.box b3 [.bool g2,.slice a2 n2 c2] 139,.box b4 [.bool false,zl] 139,.box b5 [.bool false,zl] 139] λq' hq'=>?_;refine k7 _ (λw' hm=>by
  have h:=cD (neg:=g2) w' (hb.mono (hm 0 _ rfl).whole);rw[if_neg (show y≠0 by omega)] at h;exact h) ?_
 apply hq';refine M6 (by rfl) (λh1=>absurd (of_decide_eq_true h1) (by cases g2 <;> decide)) λ_=>?_;refine nQ [.hp (Hp.whole w),.box b2 [.bool g1,.slice a1 n1 c1] 139,.box b3 [.bool g2,.slice a2 n2 c2] 139,.box b4 [.bool false,zl] 139,.box b5 [.bool false,zl] 139] λq' hq'=>?_;refine call (λw' hm=>vX w' (ha.mono (hm 0 _ rfl).whole) (hb.mono (hm 0 _ rfl).whole) hy) ?_;rintro _ _ ⟨gd,vq,vr,rfl,rfl,hq,hr⟩;obtain⟨aq,nq,cq,Lq,rfl,sq,cq9,lq⟩:=hq;have hq:bT gd (.slice aq nq cq) (x / y):=⟨aq,nq,cq,Lq,rfl,sq,cq9,lq⟩
 obtain⟨ar,nr,cr,rfl,hR⟩ :∃a n c,vr=.slice a n c/\∀W,(Hp.whole w).le W->gd.le W->bT W (.slice a n c) 0:=by
  rcases hr with ⟨rfl,h⟩ | h
  ·refine⟨a1,n1,c1,rfl,λW l1 _=>?_⟩;have e:x=0:=by rw[C9 h] at hd;exact hd
   rw[e] at ha;exact ha.mono l1
  ·obtain⟨ar,nr,cr,Lr,rfl,h2⟩:=h;rw[hd] at h2;exact⟨ar,nr,cr,rfl,λW _ l2=>bT.mono l2 ⟨ar,nr,cr,Lr,rfl,h2⟩⟩
 clear hr;apply hq';refine s6.cut Unit (λ_=>[(2,.bx 1 0),(3,.bx 2 0),(4,.bx 3 0),(5,.bx 4 0)]) (λ_=>[.hp (Hp.whole w),.box b2 [.bool g1,.slice a1 n1 c1] 139,.box b3 [.bool g2,.slice a2 n2 c2] 139,.box b4 [.bool ((!(g1==g2)) && decide (0 < x / y)),.slice aq nq cq] 139,.box b5 [.bool false,.slice ar nr cr] 139,.hp gd]) (λ_=>True) (s6.by_order0 (s0:=[.hp (Hp.whole w),.box b2 [.bool g1,.slice a1 n1 c1] 139,.box b3 [.bool g2,.slice a2 n2 c2] 139,.hp Hp.emp,.hp Hp.emp,.hp gd]) cQ (.take 0 <| .take 1 <| .take 2 <| .take 3 <| .take 4 <| .take 5 <| .take 7 <| .take 8 <| .take 9 <| .run 6 <| .run 10 <| .run 11 <| .run 12 <| .done) kr (sK) ?_) ?_
 ·refine UJ ?_;refine k7 _ (λw' hm=>rC (!(g1==g2)) w' (hq.mono (hm 5 _ rfl).whole)) ?_;refine⟨sK,?_⟩;refine k7 _ (λw' hm=>by
   have h:=rC g1 w' (hR _ (hm 0 _ rfl).whole (hm 5 _ rfl).whole);rw[show decide (0 < 0)=false from rfl,uV] at h;exact h) ?_
  (iterate 2 refine⟨sK,?_⟩);exact⟨(),trivial,v6.mk (pj [0,1,2,3,4,5]) rfl rfl⟩
 intro _ _ _;dsimp only;refine nQ [.hp (Hp.whole w),.box b2 [.bool g1,.slice a1 n1 c1] 139,.box b3 [.bool g2,.slice a2 n2 c2] 139,.box b4 [.bool ((!(g1==g2)) && decide (0 < x / y)),.slice aq nq cq] 139,.box b5 [.bool false,.slice ar nr cr] 139,.hp gd] λq' hq'=>?_;refine k7 _ (λw' hm=>by
  have h:=cD (neg:=false) w' (hR _ (hm 0 _ rfl).whole (hm 5 _ rfl).whole);rw[if_pos rfl] at h;exact h) ?_
 apply hq';refine dQ rfl ?_;refine s6.cut Unit (λ_=>[(4,.bx 3 0),(5,.bx 4 0),(6,.v (iQ 0))]) (λ_=>[.hp (Hp.whole w),.box b2 [.bool g1,.slice a1 n1 c1] 139,.box b3 [.bool g2,.slice a2 n2 c2] 139,.box b4 [.bool ((!(g1==g2)) && decide (0 < x / y)),.slice aq nq cq] 139,.box b5 [.bool false,.slice ar nr cr] 139,.hp gd]) (λ_=>True) (s6.by_order cQ (.take 0 <| .take 1 <| .run 2 <| .run 3 <| .run 4 <| .done) kr ?_) ?_
 ·first
  | exact⟨sK,sK,sK,(),trivial,v6.mk (pj [0,1,2,3,4,5]) rfl rfl⟩
  | exact⟨sK,sK,(),trivial,v6.mk (pj [0,1,2,3,4,5]) rfl rfl⟩
  | exact⟨sK,(),trivial,v6.mk (pj [0,1,2,3,4,5]) rfl rfl⟩
  | exact⟨(),trivial,v6.mk (pj [0,1,2,3,4,5]) rfl rfl⟩
 intro _ _ _;exact⟨[.hp gd],⟨gd,aq,nq,cq,_,rfl,rfl,hq⟩,pk [0,5]⟩
theorem gcd_div {x y:Nat} (hy:0 < y):0 < I5 x y/\x % I5 x y=0/\y % I5 x y=0:=
 ⟨gM _ hy,Nat.mod_eq_zero_of_dvd (BR _ _),Nat.mod_eq_zero_of_dvd (Nat.gcd_dvd_right _ _)⟩
set_option maxRecDepth 10000 in
theorem EF {g1:Bool} {a1 a2:Option Addr} {n1 c1 n2 c2 x y:Nat} {h1 h2:Hp} (w:World) (hin1:h1.In w) (hin2:h2.In w) (ha:bT h1 (.slice a1 n1 c1) x) (hb:bT h2 (.slice a2 n2 c2) y) (hy:0 < y) (hg:g1=true->0 < x) :
  j6 Tryz.prog 145 #[U9 g1 a1 n1 c1,U9 false a2 n2 c2] w (fD w λv cs=>∃g b1 k1 e1 b2 k2 e2,cs = [.hp g]/\v=cF g1 b1 k1 e1 false b2 k2 e2/\∀W,h1.le W->h2.le W->g.le W->bT W (.slice b1 k1 e1) (x / I5 x y)/\bT W (.slice b2 k2 e2) (y / I5 x y)):=by
 have hW1:h1.le (Hp.whole w):=hin1.whole;have hW2:h2.le (Hp.whole w):=hin2.whole;obtain⟨q1,q2,q3⟩:=gcd_div (x:=x) hy;have hxd:decide (0 < x / I5 x y)=decide (0 < x):=by
  rw[decide_eq_decide];refine⟨λh=>?_,λh=>Nat.div_pos (SQ h (BR _ _)) q1⟩;refine F8 λe=>?_;rw[e,Nat.zero_div] at h;omega
 obtain⟨G,hGd⟩ :∃G,G=I5 x y:=⟨_,rfl⟩
 rw[<-hGd] at q1 q2 q3 hxd ⊢;unfold U9;refine enterZ (cx 37) [.agg #[.bool g1,.slice a1 n1 c1],.agg #[.bool false,.slice a2 n2 c2]] [.cell 4 141] Tryz.func145 ?_;intro b2 b3 b4;refine o7 (λ_ kz=>kz _ _ ?_);refine nQ [.hp (Hp.whole w),.box b2 [.bool g1,.slice a1 n1 c1] 139,.box b3 [.bool false,.slice a2 n2 c2] 139,.box b4 [.bool false,zl,.bool false,zl] 141] λq' hq'=>?_;refine k7 _ (λw' hm=>by
  have h:=cD (neg:=false) w' ((hb.mono hW2).mono (hm 0 _ rfl).whole);rw[if_neg (show y≠0 by omega),if_neg dc] at h;exact h) ?_
 apply hq';refine dQ rfl ?_;refine nQ [.hp (Hp.whole w),.box b2 [.bool g1,.slice a1 n1 c1] 139,.box b3 [.bool false,.slice a2 n2 c2] 139,.box b4 [.bool false,zl,.bool false,zl] 141] λq' hq'=>?_;refine call (λw' hm=>IB w' (hm 0 _ rfl) (ha.mono hW1) (hb.mono hW2)) ?_;rintro _ _ ⟨gg,a5,n5,c5,rfl,rfl,hG⟩;rw[<-hGd] at hG;intro b5;apply hq';refine s6.cut Unit (λ_=>[(2,.bx 1 0),(3,.bx 2 0),(4,.bx 3 0),(5,.bx 5 0),(19,.v (.bool (decide (iC (aG false G) (aG false 1)≠0))))]) (λ_=>[.hp (Hp.whole w),.box b2 [.bool g1,.slice a1 n1 c1] 139,.box b3 [.bool false,.slice a2 n2 c2] 139,.box b4 [.bool false,zl,.bool false,zl] 141,.hp gg,.box b5 [.bool false,.slice a5 n5 c5] 139]) (λ_=>True) (s6.by_order cQ (.take 0 <| .run 1 <| .run 2 <| .take 3 <| .done) kr ?_) ?_
 ·refine call (λw' hm=>rP w') ?_;rintro _ _ ⟨g6,a6,n6,c6,rfl,rfl,h6⟩;refine⟨sK,?_⟩;refine k7 _ (λw' hm=>cY w' (hG _ (hm 0 _ rfl).whole (hm 4 _ rfl).whole) (h6.mono (hm 6 _ rfl).whole) nofun nofun) ?_;refine⟨sK,?_⟩;exact⟨(),trivial,v6.mk (pj [0,1,2,3,4,5]) rfl rfl⟩
 intro _ _ _;dsimp only;refine M6 (by rfl) (λh1=>?_) λh1=>?_
 ·refine nQ [.hp (Hp.whole w),.box b2 [.bool g1,.slice a1 n1 c1] 139,.box b3 [.bool false,.slice a2 n2 c2] 139,.box b4 [.bool false,zl,.bool false,zl] 141,.hp gg,.box b5 [.bool false,.slice a5 n5 c5] 139] λq' hq'=>?_;refine call (λw' hm=>sU (g1:=g1) (g2:=false) w' ((ha.mono hW1).mono (hm 0 _ rfl).whole) (hG _ (hm 0 _ rfl).whole (hm 4 _ rfl).whole) q1 q2) ?_;rintro _ _ ⟨g7,a7,n7,c7,r7,rfl,rfl,h7⟩;have e7:((!(g1==false)) && decide (0 < x / G))=g1:=by
   rw[hxd];cases g1 with
   | false=>rfl
   | true=>rw[decide_eq_true (hg rfl)];rfl
  rw[e7];apply hq';refine nQ [.hp (Hp.whole w),.box b2 [.bool g1,.slice a7 n7 c7] 139,.box b3 [.bool false,.slice a2 n2 c2] 139,.box b4 [.bool false,zl,.bool false,zl] 141,.hp gg,.box b5 [.bool false,.slice a5 n5 c5] 139,.hp g7] λq' hq'=>?_;refine DB (λw' hm=>sU (g1:=false) (g2:=false) w' ((hb.mono hW2).mono (hm 0 _ rfl).whole) (hG _ (hm 0 _ rfl).whole (hm 4 _ rfl).whole) q1 q3) ?_;rintro _ _ ⟨g8,a8,n8,c8,r8,rfl,rfl,h8⟩ hsat;have hdj:g7.dj g8:=by
   obtain⟨w0,w1,hok⟩:=hsat;exact hok.disj 6 7 _ _ dc rfl rfl
  rw[show ((!(false==false)) && decide (0 < y / G))=false from rfl];apply hq';refine nQ [.hp (Hp.whole w),.box b2 [.bool g1,.slice a7 n7 c7] 139,.box b3 [.bool false,.slice a8 n8 c8] 139,.box b4 [.bool false,zl,.bool false,zl] 141,.hp gg,.box b5 [.bool false,.slice a5 n5 c5] 139,.hp g7,.hp g8] λq' hq'=>?_;apply hq';exact⟨[.hp (g7.join g8)],⟨_,_,_,_,_,_,_,rfl,rfl,λW _ _ l2=>⟨h7.mono ((Hp.le_join_l _ _).trans l2),h8.mono ((Hp.le_join_r hdj).trans l2)⟩⟩,λw' h=>(Ok.join (h.pick [0,6,7] rfl rfl)).pick [0,1] rfl rfl⟩
 ·have hG1:G=1:=by
   have h2 : ¬ iC (aG false G) (aG false 1)≠0:=of_decide_eq_false h1;rw[ES,ES] at h2;refine j9 λc=>h2 ?_;unfold iC;split
   ·decide
   ·split
    ·decide
    ·omega
  refine o7 λq' hq'=>?_;apply hq';refine⟨[.hp Hp.emp],⟨_,_,_,_,_,_,_,rfl,rfl,λW l1 l2 _=>?_⟩,λw' h=>(h.pick [0] rfl rfl).emp⟩;rw[hG1,Nat.div_one,Nat.div_one];exact⟨ha.mono l1,hb.mono l2⟩
end Go.Proofs.YtpjhmeicbjkcdaaGreatDoor
namespace Go.Proofs.YtpjhmeicbjkcdaaGreatDoor
open Go Go.RowKit Go.Dw
theorem Ez {a:Int} {g:Nat} (hg:0 < g) (hd:g∣a.natAbs):(a / (g:Int)).natAbs=a.natAbs / g/\(a / (g:Int) < 0↔a < 0):=by
 obtain⟨c,hc⟩:=hd;have h2:a=(g:Int)*c\/a=(g:Int) * -(c:Int):=by
  rcases Int.natAbs_eq a with h | h
  ·left;rw[h,hc];push_cast;rfl
  ·right;rw[h,hc];push_cast;rw[Int.mul_neg]
 rw[hc,Ni _ hg];have hg':(0:Int) < g:=om
 rcases h2 with h2 | h2
 ·rw[h2,Nd _ om];refine⟨om,⟨λh=>by omega,λh=>?_⟩⟩;have:(0:Int)<=(g:Int)*c:=Int.mul_nonneg om om;omega
 ·rw[h2,Nd _ om];refine⟨om,⟨λh=>?_,λh=>?_⟩⟩
  ·rw[Int.mul_neg];have:(0:Int) < (g:Int)*c:=Int.mul_pos hg' om;omega
  ·rcases w6 c with e | e
   ·subst e;simp at h
   ·omega
theorem U1 (x:Int) (hx1 : -9223372036854775808<=x) (hx2:x<=9223372036854775807) (w:World) :
  j6 Tryz.prog 71 #[iQ x] w (fD w λv cs=>∃g a n c,cs = [.hp g]/\v=cF (decide (x < 0)) a n c false none 0 0/\mV g a n c x.natAbs):=by
 refine enterZ (cx 6) [iQ x] [.cell 2 141] Tryz.func71 ?_;intro b2;refine call (λw' hm=>uB x hx1 hx2 w') ?_;rintro _ _ ⟨g,a,n,c,L,rfl,rfl,hs,hc⟩;have hM:mV g a n c x.natAbs:=OB (h:=g) (m:=19) ⟨a,n,c,L,rfl,hs,hc,by
  refine Nat.le_of_not_lt λh=>?_;have h1:=hc.ge om;have h2:Bs ^ 2<=Bs ^ (L.length - 1):=I4 (by unfold Bs;omega) om;unfold Bs at *;omega⟩ om dc
 exact⟨[.hp g],⟨g,a,n,c,rfl,rfl,hM⟩,pk [0,2]⟩
theorem qA {n1:Bool} {a1 a2:Option Addr} {k1 c1 k2 c2 x:Nat} (w:World) (hM:bT (Hp.whole w) (.slice a1 k1 c1) x) :
  j6 Tryz.prog 144 #[cF n1 a1 k1 c1 false a2 k2 c2] w (v7 w (iQ (if x=0 then 0 else if n1=true then -1 else 1))):=by
 unfold cF;refine enterZ (cx 6) [.agg #[.bool n1,.slice a1 k1 c1,.bool false,.slice a2 k2 c2]] [.tmp 2] Tryz.func144 ?_;intro b1;refine k7 _ (λw' hm=>cD w' (hM.mono (hm 0 _ rfl).whole)) ?_;exact⟨[],⟨rfl,rfl⟩,pk [0]⟩
theorem tG {z:Int} {m:Nat} {a1 a2:Option Addr} {k1 c1 k2 c2:Nat} (w:World) (h1:bT (Hp.whole w) (.slice a1 k1 c1) z.natAbs) (h2:bT (Hp.whole w) (.slice a2 k2 c2) m) (hz:z.natAbs < 100000000000000000000) (hm:m < 100000000000000000000) (hP:dT (Hp.whole w)) :
  j6 Tryz.prog 72 #[cF (decide (z < 0)) a1 k1 c1 false a2 k2 c2] w (v7 w (sv (if m=0\/m=1 then zT z else zT z++47::Lib.decDigits m))):=by
 have hzl:=tN (z:=z) (k:=20) dc hz;have hml:=xH (k:=20) (n:=m) dc hm;have hden:=λ(w':World) (hl:(Hp.whole w).le (Hp.whole w'))=>oU (z:=(m:Int)) w' (a:=a2) (n:=k2) (c:=c2) (by rw[Int.natAbs_natCast];exact h2.mono hl) om (hP.mono hl);have ez:zT (m:Int)=Lib.decDigits m:=by unfold zT;rw[if_neg om,Int.natAbs_natCast]
 have en:decide ((m:Int) < 0)=false:=decide_eq_false om;rw[ez,en] at hden;unfold cF;refine enterZ (cx 16) [.agg #[.bool (decide (z < 0)),.slice a1 k1 c1,.bool false,.slice a2 k2 c2]] [.tmp 2] Tryz.func72 ?_;intro b1;refine o7 (λ_ kz=>kz _ _ ?_);refine o7 λq' hq'=>?_;refine k7 _ (λw' hm=>by
  have:=qL (n1:=decide (z < 0)) (a1:=a1) (k1:=k1) (c1:=c1) w' (h2.mono (hm 0 _ rfl).whole);unfold cF at this;exact this) ?_
 apply hq';refine M6 (by rfl) (λg=>?_) λg=>?_
 ·rw[if_pos (of_decide_eq_true g)];refine k7 _ (λw' hm=>oU w' (h1.mono (hm 0 _ rfl).whole) hz (hP.mono (hm 0 _ rfl).whole)) ?_;exact⟨[],⟨rfl,rfl⟩,pk [0]⟩
 ·rw[if_neg (of_decide_eq_false g)];refine s6.cut Unit (λ_=>[(2,.v (sv (zT z++47::Lib.decDigits m)))]) (λ_=>[.hp (Hp.whole w)]) (λ_=>True) (s6.by_order cQ (.take 0 <| .take 1 <| .take 4 <| .take 5 <| .run 2 <| .take 3 <| .run 6 <| .take 7 <| .take 8 <| .done) kr ?_) ?_
  ·refine k7 _ (λw' hm=>oU w' (h1.mono (hm 0 _ rfl).whole) hz (hP.mono (hm 0 _ rfl).whole)) ?_;refine⟨sK,?_⟩;refine P0 (ty:=9) (a:=zT z) (b:=[47]) (by simp only[d7,d9];omega) ?_;refine k7 _ (λw' hm=>hden w' (hm 0 _ rfl).whole) ?_;refine⟨sK,?_⟩;refine P0 (ty:=9) (a:=zT z++[47]) (b:=Lib.decDigits m) (by simp only[d6,d7,d9];omega) ?_;refine⟨(),trivial,v6.mk (pj [0]) ?_ rfl⟩;rw[o6];rfl
  intro _ _ _;exact⟨[],⟨rfl,rfl⟩,pk [0]⟩
theorem yY (h:Hp):mV h none 0 0 0:=⟨[],Sl.nil _ _ _ _ _,fG.nil,dc⟩
set_option maxRecDepth 10000 in
theorem nV {z:Int} {m:Nat} {a1 a2:Option Addr} {n1 c1 n2 c2:Nat} (w:World) (h1:mV (Hp.whole w) a1 n1 c1 z.natAbs) (h2:mV (Hp.whole w) a2 n2 c2 m) (hm:0 < m) :
  j6 Tryz.prog 70 #[cF (decide (z < 0)) a1 n1 c1 false none 0 0,cF false a2 n2 c2 false none 0 0] w (fD w λv cs=>∃g b1 k1 e1 b2 k2 e2,cs = [.hp g]/\v=.tuple #[cF (decide (z < 0)) b1 k1 e1 false b2 k2 e2,iQ 0]/\bT g (.slice b1 k1 e1) (z.natAbs / I5 z.natAbs m)/\bT g (.slice b2 k2 e2) (m / I5 z.natAbs m)):=by
 unfold cF;refine enterZ (cx 21) [.agg #[.bool (decide (z < 0)),.slice a1 n1 c1,.bool false,zl],.agg #[.bool false,.slice a2 n2 c2,.bool false,zl]] [.cell 4 141,.tmp 5] Tryz.func70 ?_;intro b2 b3 b4;refine o7 (λ_ kz=>kz _ _ ?_);refine nQ [.hp (Hp.whole w),.box b2 [.bool (decide (z < 0)),.slice a1 n1 c1,.bool false,zl] 141,.box b3 [.bool false,.slice a2 n2 c2,.bool false,zl] 141,.box b4 [.bool false,zl,.bool false,zl] 141] λq' hq'=>?_;refine k7 _ (λw' hm2=>by
  have h:=qA (n1:=false) (a2:=none) (k2:=0) (c2:=0) w' (h2.mag.mono (hm2 0 _ rfl).whole);rw[if_neg (show m≠0 by omega),if_neg dc] at h;unfold cF at h;exact h) ?_
 apply hq';refine dQ rfl ?_;refine s6.cut (Hp×Hp×Hp×Hp×Hp×(Option Addr×Nat×Nat)×(Option Addr×Nat×Nat)) (λg=>[(4,.bx 3 0),(5,.v (iQ 0))]) (λg=>[.hp (Hp.whole w),.box b2 [.bool (decide (z < 0)),.slice a1 n1 c1,.bool false,zl] 141,.box b3 [.bool false,.slice a2 n2 c2,.bool false,zl] 141,.box b4 [.bool (decide (z < 0)),.slice g.2.2.2.2.2.1.1 g.2.2.2.2.2.1.2.1 g.2.2.2.2.2.1.2.2,.bool false,.slice g.2.2.2.2.2.2.1 g.2.2.2.2.2.2.2.1 g.2.2.2.2.2.2.2.2] 141,.hp g.1,.hp g.2.1,.hp g.2.2.1,.hp g.2.2.2.1,.hp g.2.2.2.2.1])
  (λg=>∀W,g.2.1.le W->g.2.2.2.1.le W->g.2.2.2.2.1.le W->bT W (.slice g.2.2.2.2.2.1.1 g.2.2.2.2.2.1.2.1 g.2.2.2.2.2.1.2.2) (z.natAbs / I5 z.natAbs m)/\bT W (.slice g.2.2.2.2.2.2.1 g.2.2.2.2.2.2.2.1 g.2.2.2.2.2.2.2.2) (m / I5 z.natAbs m)) (s6.by_order0 (s0:=[.hp (Hp.whole w),.box b2 [.bool (decide (z < 0)),.slice a1 n1 c1,.bool false,zl] 141,.box b3 [.bool false,.slice a2 n2 c2,.bool false,zl] 141,.hp Hp.emp]) cQ (.take 0 <| .take 1 <| .take 2 <| .take 5 <| .take 7 <| .take 8 <| .run 3 <| .run 4 <| .run 6 <| .run 9 <| .run 10 <| .run 11 <| .run 12 <| .done) kr (sK) ?_) ?_
 ·refine call (λw' hm2=>by
   have h:=tL (h0:=Hp.whole w) (n1:=false) (x:=m) (y:=0) w' (hm2 0 _ rfl) ⟨h2,yY _,nofun⟩;unfold cF at h;exact h) ?_
  rintro _ _ ⟨g1,p1,q1,r1,rfl,rfl,hd1⟩;refine⟨sK,?_⟩;obtain⟨Lz,sz,cz,lz⟩:=h1;refine call (λw' hm2=>by
   obtain⟨Ld,sd,cd,ld⟩:=hd1 (Hp.whole w') (hm2 0 _ rfl).whole (hm2 4 _ rfl).whole;exact tJ (g1:=decide (z < 0)) (g2:=false) w' (sz.mono (j7 _) (hm2 0 _ rfl).whole) sd cz cd lz ld) ?_
  rintro _ _ ⟨g2,p2,q2,r2,rfl,rfl,hd2⟩;rw[show ((!(decide (z < 0)==false)) && decide (0 < z.natAbs*iH 0))=decide (z < 0) by
   by_cases g:z < 0
   ·rw[decide_eq_true g,decide_eq_true (show 0 < z.natAbs*iH 0 by rw[show iH 0=1 from rfl];omega)];rfl
   ·rw[decide_eq_false g];rfl]
  refine⟨sK,?_⟩;refine call (λw' hm2=>by
   have h:=tL (h0:=Hp.whole w) (n1:=decide (z < 0)) (x:=z.natAbs) (y:=0) w' (hm2 0 _ rfl) ⟨⟨Lz,sz,cz,lz⟩,yY _,λg=>by have:=of_decide_eq_true g;omega⟩;unfold cF at h;exact h) ?_
  rintro _ _ ⟨g3,p3,q3,r3,rfl,rfl,hd3⟩;refine⟨sK,?_⟩;obtain⟨Lm,sm,cm,lm⟩:=h2;refine call (λw' hm2=>by
   obtain⟨Ld,sd,cd,ld⟩:=hd3 (Hp.whole w') (hm2 0 _ rfl).whole (hm2 6 _ rfl).whole;exact tJ (g1:=false) (g2:=false) w' sd (sm.mono (j7 _) (hm2 0 _ rfl).whole) cd cm ld lm) ?_
  rintro _ _ ⟨g4,p4,q4,r4,rfl,rfl,hd4⟩;refine⟨sK,?_⟩;rw[show ((!(false==false)) && decide (0 < iH 0*m))=false from rfl];have eD:iH 0=1:=rfl;rw[eD,E3] at hd2;rw[eD,P9] at hd4;refine call (λw' hm2=>EF (g1:=decide (z < 0)) w' (hm2 5 _ rfl) (hm2 7 _ rfl) hd2 hd4 hm (λg=>by have:=of_decide_eq_true g;omega)) ?_;rintro _ _ ⟨g5,b1,k1,e1,b2',k2,e2,rfl,rfl,hd5⟩;refine⟨sK,?_⟩;first
  | exact⟨sK,sK,(g1,g2,g3,g4,g5,(b1,k1,e1),(b2',k2,e2)),λW l1 l2 l3=>hd5 W l1 l2 l3,v6.mk (pj [0,1,2,3,4,5,6,7,8]) rfl rfl⟩
  | exact⟨sK,(g1,g2,g3,g4,g5,(b1,k1,e1),(b2',k2,e2)),λW l1 l2 l3=>hd5 W l1 l2 l3,v6.mk (pj [0,1,2,3,4,5,6,7,8]) rfl rfl⟩
  | exact⟨(g1,g2,g3,g4,g5,(b1,k1,e1),(b2',k2,e2)),λW l1 l2 l3=>hd5 W l1 l2 l3,v6.mk (pj [0,1,2,3,4,5,6,7,8]) rfl rfl⟩
 rintro⟨g1,g2,g3,g4,g5,⟨b1,k1,e1⟩,⟨b2',k2,e2⟩⟩ hM hsat;dsimp only at hM ⊢;have hdl:PC [.hp g2,.hp g4,.hp g5]:=by
  obtain⟨w0,w1,hok⟩:=hsat;exact (hok.pick [0,5,7,8] rfl rfl).djL
 exact⟨[.hp (joinL [.hp g2,.hp g4,.hp g5])],⟨_,b1,k1,e1,b2',k2,e2,rfl,rfl,hM _ (I3 hdl (i:=0) rfl) (I3 hdl (i:=1) rfl) (I3 hdl (i:=2) rfl)⟩,λw' h=>(h.pick [0,5,7,8] rfl rfl).joinL⟩
end Go.Proofs.YtpjhmeicbjkcdaaGreatDoor
namespace Go.Dw
open Go Go.RowKit
theorem vB {P:Program} {ops:Array Oper} {Q:Exit->Act->World->Prop} {md:Region.Mode} {S S':World->Prop} {N:Nat->Prop} (hS :∀w,S w->S' w) :∀(fuel:Nat) (listed:Array Bool) (a:Act) (w:World),X6 P md ops Q S N fuel listed a w->X6 P md ops Q S' N fuel listed a w
 | 0,_,_,_,h=>h
 | fuel+1,_,_,_,h=>⟨h.1,λi hi=>wpOp_mono (λa' w' h'=>⟨λhn=>hS _ (h'.1 hn),vB hS fuel _ a' w' h'.2⟩) (h.2 i hi)⟩
theorem Ae {s0 s:List Ch} (hs:X8 s0 s) {w:World} (h:gN s w):gN s0 w:=λi c e=>by
 rcases U6 hs i c e with h' | rfl
 ·exact h i c h'
 ·exact Hp.emp_in _
inductive DU where
 | done
 | take (i:Nat) (k:DU)
 | run (i:Nat) (k:DU)
 | two (i:Nat) (k:DU) (j:Nat) (k':DU)
 | three (i:Nat) (k:DU) (j:Nat) (k':DU) (l:Nat) (k'':DU)
 | reb (k:DU)
def DU.takes:DU->List Nat
 | .done=>[]
 | .take i k=>i::k.takes
 | .run _ k=>k.takes
 | .two _ k _ k'=>k.takes++k'.takes
 | .three _ k _ k' _ k''=>k.takes++k'.takes++k''.takes
 | .reb k=>k.takes
def DU.steps:DU->Nat
 | .done=>0
 | .take _ k=>k.steps+1
 | .run _ k=>k.steps+1
 | .two _ k _ k'=>tI k.steps k'.steps+1
 | .three _ k _ k' _ k''=>tI (tI k.steps k'.steps) k''.steps+1
 | .reb k=>k.steps
def DU.ok (ops:Array Oper):DU->Array Bool->Bool
 | .done,l=>(Region.ready .any ops l).isEmpty
 | .take i k,l=>(Region.ready .any ops l).contains i && Region.free .any ops l i && k.ok ops (l.setIfInBounds i true)
 | .run i k,l=>decide (Region.ready .any ops l = [i]) && k.ok ops (l.setIfInBounds i true)
 | .two i k j k',l=>decide (Region.ready .any ops l = [i,j]) && k.ok ops (l.setIfInBounds i true) && k'.ok ops (l.setIfInBounds j true)
 | .three i k j k' m k'',l=>decide (Region.ready .any ops l = [i,j,m]) && k.ok ops (l.setIfInBounds i true) && k'.ok ops (l.setIfInBounds j true) && k''.ok ops (l.setIfInBounds m true)
 | .reb k,l=>k.ok ops l
def DU.fine (ops:List Oper) (d:DU):Bool:=Region.noSelect ops.toArray && R0 d.steps ops.length && d.ok ops.toArray (Array.replicate ops.length false)
def iD (ops:List Oper) (takes:List Nat) (i:Nat) (k:DU):Bool:=match T4 ops takes i with | true=>true | false=>(match k.takes with | []=>false | _=>true)
def uX (X:R5) (ops:List Oper) (i:Nat) (need:Bool) (s0:List Ch) (cont:Tm->List Ch->Prop) (t:Tm) (s:List Ch):Prop:=match iX ops i with
 | some o=>aI ops o t
   (λt=>FO X s t o λtv s'=>putk X.n t o.dst tv λt'=>match need with | true=>X8 s0 s'/\cont t' s' | false=>cont t' s')
   (λt=>putk X.n t o.dst (.v undef) λt'=>match need with | true=>X8 s0 s/\cont t' s | false=>cont t' s)
 | none=>False
def W7 (X:R5) (ops:List Oper) (takes:List Nat):DU->List Ch->(Tm->List Ch->Prop)->Tm->List Ch->Prop
 | .done,_,Q,t,s=>Q t s
 | .take i k,s0,Q,t,s=>match iX ops i with
  | some o=>match SP o.op with
   | true=>aI ops o t
    (λt=>wq X s0 t o.op λtv=>putk X.n t o.dst tv λt'=>W7 X ops takes k s0 Q t' s)
    (λt=>putk X.n t o.dst (.v undef) λt'=>W7 X ops takes k s0 Q t' s)
   | false=>False
  | none=>False
 | .run i k,s0,Q,t,s=>uX X ops i (iD ops takes i k) s0 (λt s=>W7 X ops takes k s0 Q t s) t s
 | .two i k j k',s0,Q,t,s=>uX X ops i (iD ops takes i k) s0 (λt s=>W7 X ops takes k s0 Q t s) t s/\uX X ops j (iD ops takes j k') s0 (λt s=>W7 X ops takes k' s0 Q t s) t s
 | .three i k j k' m k'',s0,Q,t,s=>uX X ops i (iD ops takes i k) s0 (λt s=>W7 X ops takes k s0 Q t s) t s/\uX X ops j (iD ops takes j k') s0 (λt s=>W7 X ops takes k' s0 Q t s) t s/\uX X ops m (iD ops takes m k'') s0 (λt s=>W7 X ops takes k'' s0 Q t s) t s
 | .reb k,s0,Q,t,s=>X8 s0 s/\W7 X ops takes k s Q t s
section
variable {X:R5} {n:Nat} {t:Tm} {s:List Ch} {a:Act}
theorem PE (hX:X.Good) {ops:List Oper} {takes:List Nat} {w0:World} {Q:Exit->Act->World->Prop} {q:Tm->List Ch->Prop}
  (hQ :∀t s a w,Fr X.n t s a->Ok w0 s w->q t s->Q .normal a w) (hP :∀c a w,¬ Q (.panic c) a w) (hsel:Region.noSelect ops.toArray=true) :
  ∀(d:DU) (s0:List Ch) (fuel:Nat) (listed:Array Bool) (t:Tm) (s:List Ch) (a:Act) (w:World),d.steps<=fuel->d.ok ops.toArray listed=true->(∀i∈d.takes,i∈takes)->
   W7 X ops takes d s0 q t s->Fr X.n t s a->Ok w0 s w->(d.takes≠[]->X8 s0 s)->
   X6 X.P .any ops.toArray Q (gN s0) (λj=>T4 ops takes j=true) fuel listed a w:=by
 have hP' :∀(oi:Oper) (v:Value) c a w,Q (.panic c) (a.put oi.dst v) w->Q (.panic c) a w:=λ_ _ c _ w h=>absurd h (hP c _ w);have subval :∀{s s':List Ch},X8 s s'->∀tv v,TV.val s tv=some v->TV.val s' tv=some v:=by
  intro s s' hs tv v hv;cases tv with
  | v x=>exact hv
  | bx i off=>
   obtain⟨b,cs,T,h1,h2⟩:=qR hv;simp[TV.val,(U6 hs i _ h1).resolve_right (λe=>by cases e),h2]
  | bs i n=>
   obtain⟨b,cs,T,h1,h2⟩:=NG hv;simp[TV.val,(U6 hs i _ h1).resolve_right (λe=>by cases e),h2]
 have sub_mem :∀{s0 s:List Ch} {w:World},X8 s0 s->Ok w0 s w->gN s0 w:=λhs hok i c e=>by
  rcases U6 hs i c e with h | rfl
  ·exact hok.mem i c h
  ·exact Hp.emp_in _
 have runc :∀(s0:List Ch) (i:Nat) (k:DU) (fuel:Nat) (listed:Array Bool) (t:Tm) (s:List Ch) (a:Act) (w:World),
   (∀(t:Tm) (s:List Ch) (a:Act) (w:World),W7 X ops takes k s0 q t s->Fr X.n t s a->Ok w0 s w->(k.takes≠[]->X8 s0 s)->
    X6 X.P .any ops.toArray Q (gN s0) (λj=>T4 ops takes j=true) fuel (listed.setIfInBounds i true) a w)->
   uX X ops i (iD ops takes i k) s0 (λt s=>W7 X ops takes k s0 q t s) t s->Fr X.n t s a->Ok w0 s w->
   wpOp X.P ops.toArray Q i (λa' w'=>(T4 ops takes i=true->gN s0 w')/\X6 X.P .any ops.toArray Q (gN s0) (λj=>T4 ops takes j=true) fuel (listed.setIfInBounds i true) a' w') a w:=by
  intro s0 i k fuel listed t s a w ih h hf hok;unfold uX at h;rw[R8] at h;cases ho:ops[i]? with
  | none=>simp[ho] at h
  | some o=>
   simp only[ho] at h;have fin :∀{t':Tm} {s':List Ch} {a':Act} {w':World},(match iD ops takes i k with | true=>X8 s0 s'/\W7 X ops takes k s0 q t' s' | false=>W7 X ops takes k s0 q t' s')->
     Fr X.n t' s' a'->Ok w0 s' w'->(T4 ops takes i=true->gN s0 w')/\X6 X.P .any ops.toArray Q (gN s0) (λj=>T4 ops takes j=true) fuel (listed.setIfInBounds i true) a' w':=by
    intro t' s' a' w' hm hf' hok';cases hn:iD ops takes i k with
    | true=>
     simp only[hn] at hm;exact⟨λ_=>sub_mem hm.1 hok',ih t' s' a' w' hm.2 hf' hok' λ_=>hm.1⟩
    | false=>
     simp only[hn] at hm;unfold iD at hn;cases hs:T4 ops takes i with
     | true=>simp[hs] at hn
     | false=>
      simp only[hs] at hn;refine⟨(λh=>by cases h),ih t' s' a' w' hm hf' hok' λhk=>?_⟩;cases hkk:k.takes with
      | nil=>exact absurd hkk hk
      | cons x xs=>simp[hkk] at hn
   unfold wpOp;have ho':ops.toArray[i]?=some o:=by simpa using ho
   simp only[ho'];rcases S8 hf h with ⟨hw,t',hf',hy⟩ | ⟨hw,t',hf',hn⟩
   ·rw[if_pos hw];refine .inl (DK hX hf' hy w0 w hok _ Q λtv v s' w' hok' hk hv hp=>?_);obtain⟨t'',h1,h2⟩:=(hf'.keep hk).putk hv hp;exact fin h1 h2 hok'
   ·rw[if_neg (by rw[hw];simp)];obtain⟨t'',h1,h2⟩:=hf'.putk (tv:=.v undef) rfl hn;exact fin h1 h2 hok
 intro d;induction d with
 | done=>
  intro s0 fuel listed t s a w _ hok _ h hf hw _;exact vA (by simpa [DU.ok] using hok) (hQ t s a w hf hw h) fuel
 | take i k ih=>
  intro s0 fuel listed t s a w hst hok htk h hf hw hsub;have hs0:X8 s0 s:=hsub (by simp[DU.takes]);cases fuel with
  | zero=>simp[DU.steps] at hst
  | succ fuel=>
   simp only[DU.ok,k6] at hok;obtain⟨⟨hr,hfree⟩,hk⟩:=hok;simp only[W7] at h;rw[R8] at h;cases ho:ops[i]? with
   | none=>simp[ho] at h
   | some o=>
    simp only[ho] at h;have ho':ops.toArray[i]?=some o:=by simpa using ho
    cases hq:SP o.op with
    | false=>simp[hq] at h
    | true=>
     simp only[hq] at h;have main :∀(v:Value) (t'':Tm),YieldsIf X.P ops.toArray (gN s0) o v a->Fr X.n t'' s (a.put o.dst v)->W7 X ops takes k s0 q t'' s->
       X6 X.P .any ops.toArray Q (gN s0) (λj=>T4 ops takes j=true) (fuel+1) listed a w:=by
      intro v t'' hy hf'' hd;refine qJ ho' (Region.noSelect_spec hsel) (hP' o v) (λj oj hj hno=>?_) fuel listed a w (Region.free_spec ho' hfree) (by simpa using hr) hy (sub_mem hs0 hw)
       (ih s0 fuel _ t'' s _ w (by simp[DU.steps] at hst;omega) hk (λj hj=>htk j (by simp[DU.takes,hj])) hd hf'' hw λ_=>hs0)
      unfold T4;refine E6.2 ⟨i,htk i (by simp[DU.takes]),?_⟩;rw[R8];have hj':ops[j]?=some oj:=by simpa using hj
      simp only[hj',Z7,J8,k6,not_and];intro e he hb heq;exact hno e (Array.mem_toList_iff.1 he) hb (J4 heq)
     rcases S8 hf h with ⟨hwt,t',hf',hy⟩ | ⟨hwt,t',hf',hn⟩
     ·have hfw:AX t' s0 a:=λj tv v h1 h2=>hf'.w j tv v h1 (subval hs0 tv v h2);obtain⟨tv,v,h1,h2,h3⟩:=NC hX hfw hq hy;obtain⟨t'',h4,h5⟩:=hf'.putk (subval hs0 tv v h1) h2;exact main v t'' (.inl ⟨hwt,h3⟩) h5 h4
     ·obtain⟨t'',h4,h5⟩:=hf'.putk (tv:=.v undef) rfl hn;exact main undef t'' (.inr ⟨hwt,rfl⟩) h5 h4
 | run i k ih=>
  intro s0 fuel listed t s a w hst hok htk h hf hw hsub;cases fuel with
  | zero=>simp[DU.steps] at hst
  | succ fuel=>
   simp only[DU.ok,k6,decide_eq_true_eq] at hok;refine⟨(λh0=>by rw[hok.1] at h0;cases h0),λi' hi'=>?_⟩;rw[hok.1] at hi';have:i'=i:=by simpa using hi'
   subst this;exact runc s0 i' k fuel listed t s a w (λt s a w h hf hw hs=>ih s0 fuel _ t s a w (by simp[DU.steps] at hst;omega) hok.2 (λj hj=>htk j (by simpa [DU.takes] using hj)) h hf hw hs) h hf hw
 | two i k j k' ih ih'=>
  intro s0 fuel listed t s a w hst hok htk h hf hw hsub;cases fuel with
  | zero=>simp[DU.steps] at hst
  | succ fuel=>
   simp only[DU.ok,k6,decide_eq_true_eq] at hok;simp only[DU.steps] at hst;have hm:=Y6 k.steps k'.steps;have hm':=W4 k.steps k'.steps;refine⟨(λh0=>by rw[hok.1.1] at h0;cases h0),λi' hi'=>?_⟩;rw[hok.1.1] at hi';rcases (by simpa using hi':i'=i\/i'=j) with rfl | rfl
   ·exact runc s0 i' k fuel listed t s a w (λt s a w h hf hw hs=>ih s0 fuel _ t s a w (v8 hm (E1 hst)) hok.1.2 (λj hj=>htk j (by simp[DU.takes,hj])) h hf hw hs) h.1 hf hw
   ·exact runc s0 i' k' fuel listed t s a w (λt s a w h hf hw hs=>ih' s0 fuel _ t s a w (v8 hm' (E1 hst)) hok.2 (λj hj=>htk j (by simp[DU.takes,hj])) h hf hw hs) h.2 hf hw
 | three i k j k' m k'' ih ih' ih''=>
  intro s0 fuel listed t s a w hst hok htk h hf hw hsub;cases fuel with
  | zero=>simp[DU.steps] at hst
  | succ fuel=>
   simp only[DU.ok,k6,decide_eq_true_eq] at hok;simp only[DU.steps] at hst;have hm0:=Y6 (tI k.steps k'.steps) k''.steps;have hm:=v8 (Y6 k.steps k'.steps) hm0;have hm':=v8 (W4 k.steps k'.steps) hm0;have hm'':=W4 (tI k.steps k'.steps) k''.steps;refine⟨(λh0=>by rw[hok.1.1.1] at h0;cases h0),λi' hi'=>?_⟩;rw[hok.1.1.1] at hi';rcases (by simpa using hi':i'=i\/i'=j\/i'=m) with rfl | rfl | rfl
   ·exact runc s0 i' k fuel listed t s a w (λt s a w h hf hw hs=>ih s0 fuel _ t s a w (v8 hm (E1 hst)) hok.1.1.2 (λj hj=>htk j (by simp[DU.takes,hj])) h hf hw hs) h.1 hf hw
   ·exact runc s0 i' k' fuel listed t s a w (λt s a w h hf hw hs=>ih' s0 fuel _ t s a w (v8 hm' (E1 hst)) hok.1.2 (λj hj=>htk j (by simp[DU.takes,hj])) h hf hw hs) h.2.1 hf hw
   ·exact runc s0 i' k'' fuel listed t s a w (λt s a w h hf hw hs=>ih'' s0 fuel _ t s a w (v8 hm'' (E1 hst)) hok.2 (λj hj=>htk j (by simp[DU.takes,hj])) h hf hw hs) h.2.2 hf hw
 | reb k ih=>
  intro s0 fuel listed t s a w hst hok htk h hf hw hsub;have h1:=ih s fuel listed t s a w hst hok htk h.2 hf hw (λ_=>eM s);exact vB (λw' hm=>Ae h.1 hm) fuel listed a w h1
theorem s6.by_orderU0 {X:R5} (hX:X.Good) {ops:List Oper} {Q:Tm->List Ch->Prop} {t:Tm} {s s0:List Ch} (d:DU) (hd:d.fine ops=true) (hs:X8 s0 s) (h:W7 X ops d.takes d s0 Q t s):s6 X ops Q t s:=by
 refine⟨λw0 w a Q' hok hf hQ hP=>?_⟩;unfold DU.fine at hd;simp only[k6] at hd;obtain⟨⟨h1,h2⟩,h3⟩:=hd;have hlen:ops.toArray.size=ops.length:=sQ
 rw[hlen];exact oS _ _ _ _ (PE hX (λt s a w hf hok hq=>hQ t s a w hok hf hq) hP h1 d s0 ops.length _ t s a _ (E0 h2) h3 (λi hi=>hi) h hf hok.drew λ_=>hs)
theorem s6.by_orderU {X:R5} (hX:X.Good) {ops:List Oper} {Q:Tm->List Ch->Prop} {t:Tm} {s:List Ch} (d:DU) (hd:d.fine ops=true) (h:W7 X ops d.takes d s Q t s):s6 X ops Q t s:=
 s6.by_orderU0 hX d hd (eM s) h
end
end Go.Dw
namespace Go.Dw
open Go Go.RowKit
section
variable {P:Program} {s:List Ch} {xo yo:Operand} {ty:Nat} {q:TV->Prop}
theorem Gh {z:Nat} (h:z < 9223372036854775808):IntKind.i64.wrap (z:Int)=z:=by rw[IntKind.wrap_i64];omega
theorem Ir (a b:Nat) (ha:a < 9223372036854775808) (hb:b < 9223372036854775808):bits .and .i64 (a:Int) (b:Int)=((a &&& b:Nat):Int):=by
 have hx:a &&& b < 2 ^ 63:=Nat.and_lt_two_pow _ om;have h1:(BitVec.ofInt 64 (a:Int)).toNat=a:=by
  rw[BitVec.ofInt_natCast,BitVec.toNat_ofNat];exact C9 om
 have h2:(BitVec.ofInt 64 (b:Int)).toNat=b:=by
  rw[BitVec.ofInt_natCast,BitVec.toNat_ofNat];exact C9 om
 show IntKind.i64.wrap ((BitVec.ofInt 64 (a:Int) &&& BitVec.ofInt 64 (b:Int)).toNat:Int)=_
 rw[BitVec.toNat_and,h1,h2];exact Gh hx
theorem Ce (a:Nat) (ha:a < 9223372036854775808) (h:q (.v (iQ ((a % 4:Nat):Int)))):B7 P s (binOp .and ty (iQ a) (iQ 3)) q:=by
 refine⟨_,λw _=>by show Result.ok (Value.int .i64 (bits .and .i64 a ((3:Nat):Int))) w=_;rw[Ir a 3 ha dc,show a &&& 3=a % 4 from Nat.and_two_pow_sub_one_eq_mod a 2],h⟩
theorem Ca (a n:Nat) {k:IntKind} {y:Int} (hy:y=n) (hn:n < 64) (h:q (.v (iQ ((a / 2 ^ n:Nat):Int)))):B7 P s (binOp .shr ty (iQ a) (.int k y)) q:=by
 subst hy;refine⟨_,λw _=>?_,h⟩;show (Op.shift .shr .i64 a k n).run P w=_
 have h0 : ¬ (n:Int) < 0:=om
 have hm:min (n:Int).toNat IntKind.i64.bits=n:=by show min n 64=n;omega
 unfold Op.shift;rw[if_neg h0];dsimp only;rw[hm,Lv _ (by have:=cA n;simp only[Int.pow_nonneg (by decide:(0:Int)<=2)])];have e:((2:Int) ^ n)=((2 ^ n:Nat):Int):=sQ
 rw[e];rfl
theorem CF (a n:Nat) {k:IntKind} {y:Int} (hy:y=n) (hn:n < 64) (h:q (.v (iQ ((a / 2 ^ n:Nat):Int)))):B7 P s (do eqGuard .shr ty xo yo (iQ a) (.int k y);binOp .shr ty (iQ a) (.int k y)) q:=by
 obtain⟨v,h1,h2⟩:=Ca (P:=P) (s:=s) (ty:=ty) a n hy hn h;refine⟨v,λw hm=>?_,h2⟩;have h3:(eqGuard .shr ty xo yo (iQ a) (.int k y)).run P w=.ok () w:=by simp[eqGuard]
 rw[Sem.run_bind,h3,Result.andThen_ok];exact h1 w hm
end
end Go.Dw
namespace Go.Proofs.YtpjhmeicbjkcdaaGreatDoor
open Go Go.RowKit Go.Dw
theorem GP {s:List Ch} {i b T:Nat} {c:UInt8} (hi:m8 s i=some (.box b [.int .u8 c.toNat] T)) {q:TV->Prop} (h:q (.v (sv [c]))):B7 Tryz.prog s (convert 68 9 (.slice (some ⟨b,0,none⟩) 1 1)) q:=by
 refine⟨_,λw hm=>?_,h⟩;rw[run_convert_bytes_arg w 68 5 Tryz.underlying68 Tryz.underlying5 b 0 1 1 [(c.toNat:Int)] rfl (λj hj=>?_) 9 Tryz.underlying9]
 ·congr 2
  unfold strOfNums bs;congr 2
  show [UInt8.ofNat ((c.toNat:Int)).toNat] = [c]
  rw[Int.toNat_natCast,UInt8.ofNat_toNat]
 ·have:j=0:=om
  subst this;exact nT hi rfl hm
theorem Ho {a b c d:e8} {j:Nat} (hj:j < 4):[Value.string (bs a),sv b,sv c,sv d][j]?=some (sv (([a,b,c,d]:List e8).getD j [])):=by
 match j,hj with
 | 0,_=>rfl
 | 1,_=>rfl
 | 2,_=>rfl
 | 3,_=>rfl
theorem HM {a b c d:e8} {j:Nat} (ha:a.length < 10) (hb:b.length < 10) (hc:c.length < 10) (hd:d.length < 10) (hj:j < 4):(([a,b,c,d]:List e8).getD j []).length < 10:=by
 match j,hj with
 | 0,_=>exact ha
 | 1,_=>exact hb
 | 2,_=>exact hc
 | 3,_=>exact hd
theorem fM {x y:Int} {q:Int->Prop} (h:x % 256=y) (hq:q y):bR .u8 x q:=⟨y,by rw[show IntKind.u8.wrap x=x % 256 by simp[IntKind.wrap,IntKind.bits,IntKind.signed],h],hq⟩
set_option maxRecDepth 10000 in
theorem Q3 (kind:UInt8) (i how:Nat) (_hi:i < 1000) (hh:how < 256) (w:World) :
  j6 Tryz.prog 69 #[sv [kind],iQ i,iQ how] w (v7 w (sv (gJ kind i how))):=by
 have h1:how % 4 < 4:=C8 _ dc;have h2:how / 4 % 4 < 4:=C8 _ dc;obtain⟨A,hA⟩ :∃A,A=([[],[65],[57],[45]]:List e8).getD (how % 4) []:=⟨_,rfl⟩
 obtain⟨B,hB⟩ :∃B,B=([[],[34],[95,49],[92]]:List e8).getD (how / 4 % 4) []:=⟨_,rfl⟩
 have lA:A.length < 10:=by rw[hA];exact HM dc dc dc dc h1
 have lB:B.length < 10:=by rw[hB];exact HM dc dc dc dc h2
 have gA:=Ho (a:=[]) (b:=[65]) (c:=[57]) (d:=[45]) h1;have gB:=Ho (a:=[]) (b:=[34]) (c:=[95,49]) (d:=[92]) h2;rw[<-hA] at gA;rw[<-hB] at gB;obtain⟨c,hc⟩ :∃c,c=UInt8.ofNat (97+i % 26):=⟨_,rfl⟩
 have hcn:(97+(i % 26:Nat):Int) % 256=(c.toNat:Int):=by
  rw[hc,UInt8.toNat_ofNat'];have:i % 26 < 26:=C8 _ dc;omega
 have eL:gJ kind i how=A++[kind]++[c]++B:=by
  unfold gJ;rw[<-hA,<-hB,<-hc];simp
 rw[eL];clear eL hA hB hc;refine enterZ (cx 28) [sv [kind],iQ i,iQ how] [.tmp 6] Tryz.func69 ?_;refine s6.cut Unit (λ_=>[(6,.v (sv (A++[kind]++[c]++B)))]) (λ_=>[.hp (Hp.whole w)]) (λ_=>True) (s6.by_orderU cQ (.take 1 <| .take 2 <| .take 5 <| .take 7 <| .take 8 <| .take 9 <| .take 10 <| .take 15 <| .take 16 <| .take 17 <| .three 0 (.reb <| .take 3 <| .take 4 <| .take 6 <| .two 11 (.reb <| .take 12 <| .take 13 <| .run 14 <| .reb <| .take 18 <| .take 19 <| .take 20 <| .take 21 <| .done) 14 (.reb <| .take 18 <| .take 19 <| .run 11 <| .reb <| .take 12 <| .take 13 <| .take 20 <| .take 21 <| .done)) 11 (.reb <| .take 12 <| .two 0 (.reb <| .take 3 <| .take 4 <| .take 6 <| .take 13 <| .run 14 <| .reb <| .take 18 <| .take 19 <| .take 20 <| .take 21 <| .done) 14 (.reb <| .take 18 <| .take 19 <| .run 0 <| .reb <| .take 3 <| .take 4 <| .take 6 <| .take 13 <| .take 20 <| .take 21 <| .done)) 14 (.reb <| .take 18 <| .take 19 <| .two 0 (.reb <| .take 3 <| .take 4 <| .take 6 <| .run 11 <| .reb <| .take 12 <| .take 13 <| .take 20 <| .take 21 <| .done) 11 (.reb <| .take 12 <| .run 0 <| .reb <| .take 3 <| .take 4 <| .take 6 <| .take 13 <| .take 20 <| .take 21 <| .done))) kr ?_) ?_
 ·refine Ce how om ?_;refine gR i 26 (i % 26) rfl rfl dc rfl ?_;refine fM (y:=((i % 26:Nat):Int)) (by have:i % 26 < 26:=C8 _ dc;omega) ?_;refine fM hcn ?_;first | refine Ca how 2 rfl dc ?_ | refine CF how 2 rfl dc ?_
  refine Ce (how / 4) om ?_;refine⟨?_,?_,?_⟩
  ·intro b0;(iterate 2 refine⟨sK,?_⟩);refine dB cQ (e:=9) rfl rfl (how % 4) (how % 4) rfl h1 om ?_;refine wJ cQ (i:=1) rfl gA rfl ?_;refine P0 (ty:=9) (a:=A) (b:=[kind]) (by simp only[d7,d9];omega) ?_;refine⟨?_,?_⟩;focus
    intro b11;(iterate 2 refine⟨sK,?_⟩);refine GP (i:=2) rfl ?_;refine P0 (ty:=9) (a:=A++[kind]) (b:=[c]) (by simp only[d6,d7,d9];omega) ?_;intro b14;(iterate 2 refine⟨sK,?_⟩);refine dB cQ (e:=9) rfl rfl (how / 4 % 4) (how / 4 % 4) rfl h2 om ?_;refine wJ cQ (i:=3) rfl gB rfl ?_
   rotate_left
   focus
    intro b14;(iterate 2 refine⟨sK,?_⟩);refine dB cQ (e:=9) rfl rfl (how / 4 % 4) (how / 4 % 4) rfl h2 om ?_;refine wJ cQ (i:=2) rfl gB rfl ?_;intro b11;(iterate 2 refine⟨sK,?_⟩);refine GP (i:=3) rfl ?_;refine P0 (ty:=9) (a:=A++[kind]) (b:=[c]) (by simp only[d6,d7,d9];omega) ?_
   all_goals
    refine P0 (ty:=9) (a:=A++[kind]++[c]) (b:=B) (by simp only[d6,d7,d9];omega) ?_;exact⟨(),trivial,v6.mk (pj [0]) rfl rfl⟩
  ·intro b11;(iterate 2 refine⟨sK,?_⟩);refine GP (i:=1) rfl ?_;refine⟨?_,?_⟩;focus
    intro b0;(iterate 2 refine⟨sK,?_⟩);refine dB cQ (e:=9) rfl rfl (how % 4) (how % 4) rfl h1 om ?_;refine wJ cQ (i:=2) rfl gA rfl ?_;refine P0 (ty:=9) (a:=A) (b:=[kind]) (by simp only[d7,d9];omega) ?_;refine P0 (ty:=9) (a:=A++[kind]) (b:=[c]) (by simp only[d6,d7,d9];omega) ?_;intro b14;(iterate 2 refine⟨sK,?_⟩);refine dB cQ (e:=9) rfl rfl (how / 4 % 4) (how / 4 % 4) rfl h2 om ?_;refine wJ cQ (i:=3) rfl gB rfl ?_
   rotate_left
   focus
    intro b14;(iterate 2 refine⟨sK,?_⟩);refine dB cQ (e:=9) rfl rfl (how / 4 % 4) (how / 4 % 4) rfl h2 om ?_;refine wJ cQ (i:=2) rfl gB rfl ?_;intro b0;(iterate 2 refine⟨sK,?_⟩);refine dB cQ (e:=9) rfl rfl (how % 4) (how % 4) rfl h1 om ?_;refine wJ cQ (i:=3) rfl gA rfl ?_;refine P0 (ty:=9) (a:=A) (b:=[kind]) (by simp only[d7,d9];omega) ?_;refine P0 (ty:=9) (a:=A++[kind]) (b:=[c]) (by simp only[d6,d7,d9];omega) ?_
   all_goals
    refine P0 (ty:=9) (a:=A++[kind]++[c]) (b:=B) (by simp only[d6,d7,d9];omega) ?_;exact⟨(),trivial,v6.mk (pj [0]) rfl rfl⟩
  ·intro b14;(iterate 2 refine⟨sK,?_⟩);refine dB cQ (e:=9) rfl rfl (how / 4 % 4) (how / 4 % 4) rfl h2 om ?_;refine wJ cQ (i:=1) rfl gB rfl ?_;refine⟨?_,?_⟩;focus
    intro b0;(iterate 2 refine⟨sK,?_⟩);refine dB cQ (e:=9) rfl rfl (how % 4) (how % 4) rfl h1 om ?_;refine wJ cQ (i:=2) rfl gA rfl ?_;refine P0 (ty:=9) (a:=A) (b:=[kind]) (by simp only[d7,d9];omega) ?_;intro b11;(iterate 2 refine⟨sK,?_⟩);refine GP (i:=3) rfl ?_
   rotate_left
   focus
    intro b11;(iterate 2 refine⟨sK,?_⟩);refine GP (i:=2) rfl ?_;intro b0;(iterate 2 refine⟨sK,?_⟩);refine dB cQ (e:=9) rfl rfl (how % 4) (how % 4) rfl h1 om ?_;refine wJ cQ (i:=3) rfl gA rfl ?_;refine P0 (ty:=9) (a:=A) (b:=[kind]) (by simp only[d7,d9];omega) ?_
   all_goals
    refine P0 (ty:=9) (a:=A++[kind]) (b:=[c]) (by simp only[d6,d7,d9];omega) ?_;refine P0 (ty:=9) (a:=A++[kind]++[c]) (b:=B) (by simp only[d6,d7,d9];omega) ?_;exact⟨(),trivial,v6.mk (pj [0]) rfl rfl⟩
 intro _ _ _;exact⟨[],⟨rfl,rfl⟩,pk [0]⟩
end Go.Proofs.YtpjhmeicbjkcdaaGreatDoor
namespace Go.Proofs.YtpjhmeicbjkcdaaGreatDoor
open Go Go.RowKit Go.Dw
def Ge (l:Q4):List Value:=[.int .i8 l.1,.int .i8 l.2.1,.int .i8 l.2.2.1,.int .i8 l.2.2.2]
theorem ZT {l:Q4} {i:Nat} (hi:i < 4):(Ge l)[i]?=some (.int .i8 (q4 l i)):=by
 match i,hi with
 | 0,_=>rfl
 | 1,_=>rfl
 | 2,_=>rfl
 | 3,_=>rfl
theorem WC {a:Int} {b:Nat} (hb:0 < b) {G:Nat} (hG:G=I5 a.natAbs b):(if b / G=0\/b / G=1 then zT (a / (G:Int)) else zT (a / (G:Int))++47::Lib.decDigits (b / G))=O0 a b:=by
 have h1:0 < I5 a.natAbs b:=gM _ hb;have h2:0 < b / I5 a.natAbs b:=Nat.div_pos (SQ hb (Nat.gcd_dvd_right _ _)) h1;unfold O0;rw[<-hG] at h2 ⊢;by_cases h:b / G=1
 ·rw[if_pos (.inr h),if_pos h]
 ·rw[if_neg (λc=>c.elim (λe=>by omega) h),if_neg h]
theorem gV {z:Int} {m:Nat} {b1 b2:Option Addr} {k1 e1 k2 e2:Nat} (w:World) (hm:0 < m) (h1:bT (Hp.whole w) (.slice b1 k1 e1) (z.natAbs / I5 z.natAbs m)) (h2:bT (Hp.whole w) (.slice b2 k2 e2) (m / I5 z.natAbs m)) (hz:z.natAbs < 100000000000000000000) (hm2:m < 100000000000000000000) (hP:dT (Hp.whole w)) :
  j6 Tryz.prog 72 #[cF (decide (z < 0)) b1 k1 e1 false b2 k2 e2] w (v7 w (sv (O0 z m))):=by
 obtain⟨G,hG⟩ :∃G,G=I5 z.natAbs m:=⟨_,rfl⟩
 rw[<-hG] at h1 h2;have g0:0 < G:=by rw[hG];exact gM _ hm
 have hd:=Ez (a:=z) g0 (by rw[hG];exact BR _ _);have h:=tG (z:=z / (G:Int)) (m:=m / G) w (by rw[hd.1];exact h1) h2 (by rw[hd.1];exact s7 (D7 _ _) hz) (s7 (D7 _ _) hm2) hP;rw[WC hm hG,show decide (z / (G:Int) < 0)=decide (z < 0) from decide_eq_decide.2 hd.2] at h;exact h
theorem rY {z:Int} {a:Option Addr} {n c:Nat} (w:World) (h1:mV (Hp.whole w) a n c z.natAbs) (hz:z.natAbs < 100000000000000000000) (hP:dT (Hp.whole w)) :
  j6 Tryz.prog 72 #[cF (decide (z < 0)) a n c false none 0 0] w (v7 w (sv (zT z))):=by
 have h:=tG (z:=z) (m:=0) w h1.mag (yY _).mag hz dc hP;rw[if_pos (.inl rfl)] at h;exact h
set_option maxRecDepth 10000 in
theorem mH (n:Nat) (l:Q4) (hn:n < 1000000) (hl:l.1.natAbs < 1000/\l.2.1.natAbs < 1000/\l.2.2.1.natAbs < 1000/\l.2.2.2.natAbs < 1000) (w:World) (hP:dT (Hp.whole w)) :
  j6 Tryz.prog 73 #[iQ n,.agg (Ge l).toArray] w (fD w λv cs=>∃o,cs = [.hp o.h]/\v=.agg #[sv (dJ n l).1,o.v]/\w8 U0 80 2 o (dJ n l).2):=by
 have hq:=Cf hl;refine enterZ (cx 53) [iQ n,.agg #[.int .i8 l.1,.int .i8 l.2.1,.int .i8 l.2.2.1,.int .i8 l.2.2.2]] [.cell 4 41] Tryz.func73 ?_;intro b3 b4;refine o7 (λ_ kz=>kz _ _ ?_);refine nQ [.hp (Hp.whole w),.box b3 [.int .i8 l.1,.int .i8 l.2.1,.int .i8 l.2.2.1,.int .i8 l.2.2.2] 148,.box b4 [zs,zl] 41] λq' hq'=>?_;have b1:l.1.natAbs < 1000:=hl.1;have b2:l.2.1.natAbs < 1000:=hl.2.1;(iterate 3 refine nwo ?_);refine call (λw' hm=>U1 (l.1 - l.2.1) om om w') ?_;rintro _ _ ⟨g0,a0,n0,c0,rfl,rfl,h0⟩;refine k7 _ (λw' hm=>rY w' (h0.mono (hm 3 _ rfl).whole) om (hP.mono (hm 0 _ rfl).whole)) ?_;intro b5;apply hq';have eL:dJ n l=(zT (l.1 - l.2.1),((z8 (min n 4)).filter λi=>decide (q4 l i≠0)).map λi:Nat=>((i:Int),O0 (q4 l i) (1+i))):=rfl;rw[eL];dsimp only;obtain⟨N,hN⟩ :∃N,N=zT (l.1 - l.2.1):=⟨_,rfl⟩
 rw[<-hN];refine o7 (λ_ kz=>kz _ _ ?_);refine u6.mkS (Nat×Dw.Os) (λg=>[(0,.v (iQ n)),(3,.v (pQ b3)),(4,.bx 2 0),(5,.bx 3 0),(6,.v (iQ g.1))]) (λg=>[.hp (Hp.whole w),.box b3 [.int .i8 l.1,.int .i8 l.2.1,.int .i8 l.2.2.1,.int .i8 l.2.2.2] 148,.box b4 [zs,zl] 41,.box b5 [sv N,g.2.v] 41,.hp g.2.h])
  (λg=>g.1<=min n 4/\w8 U0 80 2 g.2 (((z8 g.1).filter λi=>decide (q4 l i≠0)).map λi:Nat=>((i:Int),O0 (q4 l i) (1+i)))) (λg=>4 - g.1) (0,Dw.Os.nil) ⟨f8 _,w8.nil _ _ _⟩ (v6.mk (λ_ _ h=>(h.pick [0,1,2,4] rfl rfl).emp) rfl rfl) ?_
 rintro⟨i,o⟩ ⟨hi,hO⟩ _;dsimp only at hi hO ⊢;refine o7 λq' hq'=>?_;refine d8 (λs1=>?_) λs1=>?_;focus
  apply hq';refine M6 (by rfl) (λs2=>?_) λs2=>?_
  ·have s2:=of_decide_eq_true s2;have hi4:i < 4:=om
   obtain⟨z,hz⟩ :∃z,z=q4 l i:=⟨_,rfl⟩
   have hzb:z.natAbs < 1000:=by rw[hz];exact hq i
   have hcell:[Value.int .i8 l.1,.int .i8 l.2.1,.int .i8 l.2.2.1,.int .i8 l.2.2.2][i]?=some (.int .i8 z):=by rw[hz];exact ZT (l:=l) hi4
   refine nQ [.hp (Hp.whole w),.box b3 [.int .i8 l.1,.int .i8 l.2.1,.int .i8 l.2.2.1,.int .i8 l.2.2.2] 148,.box b4 [zs,zl] 41,.box b5 [sv N,o.v] 41,.hp o.h] λq' hq'=>?_;refine CQ cQ (T:=148) (e:=133) (len:=4) rfl rfl rfl rfl i rfl hi4 ?_;refine wJ cQ (i:=1) (j:=0+i) rfl (by rw[y8];exact hcell) rfl ?_;refine nwo ?_;refine call (λw' hm=>U1 z om om w') ?_;rintro _ _ ⟨g1,a1,n1,c1,rfl,rfl,h1⟩;refine nwo ?_;refine call (λw' hm=>U1 (1+(i:Int)) om om w') ?_;rintro _ _ ⟨g2,a2,n2,c2,rfl,rfl,h2⟩;rw[show decide (1+(i:Int) < 0)=false from decide_eq_false om];rw[show (1+(i:Int)).natAbs=1+i by omega] at h2;refine call (λw' hm=>nV w' (h1.mono (hm 5 _ rfl).whole) (h2.mono (hm 6 _ rfl).whole) om) ?_;rintro _ _ ⟨g3,p1,q1,r1,p2,q2,r2,rfl,rfl,d1,d2⟩;intro b7;apply hq';refine nQ [.hp (Hp.whole w),.box b3 [.int .i8 l.1,.int .i8 l.2.1,.int .i8 l.2.2.1,.int .i8 l.2.2.2] 148,.box b4 [zs,zl] 41,.box b5 [sv N,o.v] 41,.hp o.h,.hp g1,.hp g2,.hp g3,.box b7 [.bool (decide (z < 0)),.slice p1 q1 r1,.bool false,.slice p2 q2 r2] 141] λq' hq'=>?_;refine k7 _ (λw' hm=>qA w' (d1.mono (hm 7 _ rfl).whole)) ?_;apply hq';have hs:((if z.natAbs / I5 z.natAbs (1+i)=0 then 0 else if decide (z < 0)=true then -1 else 1:Int)≠0)↔z≠0:=by
    have g0:0 < I5 z.natAbs (1+i):=gM _ om;by_cases e:z=0
    ·rw[e];simp
    ·have:0 < z.natAbs / I5 z.natAbs (1+i):=Nat.div_pos (SQ om (BR _ _)) g0;rw[if_neg om];refine⟨λ_=>e,λ_=>?_⟩;split <;> decide
   have hLn:(((z8 i).filter λi=>decide (q4 l i≠0)).map λi:Nat=>((i:Int),O0 (q4 l i) (1+i))).length<=4:=by
    rw[l7];have:=List.length_filter_le (λi=>decide (q4 l i≠0)) (z8 i);rw[L9] at this;omega
   refine M6 (by rfl) (λs3=>?_) λs3=>?_
   ·have hz0:z≠0:=hs.1 (of_decide_eq_true s3);have eN:((z8 (i+1)).filter λi=>decide (q4 l i≠0)).map (λi:Nat=>((i:Int),O0 (q4 l i) (1+i)))=(((z8 i).filter λi=>decide (q4 l i≠0)).map λi:Nat=>((i:Int),O0 (q4 l i) (1+i)))++[((i:Int),O0 z (1+i))]:=by
     rw[List.range_succ,List.filter_append,E9];congr 1
     have:decide (q4 l i≠0)=true:=by rw[<-hz];exact decide_eq_true hz0
     rw[List.filter_cons,if_pos this,hz];rfl
    obtain⟨M,hM⟩ :∃M,M=(((z8 i).filter λi=>decide (q4 l i≠0)).map λi:Nat=>((i:Int),O0 (q4 l i) (1+i))):=⟨_,rfl⟩
    rw[<-hM] at hO hLn eN;obtain⟨Y,hY⟩ :∃Y,Y=O0 z (1+i):=⟨_,rfl⟩
    rw[<-hY] at eN;refine s6.cut Dw.Os (λ_=>[(0,.v (iQ n)),(3,.v (pQ b3)),(4,.bx 2 0),(5,.bx 3 0),(6,.v (iQ i))]) (λg=>[.hp (Hp.whole w),.box b3 [.int .i8 l.1,.int .i8 l.2.1,.int .i8 l.2.2.1,.int .i8 l.2.2.2] 148,.box b4 [zs,zl] 41,.box b5 [sv N,g.v] 41,.hp g.h]) (λg=>w8 U0 80 2 g (M++[((i:Int),Y)])) (s6.by_order0 (s0:=[.hp (Hp.whole w),.box b3 [.int .i8 l.1,.int .i8 l.2.1,.int .i8 l.2.2.1,.int .i8 l.2.2.2] 148,.box b4 [zs,zl] 41,.box b5 [sv N,o.v] 41,.hp Hp.emp,.hp g1,.hp g2,.hp g3,.box b7 [.bool (decide (z < 0)),.slice p1 q1 r1,.bool false,.slice p2 q2 r2] 141]) cQ (.take 0 <| .take 1 <| .take 2 <| .take 3 <| .run 4 <| .take 5 <| .run 6 <| .run 7 <| .run 8 <| .run 9 <| .done) kr (sK) ?_) ?_
    ·refine k7 _ (λw' hm=>gV (z:=z) (m:=1+i) w' om (d1.mono (hm 7 _ rfl).whole) (d2.mono (hm 7 _ rfl).whole) om om (hP.mono (hm 0 _ rfl).whole)) ?_;rw[<-hY];refine⟨sK,?_⟩;intro b9;refine⟨sK,?_⟩;refine gF (f:=U0) cQ (e:=80) rfl (i:=4) rfl hO ((i:Int),Y) (j:=9) rfl rfl rfl rfl om λo2 hO2=>?_;refine⟨sK,?_⟩;exact⟨o2,hO2,v6.mk (pj [0,1,2,3,4]) rfl rfl⟩
    intro o2 hO2 _;dsimp only;refine o7 λq' hq'=>?_;refine nwo ?_;apply hq';exact⟨(i+1,o2),⟨by dsimp only;omega,by dsimp only;rw[eN];exact hO2⟩,by dsimp only;omega,v6.mk (λ_ _ h=>h) rfl rfl⟩
   ·have hz0:z=0:=j9 λc=>absurd (hs.2 c) (of_decide_eq_false s3);have eN:((z8 (i+1)).filter λi=>decide (q4 l i≠0))=((z8 i).filter λi=>decide (q4 l i≠0)):=by
     rw[List.range_succ,List.filter_append];have:decide (q4 l i≠0)=false:=by rw[<-hz];exact decide_eq_false (λc=>c hz0)
     rw[List.filter_cons,if_neg (by rw[this];decide)];exact p8 _
    refine o7 λq' hq'=>?_;refine nwo ?_;apply hq';exact⟨(i+1,o),⟨by dsimp only;omega,by dsimp only;rw[eN];exact hO⟩,by dsimp only;omega,v6.mk (pj [0,1,2,3,4]) rfl rfl⟩
  focus
   have s2:=of_decide_eq_false s2
 rotate_left
 focus
  apply hq';refine dQ rfl ?_
 all_goals
  have hi4:i=min n 4:=om
  rw[<-hi4];refine o7 λq' hq'=>?_;apply hq';exact⟨[.hp o.h],⟨o,rfl,rfl,hO⟩,pk [0,4]⟩
end Go.Proofs.YtpjhmeicbjkcdaaGreatDoor
namespace Go.Dw
open Go Go.RowKit
theorem Hh {x:Int} {q:Int->Prop} (h1 : -128<=x) (h2:x < 128) (hq:q x):bR .i8 x q:=⟨x,by
 have:IntKind.i8.wrap x=x:=by simp[IntKind.wrap,IntKind.bits,IntKind.signed];omega
 rw[this],hq⟩
theorem Dz {P:Program} {s:List Ch} {ty:Nat} {q:TV->Prop} (a b d:Nat) {x y:Int} (hx:x=a) (hy:y=b) (hb:0 < b) (ha:a < 256) (hd:d=a / b) (h:q (.v (.int .u8 d))):B7 P s (binOp .quo ty (.int .u8 x) (.int .u8 y)) q:=by
 subst hx hy;refine⟨_,λw _=>?_,h⟩;have h0 : ¬ b=0:=om
 have hd':d < 256:=by rw[hd];exact s7 (D7 a b) ha
 have e:IntKind.u8.wrap ((a:Int) / b)=d:=by
  rw[<-Fx,<-hd];simp[IntKind.wrap,IntKind.bits,IntKind.signed];omega
 simp[binOp,Op.intDiv,h0];exact e
theorem yL {P:Program} {s:List Ch} {tys:Array TypeId} {ty:Nat} {x y:Int} {q:TV->List Ch->Prop} (h:q (.v (iQ (min x y))) s):I0 P s (Builtin.min_ tys ty #[iQ x,iQ y]) q:=by
 refine⟨λw0 w hok=>⟨_,_,w,s,?_,hok,J6.refl s,rfl,h⟩⟩;simp[Builtin.min_,Builtin.min2,Int.min_def];split <;> split <;> (try rfl) <;> (congr 1;omega)
end Go.Dw
namespace Go.Proofs.YtpjhmeicbjkcdaaGreatDoor
open Go Go.RowKit Go.Dw
theorem Hn {X:R5} {s:List Ch} {q:TV->Prop} (hX:X.Good) {T:Nat} {i b T':Nat} {cs:List Value} (hi:m8 s i=some (.box b cs T'))
  (hT:(I2 X.tt T).map (λt=>(t.agg,t.size))=some (true,cs.length)) (hq:q (.v (.agg cs.toArray))):B7 X.P s (Instr.loadAt T (pQ b)) q:=by
 refine⟨_,λw hm=>?_,hq⟩;cases ht:I2 X.tt T with
 | none=>simp[ht] at hT
 | some ti=>
  have ha:ti.agg=true/\ti.size=cs.length:=by simpa [ht] using hT
  have:=run_loadCells_list (P:=X.P) w ⟨b,0,none⟩ cs (λj v hj=>by rw[Addr.add_mk,y8];exact (hm i _ hi).whole.cell (J3 b T' hj));simp[Instr.loadAt,Instr.sureAddr,loadVar,(Good.und hX ht).agg,(Good.und hX ht).size,ha,this]
def OQ (x:Nat):List Value:=[.int .u8 x]
def Lo (d:Nat):Prop:=∀(n:Nat) (L:List Nat) (a:Option Addr) (m c:Nat) (level:Int) (h0:Hp) (w:World),h0.In w->n < 1000000->level=4 - d->(∀x∈L,x < 256)->Sl (B0 OQ) 1 h0 a m c L->dT (Hp.whole w)->
 j6 Tryz.prog 74 #[iQ n,.slice a m c,iQ level] w (fD w λv cs=>∃H xs a' m' c',cs = [.hp H]/\v=.tuple #[.agg xs.toArray,.slice a' m' c']/\xs.length=5/\P5 (d+1) H (aE n d L).1 xs/\Sl (B0 OQ) 1 h0 a' m' c' (aE n d L).2)
def kQ (L:List Nat) (i:Nat):List Value:=(z8 4).map λj=>.int .i8 (if j < i then kF L j else 0)
theorem VP (L:List Nat) (i:Nat):(kQ L i).length=4:=rfl
theorem Hu {L:List Nat} {i:Nat} (h:i < L.length):kF L i=((L[i] % 7:Nat):Int) - 3:=by
 unfold kF;rw[if_pos h,i7,i6 h];rfl
theorem VO {L:List Nat} {i:Nat} (hi:i < 4) (h:i < L.length):(kQ L i).set i (.int .i8 (((L[i] % 7:Nat):Int) - 3))=kQ L (i+1):=by
 rw[<-Hu h];match i,hi with
 | 0,_=>rfl
 | 1,_=>rfl
 | 2,_=>rfl
 | 3,_=>rfl
theorem Ey {L:List Nat} {i:Nat} (h:L.length<=i):kF L i=0:=by unfold kF;rw[if_neg om]
theorem VQ {L:List Nat} {i:Nat} (h:i=min L.length 4):kQ L i=Ge (kF L 0,kF L 1,kF L 2,kF L 3):=by
 have key :∀j,j < 4->(if j < i then kF L j else 0)=kF L j:=by
  intro j hj;by_cases g:j < i
  ·rw[if_pos g]
  ·rw[if_neg g,Ey om]
 show [Value.int .i8 (if 0 < i then kF L 0 else 0),.int .i8 (if 1 < i then kF L 1 else 0),.int .i8 (if 2 < i then kF L 2 else 0),.int .i8 (if 3 < i then kF L 3 else 0)]=_
 rw[key 0 dc,key 1 dc,key 2 dc,key 3 dc];rfl
theorem OG (L:List Nat):(kF L 0).natAbs < 1000/\(kF L 1).natAbs < 1000/\(kF L 2).natAbs < 1000/\(kF L 3).natAbs < 1000:=⟨vR L 0,vR L 1,vR L 2,vR L 3⟩
theorem rL (n:Nat) {d:Nat} {L:List Nat} (h:L = []\/d=0\/L.getD 0 0 % 6=0):aE n d L=(.mk 0 (dJ n (kF L 0,kF L 1,kF L 2,kF L 3)) [] [],L.drop 1):=by
 cases d with
 | zero=>rfl
 | succ d=>
  unfold aE;rw[if_pos (by rcases h with h | h | h;exact .inl h;cases h;exact .inr h)]
def cH (n d:Nat) (L:List Nat):Nat->List Ex×List Nat
 | 0=>([],L)
 | i+1=>((cH n d L i).1++[(aE n d (cH n d L i).2).1],(aE n d (cH n d L i).2).2)
theorem rN (n d:Nat) (L:List Nat) :∀i,(cH n d L i).1.length=i
 | 0=>rfl
 | i+1=>by show ((cH n d L i).1++[_]).length=_;rw[d6,rN n d L i];rfl
theorem rO (n:Nat) :∀(d:Nat) (L:List Nat) (x:Nat),x∈(aE n d L).2->x∈L
 | 0,L,x,h=>E8 h
 | d+1,L,x,h=>by
  unfold aE at h;split at h
  ·exact E8 h
  ·dsimp only at h;split at h
   ·exact E8 (rO n d _ x h)
   ·exact E8 (rO n d _ x (rO n d _ x h))
theorem rM (n d:Nat) (L:List Nat) :∀i x,x∈(cH n d L i).2->x∈L
 | 0,_,h=>h
 | i+1,x,h=>rM n d L i x (rO n d _ x h)
theorem GY (n d:Nat) {L:List Nat} (h:L≠[]) (h6:L.getD 0 0 % 6≠0) :
  aE n (d+1) L=(.mk ((L.getD 0 0 % 6:Nat):Int) ([],[]) (if L.getD 0 0 % 6=2 then zT ((L.getD 0 0:Int) - 100) else []) (cH n d (L.drop 1) (if L.getD 0 0 % 6=2\/L.getD 0 0 % 6=5 then 1 else 1+L.getD 0 0 / 6 % 2)).1,
   (cH n d (L.drop 1) (if L.getD 0 0 % 6=2\/L.getD 0 0 % 6=5 then 1 else 1+L.getD 0 0 / 6 % 2)).2):=by
 conv=>lhs;unfold aE
 rw[if_neg (λc=>c.elim h h6)];dsimp only;by_cases h2:L.getD 0 0 % 6=2\/L.getD 0 0 % 6=5
 ·rw[if_pos h2,if_pos (by rcases h2 with h | h;exact .inl h;exact .inr (.inl h))];rfl
 ·rw[if_neg h2];have e2 : ¬ L.getD 0 0 % 6=2:=λc=>h2 (.inl c);by_cases h3:L.getD 0 0 / 6 % 2=0
  ·rw[if_pos (.inr (.inr h3)),h3,if_neg e2];rfl
  ·have h4:L.getD 0 0 / 6 % 2=1:=om
   rw[if_neg (λc=>by rcases c with c | c | c;exact h2 (.inl c);exact h2 (.inr c);exact h3 c),h4,if_neg e2];rfl
set_option maxRecDepth 10000 in
theorem kG (d:Nat) (hd3:d<=3) (ih :∀d',d=d'+1->Lo d'):Lo d:=by
 intro n L a m c level h0 w hin hn hlv hL hS hP;have hlen:=hS.len;have hSw:Sl (B0 OQ) 1 (Hp.whole w) a m c L:=hS.mono (j7 _) hin.whole;refine enterZ (cx 106) [iQ n,.slice a m c,iQ level] [.cell 6 44,.tmp 7] Tryz.func74 ?_;intro b6;refine o7 (λ_ kz=>kz _ _ ?_);refine o7 λq' hq'=>?_;refine d8 (λs1=>?_) λs1=>?_
 ·apply hq';refine RW rfl ?_;have hO:aE n d L=(.mk 0 (dJ n (kF L 0,kF L 1,kF L 2,kF L 3)) [] [],L.drop 1):=rL n (.inl (M0.1 om));rw[hO];dsimp only;refine o7 λ_ kz=>?_;intro b8;refine kz _ _ ?_;refine o7 (λ_ kz=>kz _ _ ?_);refine u6.mkS Nat (λg=>[(0,.v (iQ n)),(1,.v (.slice a m c)),(6,.bx 1 0),(8,.v (pQ b8)),(9,.v (iQ g))]) (λg=>[.hp (Hp.whole w),.box b6 [iQ 0,zs,zl,zs,zl] 44,.box b8 (kQ L g) 148]) (λg=>g<=min L.length 4) (λg=>4 - g) 0 (f8 _) (v6.mk (λ_ _ h=>h) rfl rfl) ?_;rintro i hi _;refine o7 λq' hq'=>?_;refine d8 (λt1=>?_) λt1=>?_;focus
   apply hq';refine M6 (by rfl) (λt2=>?_) λt2=>?_
   ·have t2:=of_decide_eq_true t2;have hi4:i < 4:=om
    have hiL:i < L.length:=om
    have hx:=hL L[i] (j0 hiL);refine nQ [.hp (Hp.whole w),.box b6 [iQ 0,zs,zl,zs,zl] 44,.box b8 (kQ L i) 148] λq' hq'=>?_;refine I1 cQ (e:=5) rfl hSw i rfl hiL λb9 o9 cs hcs hR hcell=>?_;subst hR;refine lQ 0 (hcell 0 _ rfl) ?_;refine gR L[i] 7 (L[i] % 7) rfl rfl dc rfl ?_;have hr7:L[i] % 7 < 7:=C8 _ dc;(iterate 2 refine Hh om om ?_);refine CQ cQ (T:=148) (e:=133) (len:=4) rfl rfl rfl rfl i rfl hi4 ?_;refine fI cQ (i:=2) (j:=0+i) rfl rfl rfl (by rw[VP];omega) rfl rfl ?_;apply hq';refine X9 [.hp (Hp.whole w),.box b6 [iQ 0,zs,zl,zs,zl] 44,.box b8 (kQ L (i+1)) 148] (by rw[<-VO hi4 hiL,y8];rfl) ?_;refine o7 λq' hq'=>?_;refine nwo ?_;apply hq';exact⟨i+1,om,om,v6.mk (λ_ _ h=>h) rfl rfl⟩
   focus
    have t2:=of_decide_eq_false t2;have hiL:i=L.length:=om
  rotate_left
  focus
   apply hq';refine dQ rfl ?_;have hiL:i=min L.length 4:=om
  all_goals
   have eK:kQ L i = [.int .i8 (kF L 0),.int .i8 (kF L 1),.int .i8 (kF L 2),.int .i8 (kF L 3)]:=VQ om;rw[eK];have hb:=OG L;refine s6.cut (Dw.Os×Option Addr) (λg=>[(6,.bx 1 0),(7,.v (.slice g.2 (m - min 1 L.length) (c - min 1 L.length)))]) (λg=>[.hp (Hp.whole w),.box b6 [iQ 0,sv (dJ n (kF L 0,kF L 1,kF L 2,kF L 3)).1,g.1.v,zs,zl] 44,.hp g.1.h]) (λg=>w8 U0 80 2 g.1 (dJ n (kF L 0,kF L 1,kF L 2,kF L 3)).2/\Sl (B0 OQ) 1 h0 g.2 (m - min 1 L.length) (c - min 1 L.length) (L.drop 1)) (s6.by_order0 (s0:=[.hp (Hp.whole w),.hp Hp.emp,.box b8 [.int .i8 (kF L 0),.int .i8 (kF L 1),.int .i8 (kF L 2),.int .i8 (kF L 3)] 148]) cQ (.take 0 <| .take 1 <| .take 4 <| .take 5 <| .take 6 <| .two 2 (.take 3 <| .two 7 (.take 8 <| .run 9 <| .run 10 <| .done) 9 (.run 7 <| .run 8 <| .run 10 <| .done)) 7 (.take 8 <| .run 2 <| .take 3 <| .run 9 <| .run 10 <| .done)) kr (sK) ?_) ?_
   ·have hdr:(L.take m).drop (min 1 L.length)=L.drop 1:=by
     rw[u7 om];rcases w6 L.length with e | e
     ·rw[M0.1 e];rfl
     ·rw[Y5 e]
    have hLin:=λ(w':World) (hm:(Hp.whole w).In w')=>mH n (kF L 0,kF L 1,kF L 2,kF L 3) hn hb w' (hP.mono hm.whole);refine Hn cQ (i:=2) rfl rfl ?_;constructor
    ·refine call (λw' hm=>hLin w' (hm 0 _ rfl)) ?_;rintro _ _ ⟨o,rfl,rfl,hO2⟩;refine⟨sK,?_⟩;constructor
     focus
      refine yL ?_;refine⟨sK,?_⟩
     rotate_left
     focus
      refine⟨sK,?_⟩;refine yL ?_;first | refine⟨sK,?_⟩ | skip
     all_goals
      refine ZE cQ (T:=68) rfl hS (min 1 L.length) m (.inr ⟨_,_,rfl,om⟩) (.inl ⟨rfl,rfl⟩) om (k8 _) λa' hS2=>?_;rw[hdr] at hS2;first
      | exact⟨(o,a'),⟨hO2,hS2⟩,v6.mk (pj [0,1,3]) rfl rfl⟩
      | exact⟨sK,(o,a'),⟨hO2,hS2⟩,v6.mk (pj [0,1,3]) rfl rfl⟩
      | exact⟨sK,sK,(o,a'),⟨hO2,hS2⟩,v6.mk (pj [0,1,3]) rfl rfl⟩
      | exact⟨sK,sK,sK,(o,a'),⟨hO2,hS2⟩,v6.mk (pj [0,1,3]) rfl rfl⟩
    ·refine yL ?_;refine⟨sK,?_⟩;refine ZE cQ (T:=68) rfl hS (min 1 L.length) m (.inr ⟨_,_,rfl,om⟩) (.inl ⟨rfl,rfl⟩) om (k8 _) λa' hS2=>?_;rw[hdr] at hS2;refine call (λw' hm=>hLin w' (hm 0 _ rfl)) ?_;rintro _ _ ⟨o,rfl,rfl,hO2⟩;refine⟨sK,?_⟩;first
     | exact⟨(o,a'),⟨hO2,hS2⟩,v6.mk (pj [0,1,3]) rfl rfl⟩
     | exact⟨sK,(o,a'),⟨hO2,hS2⟩,v6.mk (pj [0,1,3]) rfl rfl⟩
     | exact⟨sK,sK,(o,a'),⟨hO2,hS2⟩,v6.mk (pj [0,1,3]) rfl rfl⟩
     | exact⟨sK,sK,sK,(o,a'),⟨hO2,hS2⟩,v6.mk (pj [0,1,3]) rfl rfl⟩
   rintro⟨o,a'⟩ ⟨hO2,hS2⟩ _;dsimp only at hO2 hS2 ⊢;exact⟨[.hp o.h],⟨o.h,_,_,_,_,rfl,rfl,rfl,⟨o.a,o.n,o.c,none,0,0,rfl,w8.sl (f:=U0) (sz:=2) (λ_=>rfl) dc hO2,Sl.nil _ _ _ _ _⟩,hS2⟩,pk [0,2]⟩
 ·refine d8 (λs2=>?_) λs2=>?_;focus
   apply hq';refine RW rfl ?_;have hO:aE n d L=(.mk 0 (dJ n (kF L 0,kF L 1,kF L 2,kF L 3)) [] [],L.drop 1):=rL n (.inr (.inl om))
  rotate_left
  focus
   have h0L:0 < L.length:=om
   have hLne:L≠[]:=λe=>by rw[e] at h0L;cases h0L
   obtain⟨x0,hx0⟩ :∃x,x=L[0]:=⟨_,rfl⟩
   have hx:x0 < 256:=by rw[hx0];exact hL _ (j0 h0L)
   have eg:L.getD 0 0=x0:=by rw[hx0,i7,i6 h0L];rfl
   refine I1 cQ (e:=5) rfl hSw 0 rfl h0L λb9 o9 cs hcs hR hcell=>?_;subst hR;refine lQ 0 (hcell 0 _ rfl) ?_;rw[<-hx0];refine gR x0 6 (x0 % 6) rfl rfl dc rfl ?_;have hr6:x0 % 6 < 6:=C8 _ dc;apply hq';refine M6 (by rfl) (λs3=>?_) λs3=>?_;focus
    have s3:=of_decide_eq_true s3;have hO:aE n d L=(.mk 0 (dJ n (kF L 0,kF L 1,kF L 2,kF L 3)) [] [],L.drop 1):=rL n (.inr (.inr (by rw[eg];omega)))
   rotate_left
   ·have s3:=of_decide_eq_false s3;have h6:x0 % 6≠0:=om
    obtain⟨d,rfl⟩ :∃e,d=e+1:=⟨d - 1,om⟩
    have eO:=GY n d hLne (by rw[eg];exact h6);rw[eg] at eO;refine o7 λq' hq'=>?_;refine I1 cQ (e:=5) rfl hSw 0 rfl h0L λb9 o9 cs hcs hR hcell=>?_;subst hR;refine lQ 0 (hcell 0 _ rfl) ?_;rw[<-hx0];refine gR x0 6 (x0 % 6) rfl rfl dc rfl ?_;refine nwo ?_;intro b10;apply hq';refine nQ [.hp (Hp.whole w),.box b6 [iQ 0,zs,zl,zs,zl] 44,.box b10 [iQ ((x0 % 6:Nat):Int),zs,zl,zs,zl] 44] λq' hq'=>?_;refine I1 cQ (e:=5) rfl hSw 0 rfl h0L λb9 o9 cs hcs hR hcell=>?_;subst hR;refine lQ 0 (hcell 0 _ rfl) ?_;rw[<-hx0];have hq2:x0 / 6 % 2 < 2:=C8 _ dc;refine Dz x0 6 (x0 / 6) rfl rfl dc hx rfl ?_;refine gR (x0 / 6) 2 (x0 / 6 % 2) rfl rfl dc rfl ?_;(iterate 2 refine nwo ?_);apply hq';refine o7 λq' hq'=>?_;apply hq';refine M6 (by rfl) (λo2=>?_) λo2=>?_
    ·have o2:x0 % 6=2:=by have:=of_decide_eq_true o2;omega
     rw[if_pos o2,if_pos (.inl o2)] at eO;refine nQ [.hp (Hp.whole w),.box b6 [iQ 0,zs,zl,zs,zl] 44,.box b10 [iQ ((x0 % 6:Nat):Int),zs,zl,zs,zl] 44] λq' hq'=>?_;refine I1 cQ (e:=5) rfl hSw 0 rfl h0L λb9 o9 cs hcs hR hcell=>?_;subst hR;refine lQ 0 (hcell 0 _ rfl) ?_;rw[<-hx0];(iterate 2 refine nwo ?_);refine call (λw' hm=>U1 ((x0:Int) - 100) om om w') ?_;rintro _ _ ⟨g1,a1,n1,c1,rfl,rfl,hM1⟩;refine k7 _ (λw' hm=>rY w' (hM1.mono (hm 3 _ rfl).whole) om (hP.mono (hm 0 _ rfl).whole)) ?_;obtain⟨F,hF⟩ :∃F,F=zT ((x0:Int) - 100):=⟨_,rfl⟩
     rw[<-hF] at eO ⊢;apply hq';refine o7 λq' hq'=>?_;apply hq';refine o7 λq' hq'=>?_;apply hq';refine M6 (by rfl) (λo5=>absurd (of_decide_eq_true o5) om) λ_=>?_;refine nQ [.hp (Hp.whole w),.box b6 [iQ 0,zs,zl,zs,zl] 44,.box b10 [iQ ((x0 % 6:Nat):Int),zs,zl,sv F,zl] 44,.hp g1] λq' hq'=>?_;refine ZE cQ (T:=68) rfl hS 1 m (.inr ⟨_,_,rfl,rfl⟩) (.inl ⟨rfl,rfl⟩) om (k8 _) λa1 hS1=>?_;rw[u7 (show L.length<=m by omega)] at hS1;apply hq';refine o7 (λ_ kz=>kz _ _ ?_);refine u6.mkS (Nat×Hp×Dw.Os×Option Addr×Nat×Nat) (λg=>[(0,.v (iQ n)),(1,.v (.slice g.2.2.2.1 g.2.2.2.2.1 g.2.2.2.2.2)),(2,.v (iQ level)),(6,.bx 1 0),(10,.bx 2 0),(11,.v (iQ 1)),(12,.v (iQ g.1))]) (λg=>[.hp (Hp.whole w),.box b6 [iQ 0,zs,zl,zs,zl] 44,.box b10 [iQ ((x0 % 6:Nat):Int),zs,zl,sv F,g.2.2.1.v] 44,.hp g.2.1,.hp g.2.2.1.h])
      (λg=>g.1<=1/\aT (P5 (d+1)) 44 5 g.2.1 g.2.2.1 (cH n d (L.drop 1) g.1).1/\Sl (B0 OQ) 1 h0 g.2.2.2.1 g.2.2.2.2.1 g.2.2.2.2.2 (cH n d (L.drop 1) g.1).2) (λg=>1 - g.1) (0,Hp.emp,Dw.Os.nil,a1,m - 1,c - 1) ⟨f8 _,aT.nil,hS1⟩ (v6.mk (λ_ _ h=>(h.pick [0,1,2] rfl rfl).emp.emp) rfl rfl) ?_
     rintro⟨i,H,o,a2,m2,c2⟩ ⟨hi,hG,hS2⟩ hsat;dsimp only at hi hG hS2 ⊢;refine o7 λq' hq'=>?_;apply hq';refine M6 (by rfl) (λt1=>?_) λt1=>?_
     ·have t1:=of_decide_eq_true t1;obtain⟨A,hA⟩ :∃A,A=aE n d (cH n d (L.drop 1) i).2:=⟨_,rfl⟩
      have eI:cH n d (L.drop 1) (i+1)=((cH n d (L.drop 1) i).1++[A.1],A.2):=by rw[hA];rfl
      refine o7 λq' hq'=>?_;intro b13;apply hq';refine nQ [.hp (Hp.whole w),.box b6 [iQ 0,zs,zl,zs,zl] 44,.box b10 [iQ ((x0 % 6:Nat):Int),zs,zl,sv F,o.v] 44,.hp H,.hp o.h,.box b13 [iQ 0,zs,zl,zs,zl] 44] λq' hq'=>?_;refine nwo ?_;refine call (λw' hm=>ih d rfl n (cH n d (L.drop 1) i).2 a2 m2 c2 (level+1) h0 w' ((hm 0 _ rfl).le hin.whole) hn om (λx hx=>hL x (E8 (rM n d _ i x hx))) hS2 (hP.mono (hm 0 _ rfl).whole)) ?_;rintro _ _ ⟨H9,xs,a3,m3,c3,rfl,rfl,hx5,hE,hS3⟩;rw[<-hA] at hE hS3;have hE2:=hE;obtain⟨Y,hY⟩ :∃Y,Y=A.1:=⟨_,rfl⟩
      rw[<-hY] at hE2;obtain⟨op9,f9,fac9,args9⟩:=Y;obtain⟨a9,n9,c9,a8,n8,c8,rfl,_,_⟩:=hE2;apply hq';refine nQ [.hp (Hp.whole w),.box b6 [iQ 0,zs,zl,zs,zl] 44,.box b10 [iQ ((x0 % 6:Nat):Int),zs,zl,sv F,o.v] 44,.hp H,.hp o.h,.box b13 [iQ op9,sv f9.1,.slice a9 n9 c9,sv fac9,.slice a8 n8 c8] 44,.hp H9] λq' hq'=>?_;intro b14;refine oL (R:=P5 (d+1)) (o:=o) (L:=(cH n d (L.drop 1) i).1) (H:=H.join H9) cQ (e:=44) rfl (i:=4) rfl (λ_=>hG.mono (q7 _) (Hp.le_join_l _ _)) A.1 [iQ op9,sv f9.1,.slice a9 n9 c9,sv fac9,.slice a8 n8 c8] (j:=7) rfl rfl rfl rfl (by rw[rN];omega) (λhs=>?_) λo2 _ hG2=>?_
      ·obtain⟨w0,w',hok⟩:=hs;exact q7 _ _ _ _ _ (Hp.le_join_r (hok.disj 3 6 _ _ dc rfl rfl)) hE
      apply hq';refine o7 λq' hq'=>?_;refine nwo ?_;apply hq';exact⟨(i+1,H.join H9,o2,a3,m3,c3),⟨by dsimp only;omega,by dsimp only;rw[eI];exact hG2,by dsimp only;rw[eI];exact hS3⟩,by dsimp only;omega,v6.mk (λ_ _ h=>(Ok.join (h.pick [0,3,6,1,2,4] rfl rfl)).pick [0,2,3,1,4] rfl rfl) rfl rfl⟩
     ·have t1:=of_decide_eq_false t1;have him:i=1:=om
      subst him;have hHo:H.dj o.h:=by obtain⟨w0,w1,hok⟩:=hsat;exact hok.disj 3 4 _ _ dc rfl rfl
      refine o7 λq' hq'=>?_;apply hq';rw[eO];exact⟨[.hp (H.join o.h)],⟨_,_,_,_,_,rfl,rfl,rfl,⟨none,0,0,o.a,o.n,o.c,rfl,Sl.nil _ _ _ _ _,hG.sl (q7 _) dc (Hp.le_join_l _ _) (Hp.le_join_r hHo)⟩,hS2⟩,λw' h=>(Ok.join (h.pick [0,3,4] rfl rfl)).pick [0,1] rfl rfl⟩
    ·have o2:x0 % 6≠2:=by have:=of_decide_eq_false o2;omega
     rw[if_neg o2] at eO;refine o7 λq' hq'=>?_;apply hq';refine M6 (by rfl) (λo5=>?_) λo5=>?_;focus
      have o5:x0 % 6=5:=by have:=of_decide_eq_true o5;omega
      rw[if_pos (.inr o5)] at eO;refine o7 λq' hq'=>?_;apply hq';refine nQ [.hp (Hp.whole w),.box b6 [iQ 0,zs,zl,zs,zl] 44,.box b10 [iQ ((x0 % 6:Nat):Int),zs,zl,zs,zl] 44] λq' hq'=>?_;refine ZE cQ (T:=68) rfl hS 1 m (.inr ⟨_,_,rfl,rfl⟩) (.inl ⟨rfl,rfl⟩) om (k8 _) λa1 hS1=>?_;rw[u7 (show L.length<=m by omega)] at hS1;apply hq';refine o7 (λ_ kz=>kz _ _ ?_);refine u6.mkS (Nat×Hp×Dw.Os×Option Addr×Nat×Nat) (λg=>[(0,.v (iQ n)),(1,.v (.slice g.2.2.2.1 g.2.2.2.2.1 g.2.2.2.2.2)),(2,.v (iQ level)),(6,.bx 1 0),(10,.bx 2 0),(11,.v (iQ 1)),(12,.v (iQ g.1))]) (λg=>[.hp (Hp.whole w),.box b6 [iQ 0,zs,zl,zs,zl] 44,.box b10 [iQ ((x0 % 6:Nat):Int),zs,zl,zs,g.2.2.1.v] 44,.hp g.2.1,.hp g.2.2.1.h])
       (λg=>g.1<=1/\aT (P5 (d+1)) 44 5 g.2.1 g.2.2.1 (cH n d (L.drop 1) g.1).1/\Sl (B0 OQ) 1 h0 g.2.2.2.1 g.2.2.2.2.1 g.2.2.2.2.2 (cH n d (L.drop 1) g.1).2) (λg=>1 - g.1) (0,Hp.emp,Dw.Os.nil,a1,m - 1,c - 1) ⟨f8 _,aT.nil,hS1⟩ (v6.mk (λ_ _ h=>(h.pick [0,1,2] rfl rfl).emp.emp) rfl rfl) ?_
      rintro⟨i,H,o,a2,m2,c2⟩ ⟨hi,hG,hS2⟩ hsat;dsimp only at hi hG hS2 ⊢;refine o7 λq' hq'=>?_;apply hq';refine M6 (by rfl) (λt1=>?_) λt1=>?_;focus
       skip
      rotate_left
      ·have t1:=of_decide_eq_false t1;have him:i=1:=om
       subst him;have hHo:H.dj o.h:=by obtain⟨w0,w1,hok⟩:=hsat;exact hok.disj 3 4 _ _ dc rfl rfl
       refine o7 λq' hq'=>?_;apply hq';rw[eO];exact⟨[.hp (H.join o.h)],⟨_,_,_,_,_,rfl,rfl,rfl,⟨none,0,0,o.a,o.n,o.c,rfl,Sl.nil _ _ _ _ _,hG.sl (q7 _) dc (Hp.le_join_l _ _) (Hp.le_join_r hHo)⟩,hS2⟩,λw' h=>(Ok.join (h.pick [0,3,4] rfl rfl)).pick [0,1] rfl rfl⟩
     rotate_left
     focus
      have o5:x0 % 6≠5:=by have:=of_decide_eq_false o5;omega
      rw[if_neg (λc=>c.elim o2 o5)] at eO;obtain⟨mm,hmm⟩ :∃mm,mm=1+x0 / 6 % 2:=⟨_,rfl⟩
      rw[<-hmm] at eO;refine nQ [.hp (Hp.whole w),.box b6 [iQ 0,zs,zl,zs,zl] 44,.box b10 [iQ ((x0 % 6:Nat):Int),zs,zl,zs,zl] 44] λq' hq'=>?_;refine ZE cQ (T:=68) rfl hS 1 m (.inr ⟨_,_,rfl,rfl⟩) (.inl ⟨rfl,rfl⟩) om (k8 _) λa1 hS1=>?_;rw[u7 (show L.length<=m by omega)] at hS1;apply hq';refine o7 (λ_ kz=>kz _ _ ?_);refine u6.mkS (Nat×Hp×Dw.Os×Option Addr×Nat×Nat) (λg=>[(0,.v (iQ n)),(1,.v (.slice g.2.2.2.1 g.2.2.2.2.1 g.2.2.2.2.2)),(2,.v (iQ level)),(6,.bx 1 0),(10,.bx 2 0),(11,.v (iQ (1+((x0 / 6 % 2:Nat):Int)))),(12,.v (iQ g.1))]) (λg=>[.hp (Hp.whole w),.box b6 [iQ 0,zs,zl,zs,zl] 44,.box b10 [iQ ((x0 % 6:Nat):Int),zs,zl,zs,g.2.2.1.v] 44,.hp g.2.1,.hp g.2.2.1.h])
       (λg=>g.1<=mm/\aT (P5 (d+1)) 44 5 g.2.1 g.2.2.1 (cH n d (L.drop 1) g.1).1/\Sl (B0 OQ) 1 h0 g.2.2.2.1 g.2.2.2.2.1 g.2.2.2.2.2 (cH n d (L.drop 1) g.1).2) (λg=>mm - g.1) (0,Hp.emp,Dw.Os.nil,a1,m - 1,c - 1) ⟨f8 _,aT.nil,hS1⟩ (v6.mk (λ_ _ h=>(h.pick [0,1,2] rfl rfl).emp.emp) rfl rfl) ?_
      rintro⟨i,H,o,a2,m2,c2⟩ ⟨hi,hG,hS2⟩ hsat;dsimp only at hi hG hS2 ⊢;refine o7 λq' hq'=>?_;apply hq';refine M6 (by rfl) (λt1=>?_) λt1=>?_;focus
       skip
      rotate_left
      ·have t1:=of_decide_eq_false t1;have him:i=mm:=om
       subst him;have hHo:H.dj o.h:=by obtain⟨w0,w1,hok⟩:=hsat;exact hok.disj 3 4 _ _ dc rfl rfl
       refine o7 λq' hq'=>?_;apply hq';rw[eO];exact⟨[.hp (H.join o.h)],⟨_,_,_,_,_,rfl,rfl,rfl,⟨none,0,0,o.a,o.n,o.c,rfl,Sl.nil _ _ _ _ _,hG.sl (q7 _) dc (Hp.le_join_l _ _) (Hp.le_join_r hHo)⟩,hS2⟩,λw' h=>(Ok.join (h.pick [0,3,4] rfl rfl)).pick [0,1] rfl rfl⟩
     all_goals
      have t1:=of_decide_eq_true t1;obtain⟨A,hA⟩ :∃A,A=aE n d (cH n d (L.drop 1) i).2:=⟨_,rfl⟩
      have eI:cH n d (L.drop 1) (i+1)=((cH n d (L.drop 1) i).1++[A.1],A.2):=by rw[hA];rfl
      refine o7 λq' hq'=>?_;intro b13;apply hq';refine nQ [.hp (Hp.whole w),.box b6 [iQ 0,zs,zl,zs,zl] 44,.box b10 [iQ ((x0 % 6:Nat):Int),zs,zl,zs,o.v] 44,.hp H,.hp o.h,.box b13 [iQ 0,zs,zl,zs,zl] 44] λq' hq'=>?_;refine nwo ?_;refine call (λw' hm=>ih d rfl n (cH n d (L.drop 1) i).2 a2 m2 c2 (level+1) h0 w' ((hm 0 _ rfl).le hin.whole) hn om (λx hx=>hL x (E8 (rM n d _ i x hx))) hS2 (hP.mono (hm 0 _ rfl).whole)) ?_;rintro _ _ ⟨H9,xs,a3,m3,c3,rfl,rfl,hx5,hE,hS3⟩;rw[<-hA] at hE hS3;have hE2:=hE;obtain⟨Y,hY⟩ :∃Y,Y=A.1:=⟨_,rfl⟩
      rw[<-hY] at hE2;obtain⟨op9,f9,fac9,args9⟩:=Y;obtain⟨a9,n9,c9,a8,n8,c8,rfl,_,_⟩:=hE2;apply hq';refine nQ [.hp (Hp.whole w),.box b6 [iQ 0,zs,zl,zs,zl] 44,.box b10 [iQ ((x0 % 6:Nat):Int),zs,zl,zs,o.v] 44,.hp H,.hp o.h,.box b13 [iQ op9,sv f9.1,.slice a9 n9 c9,sv fac9,.slice a8 n8 c8] 44,.hp H9] λq' hq'=>?_;intro b14;refine oL (R:=P5 (d+1)) (o:=o) (L:=(cH n d (L.drop 1) i).1) (H:=H.join H9) cQ (e:=44) rfl (i:=4) rfl (λ_=>hG.mono (q7 _) (Hp.le_join_l _ _)) A.1 [iQ op9,sv f9.1,.slice a9 n9 c9,sv fac9,.slice a8 n8 c8] (j:=7) rfl rfl rfl rfl (by rw[rN];omega) (λhs=>?_) λo2 _ hG2=>?_
      ·obtain⟨w0,w',hok⟩:=hs;exact q7 _ _ _ _ _ (Hp.le_join_r (hok.disj 3 6 _ _ dc rfl rfl)) hE
      apply hq';refine o7 λq' hq'=>?_;refine nwo ?_;apply hq';exact⟨(i+1,H.join H9,o2,a3,m3,c3),⟨by dsimp only;omega,by dsimp only;rw[eI];exact hG2,by dsimp only;rw[eI];exact hS3⟩,by dsimp only;omega,v6.mk (λ_ _ h=>(Ok.join (h.pick [0,3,6,1,2,4] rfl rfl)).pick [0,2,3,1,4] rfl rfl) rfl rfl⟩
  all_goals
   rw[hO];dsimp only;refine o7 λ_ kz=>?_;intro b8;refine kz _ _ ?_;refine o7 (λ_ kz=>kz _ _ ?_);refine u6.mkS Nat (λg=>[(0,.v (iQ n)),(1,.v (.slice a m c)),(6,.bx 1 0),(8,.v (pQ b8)),(9,.v (iQ g))]) (λg=>[.hp (Hp.whole w),.box b6 [iQ 0,zs,zl,zs,zl] 44,.box b8 (kQ L g) 148]) (λg=>g<=min L.length 4) (λg=>4 - g) 0 (f8 _) (v6.mk (λ_ _ h=>h) rfl rfl) ?_;rintro i hi _;refine o7 λq' hq'=>?_;refine d8 (λt1=>?_) λt1=>?_;focus
    apply hq';refine M6 (by rfl) (λt2=>?_) λt2=>?_
    ·have t2:=of_decide_eq_true t2;have hi4:i < 4:=om
     have hiL:i < L.length:=om
     have hx:=hL L[i] (j0 hiL);refine nQ [.hp (Hp.whole w),.box b6 [iQ 0,zs,zl,zs,zl] 44,.box b8 (kQ L i) 148] λq' hq'=>?_;refine I1 cQ (e:=5) rfl hSw i rfl hiL λb9 o9 cs hcs hR hcell=>?_;subst hR;refine lQ 0 (hcell 0 _ rfl) ?_;refine gR L[i] 7 (L[i] % 7) rfl rfl dc rfl ?_;have hr7:L[i] % 7 < 7:=C8 _ dc;(iterate 2 refine Hh om om ?_);refine CQ cQ (T:=148) (e:=133) (len:=4) rfl rfl rfl rfl i rfl hi4 ?_;refine fI cQ (i:=2) (j:=0+i) rfl rfl rfl (by rw[VP];omega) rfl rfl ?_;apply hq';refine X9 [.hp (Hp.whole w),.box b6 [iQ 0,zs,zl,zs,zl] 44,.box b8 (kQ L (i+1)) 148] (by rw[<-VO hi4 hiL,y8];rfl) ?_;refine o7 λq' hq'=>?_;refine nwo ?_;apply hq';exact⟨i+1,om,om,v6.mk (λ_ _ h=>h) rfl rfl⟩
    focus
     have t2:=of_decide_eq_false t2;have hiL:i=L.length:=om
   rotate_left
   focus
    apply hq';refine dQ rfl ?_;have hiL:i=min L.length 4:=om
   all_goals
    have eK:kQ L i = [.int .i8 (kF L 0),.int .i8 (kF L 1),.int .i8 (kF L 2),.int .i8 (kF L 3)]:=VQ om;rw[eK];have hb:=OG L;refine s6.cut (Dw.Os×Option Addr) (λg=>[(6,.bx 1 0),(7,.v (.slice g.2 (m - min 1 L.length) (c - min 1 L.length)))]) (λg=>[.hp (Hp.whole w),.box b6 [iQ 0,sv (dJ n (kF L 0,kF L 1,kF L 2,kF L 3)).1,g.1.v,zs,zl] 44,.hp g.1.h]) (λg=>w8 U0 80 2 g.1 (dJ n (kF L 0,kF L 1,kF L 2,kF L 3)).2/\Sl (B0 OQ) 1 h0 g.2 (m - min 1 L.length) (c - min 1 L.length) (L.drop 1)) (s6.by_order0 (s0:=[.hp (Hp.whole w),.hp Hp.emp,.box b8 [.int .i8 (kF L 0),.int .i8 (kF L 1),.int .i8 (kF L 2),.int .i8 (kF L 3)] 148]) cQ (.take 0 <| .take 1 <| .take 4 <| .take 5 <| .take 6 <| .two 2 (.take 3 <| .two 7 (.take 8 <| .run 9 <| .run 10 <| .done) 9 (.run 7 <| .run 8 <| .run 10 <| .done)) 7 (.take 8 <| .run 2 <| .take 3 <| .run 9 <| .run 10 <| .done)) kr (sK) ?_) ?_
    ·have hdr:(L.take m).drop (min 1 L.length)=L.drop 1:=by
      rw[u7 om];rcases w6 L.length with e | e
      ·rw[M0.1 e];rfl
      ·rw[Y5 e]
     have hLin:=λ(w':World) (hm:(Hp.whole w).In w')=>mH n (kF L 0,kF L 1,kF L 2,kF L 3) hn hb w' (hP.mono hm.whole);refine Hn cQ (i:=2) rfl rfl ?_;constructor
     ·refine call (λw' hm=>hLin w' (hm 0 _ rfl)) ?_;rintro _ _ ⟨o,rfl,rfl,hO2⟩;refine⟨sK,?_⟩;constructor
      focus
       refine yL ?_;refine⟨sK,?_⟩
      rotate_left
      focus
       refine⟨sK,?_⟩;refine yL ?_;first | refine⟨sK,?_⟩ | skip
      all_goals
       refine ZE cQ (T:=68) rfl hS (min 1 L.length) m (.inr ⟨_,_,rfl,om⟩) (.inl ⟨rfl,rfl⟩) om (k8 _) λa' hS2=>?_;rw[hdr] at hS2;first
       | exact⟨(o,a'),⟨hO2,hS2⟩,v6.mk (pj [0,1,3]) rfl rfl⟩
       | exact⟨sK,(o,a'),⟨hO2,hS2⟩,v6.mk (pj [0,1,3]) rfl rfl⟩
       | exact⟨sK,sK,(o,a'),⟨hO2,hS2⟩,v6.mk (pj [0,1,3]) rfl rfl⟩
       | exact⟨sK,sK,sK,(o,a'),⟨hO2,hS2⟩,v6.mk (pj [0,1,3]) rfl rfl⟩
     ·refine yL ?_;refine⟨sK,?_⟩;refine ZE cQ (T:=68) rfl hS (min 1 L.length) m (.inr ⟨_,_,rfl,om⟩) (.inl ⟨rfl,rfl⟩) om (k8 _) λa' hS2=>?_;rw[hdr] at hS2;refine call (λw' hm=>hLin w' (hm 0 _ rfl)) ?_;rintro _ _ ⟨o,rfl,rfl,hO2⟩;refine⟨sK,?_⟩;first
      | exact⟨(o,a'),⟨hO2,hS2⟩,v6.mk (pj [0,1,3]) rfl rfl⟩
      | exact⟨sK,(o,a'),⟨hO2,hS2⟩,v6.mk (pj [0,1,3]) rfl rfl⟩
      | exact⟨sK,sK,(o,a'),⟨hO2,hS2⟩,v6.mk (pj [0,1,3]) rfl rfl⟩
      | exact⟨sK,sK,sK,(o,a'),⟨hO2,hS2⟩,v6.mk (pj [0,1,3]) rfl rfl⟩
    rintro⟨o,a'⟩ ⟨hO2,hS2⟩ _;dsimp only at hO2 hS2 ⊢;exact⟨[.hp o.h],⟨o.h,_,_,_,_,rfl,rfl,rfl,⟨o.a,o.n,o.c,none,0,0,rfl,w8.sl (f:=U0) (sz:=2) (λ_=>rfl) dc hO2,Sl.nil _ _ _ _ _⟩,hS2⟩,pk [0,2]⟩
theorem kH :∀d,d<=3->Lo d
 | 0,h=>kG 0 h (λd' e=>by omega)
 | d+1,h=>kG (d+1) h (λd' e=>by
  have:d'=d:=om
  subst this;exact kH d' om)
end Go.Proofs.YtpjhmeicbjkcdaaGreatDoor
namespace Go.Dw
open Go Go.RowKit
theorem NT {P:Program} {s:List Ch} {ty:Nat} {q:TV->Prop} {k:IntKind} (a b:Int) (hb:b≠0) (h:q (.v (.int k (a.tmod b)))):B7 P s (binOp .rem ty (.int k a) (.int k b)) q:=by
 refine⟨_,λw _=>?_,h⟩;simp[binOp,Op.intDiv,hb]
theorem GQ {P:Program} {s:List Ch} {tys:Array TypeId} {ty:Nat} {x y:Int} {q:TV->List Ch->Prop} (h:q (.v (iQ (max x y))) s):I0 P s (Builtin.max_ tys ty #[iQ x,iQ y]) q:=by
 refine⟨λw0 w hok=>⟨_,_,w,s,?_,hok,J6.refl s,rfl,h⟩⟩;simp[Builtin.max_,Builtin.max2,Int.max_def];split <;> split <;> (try rfl) <;> (congr 1;omega)
end Go.Dw
namespace Go.Proofs.YtpjhmeicbjkcdaaGreatDoor
open Go Go.RowKit Go.Dw
def Kl (x:Q5):List Value:=[.int .i8 x.1,.int .i8 x.2.1,.int .i8 x.2.2.1,.int .i8 x.2.2.2.1,.int .i8 x.2.2.2.2]
def Kk (x:Q6):List Value:=[.int .i8 x.1,.int .i8 x.2.1,.int .i8 x.2.2.1,.int .i8 x.2.2.2.1,.int .i8 x.2.2.2.2.1,.int .i8 x.2.2.2.2.2]
def Km (x:Int×Int×Int):List Value:=[.int .i8 x.1,.int .i8 x.2.1,.int .i8 x.2.2]
structure JB (h:Hp) (k:YC) (cs:List Value):Prop where
 ex :∃a1 n1 c1 a2 n2 c2 a3 n3 c3 a4 n4 c4 a5 n5 c5,cs = [.int .u8 k.nm,.slice a1 n1 c1,.slice a2 n2 c2,.slice a3 n3 c3,.slice a4 n4 c4,.slice a5 n5 c5]/\
  Sl (B0 Kl) 5 h a1 n1 c1 k.parts/\Sl (B0 Kk) 6 h a2 n2 c2 k.insts/\Sl (B0 Km) 3 h a3 n3 c3 k.dims/\Sl (B0 Ge) 4 h a4 n4 c4 k.cons/\Sl (WQ (B0 OQ) 1) 1 h a5 n5 c5 k.gaps
theorem JB.mono {h h':Hp} {k:YC} {cs:List Value} (hl:h.le h') (hp:JB h k cs):JB h' k cs:=by
 obtain⟨a1,n1,c1,a2,n2,c2,a3,n3,c3,a4,n4,c4,a5,n5,c5,e,h1,h2,h3,h4,h5⟩:=hp.ex;exact⟨a1,n1,c1,a2,n2,c2,a3,n3,c3,a4,n4,c4,a5,n5,c5,e,h1.mono (j7 _) hl,h2.mono (j7 _) hl,h3.mono (j7 _) hl,h4.mono (j7 _) hl,h5.mono (CV (j7 _) 1) hl⟩
def JJ {α β:Type} (f:Nat->α->β) (m:Nat) (l:List α):List β:=(l.take m).zipIdx.map λp=>f p.2 p.1
theorem jM {α β:Type} (f:Nat->α->β) (m:Nat) (l:List α):(JJ f m l).length=min m l.length:=by
 unfold JJ;rw[l7,List.length_zipIdx,j8]
theorem kZ {α β:Type} (f:Nat->α->β) {m:Nat} {l:List α} {i:Nat} (hm:i < m) (hi:i < l.length):(JJ f m l).take (i+1)=(JJ f m l).take i++[f i l[i]]:=by
 have hl:i < (JJ f m l).length:=by rw[jM];omega
 obtain⟨h',e⟩:=uW f (l.take m) hl;rw[L8 hl];congr 2
 show ((l.take m).zipIdx.map λp=>f p.2 p.1)[i]=_
 rw[e,List.getElem_take]
theorem gO {α β:Type} (f:Nat->α->β) {m:Nat} {l:List α} {i:Nat} (h : ¬ (i < l.length/\i < m)):(JJ f m l).take i=JJ f m l:=u7 (by rw[jM];omega)
theorem yJ {α:Type} (f:Nat->α) (i:Nat):(z8 (i+1)).map f=(z8 i).map f++[f i]:=by rw[List.range_succ,E9];rfl
theorem DN (x:Int):x % 256=((u8 x:Nat):Int):=by unfold u8;omega
theorem aT.name {α:Type} {R:uU α} {T sz:Nat} {H:Hp} {o:Dw.Os} {L:List α} (h0:0 < sz) (hG:aT R T sz H o L) :∃C:List (Gg sz),Sl (B0 λc:Gg sz=>c.1) sz o.h o.a o.n o.c C/\C.length=L.length/\∀i (h1:i < L.length) (h2:i < C.length),R H L[i] C[i].1:=by
 obtain⟨C,h1,h2,h3⟩:=hG;exact⟨C,h1.sl (λc=>c.2.1) h0,h2,h3⟩
end Go.Proofs.YtpjhmeicbjkcdaaGreatDoor
namespace Go.Dw
open Go Go.RowKit Go.ChangeShapes Go.WideShapes Go.ChangeAt
section
variable {H:Type} {enc:TypeId×Value->H} {P:Program} {W:World} {sp:Nat->Bool} {held:Bool}
theorem yX {α β:Type} {g:α->Option β} :∀{l:List α} {cs:List β},l.mapM g=some cs->cs.length=l.length/\∀(j:Nat) (v:β),cs[j]?=some v->∃i,l[j]?=some i/\g i=some v
 | [],cs,h=>by
  rw[List.mapM_nil] at h;cases h;exact⟨rfl,λj v h=>by simp at h⟩
 | x::l,cs,h=>by
  simp only[List.mapM_cons,Option.bind_eq_bind,Nh,Option.pure_def,m9] at h;obtain⟨y,hy,ys,hys,rfl⟩:=h;obtain⟨h1,h2⟩:=yX hys;refine⟨by simp[h1],λj v hj=>?_⟩;match j,hj with
  | 0,hj=>cases hj;exact⟨x,rfl,hy⟩
  | j+1,hj=>exact h2 j v hj
theorem V4 {α:Type} [Inhabited α] {R:uU α} {t e:TypeId} {n:Nat} (ht:P.underlying t=some (.slice e)) (hc:P.cellsOf e=n) (hn:0 < n)
  (hf :∀fuel cs (y:DataW H×List MemPlace),DataW.trod enc P W 0 sp held fuel e cs=some y->∃x:α,R (Hp.whole W) x cs)
  {fuel:Nat} {cs:List Value} {y:DataW H×List MemPlace} (h:DataW.trod enc P W 0 sp held fuel t cs=some y) :
  ∃a m c L,cs = [.slice a m c]/\Sl R n (Hp.whole W) a m c L:=by
 rcases DataW.trod_slice ht h with ⟨h0,_⟩ | ⟨a,len,cap,elems,rest,k,_,rfl,_,hb,hl,_,hlen,hel,_,_⟩
 ·exact⟨none,0,0,[],h0,Sl.nil _ _ _ _ _⟩
 rw[hc] at hel;have each :∀i,i < len->∃(x:α×List Value),R (Hp.whole W) x.1 x.2/\x.2.length=n/\∀j v,x.2[j]?=some v->W.cell? ((a.add (i*n)).add j)=some v:=by
  intro i hi;have h1:=hel i hi;rw[i6 om,Nh] at h1;obtain⟨cs',hcs,hy⟩:=h1;obtain⟨x,hx⟩:=hf _ _ _ hy;unfold World.cells? at hcs;rw[if_pos (f8 _)] at hcs;obtain⟨g1,g2⟩:=yX hcs;rw[L9] at g1;refine⟨(x,cs'),hx,g1,λj v hj=>?_⟩;obtain⟨q,hq,hv⟩:=g2 j v hj;have hjn:j < n:=by rw[<-g1];exact (q9.1 hj).1
  rw[qH hjn] at hq;cases hq;exact hv
 obtain⟨g,hg⟩ :∃g:Nat->α×List Value,∀i,i < len->R (Hp.whole W) (g i).1 (g i).2/\(g i).2.length=n/\∀j v,(g i).2[j]?=some v->W.cell? ((a.add (i*n)).add j)=some v:=by
  refine⟨λi=>if h:i < len then (each i h).choose else (default,[]),λi hi=>?_⟩;simp only[hi,↓reduceDIte];exact (each i hi).choose_spec
 refine⟨some a,len,cap,(z8 len).map λi=>(g i).1,rfl,sQ,hl,λi hi=>?_⟩;simp only[l7,L9] at hi;obtain⟨b,off,rfl⟩ :∃b off,a=⟨b,off,none⟩:=by
  obtain⟨_,h1,h2⟩:=hg 0 om;have:=h2 0 _ (i6 om);rw[Z4] at this;simp only[Addr.add,↓reduceIte] at this;exact DA this
 obtain⟨h0,h1,h2⟩:=hg i hi;refine⟨b,off,(g i).2,rfl,h1,by simpa using h0,λj v hj=>?_⟩;have:=h2 j v hj;rw[Addr.add_mk,Addr.add_mk] at this;exact this
theorem xT {t:TypeId} {fs:Array Field} {fuel:Nat} {cs:List Value} {x:DataW H×List MemPlace} (ht:P.underlying t=some (.struct fs)) (h:DataW.trod enc P W 0 sp held fuel t cs=some x) :
  cs.length=P.cellsOf t/\∃n,∀(i:Nat) (f:Field),fs[i]?=some f->∃y,DataW.trod enc P W 0 sp held n f.type ((cs.drop f.offset).take (P.cellsOf f.type))=some y:=by
 obtain⟨xs,n,_,rfl,hl,hlen,hf⟩:=DataW.trod_struct ht h;refine⟨hl,n,λi f hi=>?_⟩;have h1:=hf i f hi;have hi':i < xs.length:=by rw[hlen];exact (Array.getElem?_eq_some_iff.1 hi).1
 rw[i6 hi'] at h1;exact⟨_,h1⟩
theorem Ke {cs:List Value} (h:cs.length=3) :∃p q s,cs = [p,q,s]:=by
 match cs,h with
 | [p,q,s],_=>exact⟨p,q,s,rfl⟩
theorem Hl {cs:List Value} (h:cs.length=4) :∃p q s u,cs = [p,q,s,u]:=by
 match cs,h with
 | [p,q,s,u],_=>exact⟨p,q,s,u,rfl⟩
theorem Hk {cs:List Value} (h:cs.length=5) :∃p q s u z,cs = [p,q,s,u,z]:=by
 match cs,h with
 | [p,q,s,u,z],_=>exact⟨p,q,s,u,z,rfl⟩
theorem KY {n:Int} (h:(Lit.int .u8 n).wf=true):0<=n/\n<=255:=by
 simp only[Lit.wf,k6,decide_eq_true_eq] at h;have h1:IntKind.u8.min=0:=rfl;have h2:IntKind.u8.max=255:=rfl;omega
theorem RJ {n:Int} (h:(Lit.int .i8 n).wf=true) : -128<=n/\n<=127:=by
 simp only[Lit.wf,k6,decide_eq_true_eq] at h;have h1:IntKind.i8.min = -128:=rfl;have h2:IntKind.i8.max=127:=rfl;omega
theorem PJ {t:TypeId} {F0 F1 F2 F3 F4 F5:Field} {fuel:Nat} {cs:List Value} {x:DataW H×List MemPlace} (ht:P.underlying t=some (.struct #[F0,F1,F2,F3,F4,F5])) (h:DataW.trod enc P W 0 sp held fuel t cs=some x) :
  cs.length=P.cellsOf t/\∃n,(∃y,DataW.trod enc P W 0 sp held n F0.type ((cs.drop F0.offset).take (P.cellsOf F0.type))=some y)/\(∃y,DataW.trod enc P W 0 sp held n F1.type ((cs.drop F1.offset).take (P.cellsOf F1.type))=some y)/\(∃y,DataW.trod enc P W 0 sp held n F2.type ((cs.drop F2.offset).take (P.cellsOf F2.type))=some y)/\(∃y,DataW.trod enc P W 0 sp held n F3.type ((cs.drop F3.offset).take (P.cellsOf F3.type))=some y)/\(∃y,DataW.trod enc P W 0 sp held n F4.type ((cs.drop F4.offset).take (P.cellsOf F4.type))=some y)/\(∃y,DataW.trod enc P W 0 sp held n F5.type ((cs.drop F5.offset).take (P.cellsOf F5.type))=some y):=by
 obtain⟨h1,n,h2⟩:=xT ht h;exact⟨h1,n,h2 0 F0 rfl,h2 1 F1 rfl,h2 2 F2 rfl,h2 3 F3 rfl,h2 4 F4 rfl,h2 5 F5 rfl⟩
theorem Hj {cs:List Value} (h:cs.length=6) :∃p q s u z y,cs = [p,q,s,u,z,y]:=by
 match cs,h with
 | [p,q,s,u,z,y],_=>exact⟨p,q,s,u,z,y,rfl⟩
theorem qS {t e:TypeId} {n:Nat} (ht:P.underlying t=some (.array n e)) (he:P.underlying e=some (.int .i8)) (hc:P.cellsOf e=1) (hct:P.cellsOf t=n)
  {fuel:Nat} {cs:List Value} {y:DataW H×List MemPlace} (h:DataW.trod enc P W 0 sp held fuel t cs=some y):cs.length=n/\∀i,i < n->∃v:Int,cs[i]?=some (.int .i8 v)/\(-128<=v/\v<=127):=by
 obtain⟨xs,m,_,_,hl,hn,hel⟩:=DataW.trod_array ht h;rw[hct] at hl;refine⟨hl,λi hi=>?_⟩;have h1:=hel i hi;rw[hc,E3,i6 om] at h1;obtain⟨v,e1,_,hw⟩:=DataW.trod_int he h1;refine⟨v,?_,RJ hw⟩;have:=congrArg (·[0]?) e1;simp only[aQ,Na (show 0 < 1 by decide),bV,G3] at this;exact this
theorem Sl.split {α:Type} {R:uU α} {Q:α->Prop} {sz:Nat} {h:Hp} {a:Option Addr} {n c:Nat} {L:List α} (hs:Sl (λh x cs=>R h x cs/\Q x) sz h a n c L):Sl R sz h a n c L/\∀x∈L,Q x:=by
 refine⟨⟨hs.len,hs.cap,λi hi=>?_⟩,λx hx=>?_⟩
 ·obtain⟨b,off,cs,h1,h2,h3,h4⟩:=hs.cells i hi;exact⟨b,off,cs,h1,h2,h3.1,h4⟩
 ·obtain⟨i,hi,rfl⟩:=Q1.1 hx;obtain⟨b,off,cs,h1,h2,h3,h4⟩:=hs.cells i hi;exact h3.2
end
end Go.Dw
namespace Go.Proofs.YtpjhmeicbjkcdaaGreatDoor
open Go Go.RowKit Go.Dw Go.ChangeShapes Go.WideShapes Go.ChangeAt
def cI:List (String×DataW Unit):=[("math/bits.deBruijn32tab",Rows.laid_math_bits_deBruijn32tab),("math/bits.deBruijn64tab",Rows.laid_math_bits_deBruijn64tab),("internal/strconv.uint64pow10",Rows.laid_internal_strconv_uint64pow10),("unicode/utf8.acceptRanges",Rows.laid_unicode_utf8_acceptRanges),("strconv.ErrRange",Rows.laid_strconv_ErrRange),("strconv.ErrSyntax",Rows.laid_strconv_ErrSyntax),("unicode.White_Space",Rows.laid_unicode_White_Space),("strings.asciiSpace",Rows.laid_strings_asciiSpace),("unicode/utf8.first",Rows.laid_unicode_utf8_first)]
set_option maxRecDepth 100000 in
theorem CN (os:Os) (args:Array Value):((World.laidAll Tryz.prog os cI).forCall (λ_ _=>0) ⟨#[],args,[]⟩).Shaped Tryz.prog:=World.shaped_of_ZipB kr kr
set_option maxRecDepth 100000 in
theorem VK (os:Os) (args:Array Value):laidMetH Tryz.prog cI ((World.laidAll Tryz.prog os cI).forCall (λ_ _=>0) ⟨#[],args,[]⟩).memory:=by
 rw[MakeChecks.laidMetH_plain _ _ _ kr];exact laidMet_laidAll _ kr kr
theorem TP:Tryz.prog.globalNamed "strings.asciiSpace" = some 2:=kr
theorem Dp:(Tryz.prog.globals[2]?).map (·.type)=some 346:=kr
theorem ZD:(Rows.laid_strings_asciiSpace:DataW Unit)=.agg ((z8 256).map λn:Nat=>.lit (.int .u8 (if Lib.isSp (UInt8.ofNat n) then 1 else 0))):=kr
set_option maxRecDepth 100000 in
theorem qV {W:World} (hh:laidMetH Tryz.prog cI W):kU (Hp.whole W):=by
 have h:laidMetH Tryz.prog [("strings.asciiSpace",Rows.laid_strings_asciiSpace)] W:=hh.filter λx=>x.1 == "strings.asciiSpace";rw[MakeChecks.laidMetH_plain _ _ _ kr] at h;obtain⟨ps,⟨g0,t0,cs0,f0,p0,q0,hg0,ht0,hv0,hd0,_,_⟩,_,_⟩:=h;obtain rfl:=Y4 (TP.symm.trans hg0);obtain rfl:=Y4 (Dp.symm.trans ht0);obtain⟨xs,m1,rfl,hx1,hlen,hn,hel⟩:=DataW.trod_array Tryz.underlying346 hd0;have ce:Tryz.prog.cellsOf 5=1:=kr
 simp only[Prod.mk.injEq] at hx1;rw[ZD,DataW.agg.injEq] at hx1;intro j hj;have h0:=hel j hj;rw[ce,E3] at h0;have hjx:j < xs.length:=om
 rw[i6 hjx] at h0;obtain⟨n,e1,e2,_⟩:=DataW.trod_int Tryz.underlying5 h0;have hd:(xs.map (·.1))[j]?=some (.lit (.int .u8 n)):=by
  rw[G7,i6 hjx,e2];rfl
 rw[<-hx1.1,G7,qH hj] at hd;have hn2:(if Lib.isSp (UInt8.ofNat j) then (1:Int) else 0)=n:=by
  simpa using hd
 have hc:=World.var?_cell hg0 hv0 j;have hcj:cs0[j]?=some (.int .u8 n):=by
  have:=congrArg (·[0]?) e1;simp only[aQ,Na (show 0 < 1 by decide),bV,G3,Array.getElem?_toList] at this;exact this
 rw[hcj] at hc;rw[hn2];exact hc
theorem UM:Tryz.prog.globalNamed "internal/strconv.uint64pow10" = some 0:=kr
theorem Eb:(Tryz.prog.globals[0]?).map (·.type)=some 319:=kr
theorem ZU:(Rows.laid_internal_strconv_uint64pow10:DataW Unit)=Lib.tabData .u64 Lib.pow10Tab:=kr
set_option maxRecDepth 100000 in
theorem qW {W:World} (hh:laidMetH Tryz.prog cI W):dT (Hp.whole W):=by
 have h:laidMetH Tryz.prog [("internal/strconv.uint64pow10",Rows.laid_internal_strconv_uint64pow10)] W:=hh.filter λx=>x.1 == "internal/strconv.uint64pow10";rw[MakeChecks.laidMetH_plain _ _ _ kr,ZU] at h;exact dT.of (Lib.tabIs_of_head UM Eb Tryz.underlying319 Tryz.underlying248 kr kr h)
section
variable {H:Type} {enc:TypeId×Value->H} {W:World} {r:Reach} {b0:Nat} {v:Value} {d:DataW H} {ps:List MemPlace} {sp:Nat->Bool} {held:Bool}
theorem Ig:Tryz.prog.cellsOf 5=1:=kr
theorem Bj:Tryz.prog.cellsOf 133=1:=kr
theorem Ij:Tryz.prog.cellsOf 134=5:=kr
theorem Ii:Tryz.prog.cellsOf 136=6:=kr
theorem Il:Tryz.prog.cellsOf 146=3:=kr
theorem Ik:Tryz.prog.cellsOf 148=4:=kr
theorem Lg:Tryz.prog.cellsOf 68=1:=kr
theorem Lc:Tryz.prog.cellsOf 55=1:=kr
theorem Kz:Tryz.prog.cellsOf 56=1:=kr
theorem Lf:Tryz.prog.cellsOf 57=1:=kr
theorem Le:Tryz.prog.cellsOf 58=1:=kr
theorem Ky:Tryz.prog.cellsOf 59=1:=kr
theorem Kx:Tryz.prog.cellsOf 61=6:=kr
theorem Gp {fuel:Nat} {cs:List Value} {y:DataW H×List MemPlace} (h:DataW.trod enc Tryz.prog W 0 sp held fuel 134 cs=some y) :∃x:Q5,cs=Kl x/\i8 x.1/\i8 x.2.1/\i8 x.2.2.1/\i8 x.2.2.2.1/\i8 x.2.2.2.2:=by
 obtain⟨hl,h⟩:=qS Tryz.underlying134 Tryz.underlying133 Bj Ij h;obtain⟨p0,p1,p2,p3,p4,rfl⟩:=Hk hl;obtain⟨v0,e0,b0⟩:=h 0 dc;obtain⟨v1,e1,b1⟩:=h 1 dc;obtain⟨v2,e2,b2⟩:=h 2 dc;obtain⟨v3,e3,b3⟩:=h 3 dc;obtain⟨v4,e4,b4⟩:=h 4 dc;exact⟨(v0,v1,v2,v3,v4),by simp only[aQ,aR,m9] at e0 e1 e2 e3 e4;rw[e0,e1,e2,e3,e4];rfl,b0,b1,b2,b3,b4⟩
theorem Gn {fuel:Nat} {cs:List Value} {y:DataW H×List MemPlace} (h:DataW.trod enc Tryz.prog W 0 sp held fuel 136 cs=some y) :∃x:Q6,cs=Kk x/\i8 x.1/\i8 x.2.1/\i8 x.2.2.1/\i8 x.2.2.2.1/\i8 x.2.2.2.2.1/\i8 x.2.2.2.2.2:=by
 obtain⟨hl,h⟩:=qS Tryz.underlying136 Tryz.underlying133 Bj Ii h;obtain⟨p0,p1,p2,p3,p4,p5,rfl⟩:=Hj hl;obtain⟨v0,e0,b0⟩:=h 0 dc;obtain⟨v1,e1,b1⟩:=h 1 dc;obtain⟨v2,e2,b2⟩:=h 2 dc;obtain⟨v3,e3,b3⟩:=h 3 dc;obtain⟨v4,e4,b4⟩:=h 4 dc;obtain⟨v5,e5,b5⟩:=h 5 dc;exact⟨(v0,v1,v2,v3,v4,v5),by simp only[aQ,aR,m9] at e0 e1 e2 e3 e4 e5;rw[e0,e1,e2,e3,e4,e5];rfl,b0,b1,b2,b3,b4,b5⟩
theorem Gr {fuel:Nat} {cs:List Value} {y:DataW H×List MemPlace} (h:DataW.trod enc Tryz.prog W 0 sp held fuel 146 cs=some y) :∃x:Int×Int×Int,cs=Km x/\i8 x.1/\i8 x.2.1/\i8 x.2.2:=by
 obtain⟨hl,h⟩:=qS Tryz.underlying146 Tryz.underlying133 Bj Il h;obtain⟨p0,p1,p2,rfl⟩:=Ke hl;obtain⟨v0,e0,b0⟩:=h 0 dc;obtain⟨v1,e1,b1⟩:=h 1 dc;obtain⟨v2,e2,b2⟩:=h 2 dc;exact⟨(v0,v1,v2),by simp only[aQ,aR,m9] at e0 e1 e2;rw[e0,e1,e2];rfl,b0,b1,b2⟩
theorem Gq {fuel:Nat} {cs:List Value} {y:DataW H×List MemPlace} (h:DataW.trod enc Tryz.prog W 0 sp held fuel 148 cs=some y) :∃x:Q4,cs=Ge x/\i8 x.1/\i8 x.2.1/\i8 x.2.2.1/\i8 x.2.2.2:=by
 obtain⟨hl,h⟩:=qS Tryz.underlying148 Tryz.underlying133 Bj Ik h;obtain⟨p0,p1,p2,p3,rfl⟩:=Hl hl;obtain⟨v0,e0,b0⟩:=h 0 dc;obtain⟨v1,e1,b1⟩:=h 1 dc;obtain⟨v2,e2,b2⟩:=h 2 dc;obtain⟨v3,e3,b3⟩:=h 3 dc;exact⟨(v0,v1,v2,v3),by simp only[aQ,aR,m9] at e0 e1 e2 e3;rw[e0,e1,e2,e3];rfl,b0,b1,b2,b3⟩
theorem Bt {fuel:Nat} {cs:List Value} {y:DataW H×List MemPlace} (h:DataW.trod enc Tryz.prog W 0 sp held fuel 5 cs=some y) :∃x:Nat,cs=OQ x/\x < 256:=by
 obtain⟨kd,e0,_,w0⟩:=DataW.trod_int Tryz.underlying5 h;have b0:=KY w0;obtain⟨kn,rfl⟩:=aS b0.1;exact⟨kn,e0,om⟩
theorem De {fuel:Nat} {cs:List Value} {y:DataW H×List MemPlace} (h:DataW.trod enc Tryz.prog W 0 sp held fuel 68 cs=some y) :∃L:List Nat,WQ (B0 OQ) 1 (Hp.whole W) L cs/\∀x∈L,x < 256:=by
 obtain⟨a,n,c,L,e,hs⟩:=V4 (α:=Nat) (R:=λh x cs=>B0 OQ h x cs/\x < 256) Tryz.underlying68 Ig dc (λ_ _ _ h=>Bt h) h;exact⟨L,⟨a,n,c,e,hs.split.1⟩,hs.split.2⟩
set_option maxRecDepth 100000 in
theorem Gm {fuel:Nat} {cs:List Value} {y:DataW H×List MemPlace} (h:DataW.trod enc Tryz.prog W 0 sp held fuel 61 cs=some y) :∃k:YC,MQ k/\JB (Hp.whole W) k cs:=by
 obtain⟨hl,n,⟨y0,k0⟩,⟨y1,k1⟩,⟨y2,k2⟩,⟨y3,k3⟩,⟨y4,k4⟩,⟨y5,k5⟩⟩:=PJ Tryz.underlying61 h;rw[Kx] at hl;obtain⟨p0,p1,p2,p3,p4,p5,rfl⟩:=Hj hl;dsimp only at k0 k1 k2 k3 k4 k5;rw[Ig] at k0;rw[Lc] at k1;rw[Kz] at k2;rw[Lf] at k3;rw[Le] at k4;rw[Ky] at k5;obtain⟨nm,e0,bn⟩:=Bt k0;obtain⟨a1,n1,c1,L1,e1,s1⟩:=V4 (α:=Q5) (R:=λh x cs=>B0 Kl h x cs/\(i8 x.1/\i8 x.2.1/\i8 x.2.2.1/\i8 x.2.2.2.1/\i8 x.2.2.2.2)) Tryz.underlying55 Ij dc (λ_ _ _ h=>Gp h) k1;obtain⟨a2,n2,c2,L2,e2,s2⟩:=V4 (α:=Q6) (R:=λh x cs=>B0 Kk h x cs/\(i8 x.1/\i8 x.2.1/\i8 x.2.2.1/\i8 x.2.2.2.1/\i8 x.2.2.2.2.1/\i8 x.2.2.2.2.2)) Tryz.underlying56 Ii dc (λ_ _ _ h=>Gn h) k2;obtain⟨a3,n3,c3,L3,e3,s3⟩:=V4 (α:=Int×Int×Int) (R:=λh x cs=>B0 Km h x cs/\(i8 x.1/\i8 x.2.1/\i8 x.2.2)) Tryz.underlying57 Il dc (λ_ _ _ h=>Gr h) k3;obtain⟨a4,n4,c4,L4,e4,s4⟩:=V4 (α:=Q4) (R:=λh x cs=>B0 Ge h x cs/\(i8 x.1/\i8 x.2.1/\i8 x.2.2.1/\i8 x.2.2.2)) Tryz.underlying58 Ik dc (λ_ _ _ h=>Gq h) k4;obtain⟨a5,n5,c5,L5,e5,s5⟩:=V4 (α:=List Nat) (R:=λh x cs=>WQ (B0 OQ) 1 h x cs/\∀z∈x,z < 256) Tryz.underlying59 Lg dc (λ_ _ _ h=>De h) k5;simp[OQ] at e0 e1 e2 e3 e4 e5;exact⟨⟨nm,L1,L2,L3,L4,L5⟩,⟨bn,s1.split.2,s2.split.2,s3.split.2,s4.split.2,s5.split.2⟩,⟨a1,n1,c1,a2,n2,c2,a3,n3,c3,a4,n4,c4,a5,n5,c5,by rw[e0,e1,e2,e3,e4,e5],s1.split.1,s2.split.1,s3.split.1,s4.split.1,s5.split.1⟩⟩
set_option maxRecDepth 100000 in
theorem UX (hval:Value.okWide Tryz.prog W r b0 61 v) (hd:DataW.Trod enc Tryz.prog W 0 (λ_=>true) true 61 v d ps) :∃(k:YC) (cs:List Value),v=.agg cs.toArray/\MQ k/\JB (Hp.whole W) k cs:=by
 obtain⟨xs,rfl,_⟩:=okWide_struct Tryz.underlying61 hval;obtain⟨fuel,hf⟩:=hd;obtain⟨k,h1,h2⟩:=Gm hf;exact⟨k,xs.toList,sQ,h1,h2⟩
end
end Go.Proofs.YtpjhmeicbjkcdaaGreatDoor
namespace Go.Proofs.YtpjhmeicbjkcdaaGreatDoor
open Go Go.RowKit Go.Dw
theorem WS {a b c:Hp} (h1:a.dj b) (h2:a.dj c):a.dj (b.join c):=λx=>by
 rcases h1 x with h | h
 ·exact .inl h
 ·rcases h2 x with h' | h'
  ·exact .inl h'
  ·right;unfold Hp.join;rw[h,h']
structure Wr (C:Prop):Prop where
 h:C
theorem DW {C M:Prop} (h:Wr C->M) (c:C):M:=h ⟨c⟩
theorem RC {how:Nat} {P:List W3} {l:List Q6} {i:Nat} (hP:0 < P.length) (h3:i < 3) (hi:i < l.length):(aJ how P l).take (i+1)=(aJ how P l).take i++[fJ how P i l[i]]:=by
 have e:aJ how P l=JJ (fJ how P) 3 l:=by unfold aJ JJ;rw[if_neg (λc=>by rw[c] at hP;cases hP)]
 rw[e];exact kZ _ h3 hi
theorem HT {how:Nat} {P:List W3} {l:List Q6} {i:Nat} (h : ¬ (i < l.length/\i < 3/\0 < P.length)):(aJ how P l).take i=aJ how P l:=by
 by_cases hP:P = []
 ·have e:aJ how P l = []:=by unfold aJ;rw[if_pos hP]
  rw[e,List.take_nil]
 ·have e:aJ how P l=JJ (fJ how P) 3 l:=by unfold aJ JJ;rw[if_neg hP]
  rw[e];exact gO _ (λc=>h ⟨c.1,c.2,G2.2 hP⟩)
def Hv (lab pn:e8) (t:List Int) (f:List e8):List Value:=[sv lab,sv pn,iQ (t.getD 0 0),iQ (t.getD 1 0),iQ (t.getD 2 0),iQ (t.getD 3 0),sv (f.getD 0 []),sv (f.getD 1 []),sv (f.getD 2 [])]
set_option maxHeartbeats 4000000 in
set_option maxRecDepth 10000 in
theorem H7 {k:YC} (g:MQ k) {cs:List Value} (w:World) (hS:JB (Hp.whole w) k cs) (hP:dT (Hp.whole w)) :
  j6 Tryz.prog 21 #[.agg cs.toArray] w (fD w λv cs'=>∃H xs,cs' = [.hp H]/\v=.agg xs.toArray/\xs.length=6/\qB 4 H (G0 k) xs):=by
 obtain⟨a1,n1,c1,a2,n2,c2,a3,n3,c3,a4,n4,c4,a5,n5,c5,rfl,h1,h2,h3,h4,h5⟩:=hS.ex;have l1:=h1.len;have l2:=h2.len;have l3:=h3.len;have l4:=h4.len;have l5:=h5.len;have hnm:=g.n;refine enterZ (cx 317) [.agg #[.int .u8 k.nm,.slice a1 n1 c1,.slice a2 n2 c2,.slice a3 n3 c3,.slice a4 n4 c4,.slice a5 n5 c5]] [.cell 2 30] Tryz.func21 ?_;intro b1 b2;refine o7 (λ_ kz=>kz _ _ ?_);refine nQ [.hp (Hp.whole w),.box b1 [.int .u8 k.nm,.slice a1 n1 c1,.slice a2 n2 c2,.slice a3 n3 c3,.slice a4 n4 c4,.slice a5 n5 c5] 61,.box b2 [zs,zl,zl,zl,zl,zl] 30] λq' hq'=>?_;refine nwo ?_;apply hq';refine o7 λq' hq'=>?_;refine gR k.nm 5 (k.nm % 5) rfl rfl dc rfl ?_;refine k7 _ (λw' hm=>Q3 112 (k.nm % 5) k.nm om hnm w') ?_;intro b4;obtain⟨nm,hnm2⟩ :∃x,x=gJ 112 (k.nm % 5) k.nm:=⟨_,rfl⟩
 rw[<-hnm2];apply hq';refine o7 (λ_ kz=>kz _ _ ?_);obtain⟨P,hPd⟩ :∃P,P=JJ (kE k.nm) 3 k.parts:=⟨_,rfl⟩
 have hPl:P.length<=3:=by rw[hPd,jM];omega
 obtain⟨I,hId⟩ :∃I,I=aJ k.nm P k.insts:=⟨_,rfl⟩
 obtain⟨D,hDd⟩ :∃D,D=JJ (lN k.nm) 4 k.dims:=⟨_,rfl⟩
 obtain⟨C,hCd⟩ :∃C,C=JJ (rB k.nm D.length) 2 k.cons:=⟨_,rfl⟩
 obtain⟨R,hRd⟩ :∃R,R=JJ (kD k.nm D.length) 2 k.gaps:=⟨_,rfl⟩
 have hDl:D.length<=4:=by rw[hDd,jM];omega
 have hCl:C.length<=2:=by rw[hCd,jM];omega
 have hRl:R.length<=2:=by rw[hRd,jM];omega
 have hIl:I.length<=3:=by
  rw[hId];unfold aJ;split
  ·exact f8 _
  ·have:=jM (fJ k.nm P) 3 k.insts;unfold JJ at this;omega
 apply DW;intro hC1;refine u6.mkS (Nat×Hp×Dw.Os) (λg=>[(1,.bx 1 0),(2,.bx 2 0),(3,.v (iQ k.nm)),(4,.bx 3 0),(5,.v (iQ g.1))]) (λg=>[.hp (Hp.whole w),.box b1 [.int .u8 k.nm,.slice a1 n1 c1,.slice a2 n2 c2,.slice a3 n3 c3,.slice a4 n4 c4,.slice a5 n5 c5] 61,.box b2 [zs,zl,zl,zl,zl,zl] 30,.box b4 [sv nm,g.2.2.v,zl,zl,zl,zl] 30,.hp g.2.1,.hp g.2.2.h]) (λg=>g.1<=3/\aT bN 83 3 g.2.1 g.2.2 (P.take g.1)) (λg=>3 - g.1) (0,Hp.emp,Dw.Os.nil) ⟨f8 _,by rw[R1];exact aT.nil⟩ (v6.mk (λ_ _ h=>h.emp.emp) rfl rfl) ?_;rintro⟨i,HP,oP⟩ ⟨hi,hGP⟩ hsat;dsimp only at hi hGP ⊢;refine o7 λq' hq'=>?_;refine d8 (λt1=>?_) λt1=>?_
 ·apply hq';refine M6 (by rfl) (λt2=>?_) λt2=>?_
  ·have t2:=of_decide_eq_true t2;have hil:i < k.parts.length:=om
   obtain⟨x,hx⟩ :∃x,x=k.parts[i]'hil:=⟨_,rfl⟩
   have gx:=g.p x (by rw[hx];exact j0 hil);have eStep:P.take (i+1)=P.take i++[kE k.nm i x]:=by rw[hPd,hx];exact kZ _ om hil
   obtain⟨x1,x2,x3,x4,x5⟩:=x;obtain⟨gx1,gx2,gx3,gx4,gx5⟩:=gx;dsimp only[i8] at gx1 gx2 gx3 gx4 gx5;refine nQ [.hp (Hp.whole w),.box b1 [.int .u8 k.nm,.slice a1 n1 c1,.slice a2 n2 c2,.slice a3 n3 c3,.slice a4 n4 c4,.slice a5 n5 c5] 61,.box b2 [zs,zl,zl,zl,zl,zl] 30,.box b4 [sv nm,oP.v,zl,zl,zl,zl] 30,.hp HP,.hp oP.h] λq' hq'=>?_;refine I1 cQ (e:=134) rfl h1 i rfl hil λb9 o9 cs hcs hR hcell=>?_;rw[<-hx] at hR;subst hR;refine T7 cQ (i:=0) rfl hcell rfl ?_;intro b6;apply hq';clear hcell;obtain⟨lab,hlab⟩ :∃y,y=gJ 113 i (k.nm / 2):=⟨_,rfl⟩
   refine s6.cut Nat (λg=>[(1,.bx 1 0),(2,.bx 2 0),(3,.v (iQ k.nm)),(4,.bx 3 0),(5,.v (iQ i)),(6,.bx 6 0),(7,.bx 7 0)]) (λg=>[.hp (Hp.whole w),.box b1 [.int .u8 k.nm,.slice a1 n1 c1,.slice a2 n2 c2,.slice a3 n3 c3,.slice a4 n4 c4,.slice a5 n5 c5] 61,.box b2 [zs,zl,zl,zl,zl,zl] 30,.box b4 [sv nm,oP.v,zl,zl,zl,zl] 30,.hp HP,.hp oP.h,.box b6 [.int .i8 x1,.int .i8 x2,.int .i8 x3,.int .i8 x4,.int .i8 x5] 134,.box g [sv lab,iQ (1+((u8 x1:Nat):Int)),zl] 83]) (λ_=>True) (s6.by_order cQ (.take 0 <| .take 1 <| .take 2 <| .take 4 <| .take 5 <| .take 6 <| .take 7 <| .take 8 <| .two 3 (.take 9 <| .run 10 <| .run 11 <| .done) 10 (.run 3 <| .take 9 <| .run 11 <| .done)) kr ?_) ?_
   ·refine CF k.nm 1 rfl dc ?_;refine fM (DN x1) ?_;have hu:=TC x1;(iterate 2 refine nwo ?_);constructor
    focus
     refine k7 _ (λw' hm=>Q3 113 i (k.nm / 2 ^ 1) om (s7 (D7 _ _) hnm) w') ?_;rw[show k.nm / 2 ^ 1=k.nm / 2 from rfl,<-hlab];refine⟨sK,?_⟩;intro b7
    rotate_left
    focus
     intro b7;refine⟨sK,?_⟩;refine k7 _ (λw' hm=>Q3 113 i (k.nm / 2 ^ 1) om (s7 (D7 _ _) hnm) w') ?_;rw[show k.nm / 2 ^ 1=k.nm / 2 from rfl,<-hlab]
    all_goals
     first
     | exact⟨b7,trivial,v6.mk (λ_ _ h=>h) rfl rfl⟩
     | exact⟨sK,b7,trivial,v6.mk (λ_ _ h=>h) rfl rfl⟩
     | exact⟨sK,sK,b7,trivial,v6.mk (λ_ _ h=>h) rfl rfl⟩
   rintro b7 _ _;dsimp only;refine o7 (λ_ kz=>kz _ _ ?_);have hcx:u8 x2 % 3 < 3:=C8 _ dc;have hvx:u8 x3 % 4 < 4:=C8 _ dc;refine u6.mkS (Nat×Hp×Dw.Os) (λg=>[(1,.bx 1 0),(2,.bx 2 0),(3,.v (iQ k.nm)),(4,.bx 3 0),(5,.v (iQ i)),(6,.bx 6 0),(7,.bx 7 0),(8,.v (iQ g.1))]) (λg=>[.hp (Hp.whole w),.box b1 [.int .u8 k.nm,.slice a1 n1 c1,.slice a2 n2 c2,.slice a3 n3 c3,.slice a4 n4 c4,.slice a5 n5 c5] 61,.box b2 [zs,zl,zl,zl,zl,zl] 30,.box b4 [sv nm,oP.v,zl,zl,zl,zl] 30,.hp HP,.hp oP.h,.box b6 [.int .i8 x1,.int .i8 x2,.int .i8 x3,.int .i8 x4,.int .i8 x5] 134,.box b7 [sv lab,iQ (1+((u8 x1:Nat):Int)),g.2.2.v] 83,.hp g.2.1,.hp g.2.2.h]) (λg=>g.1<=u8 x2 % 3/\aT pN 86 1 g.2.1 g.2.2 ((z8 g.1).map (vZ (x1,x2,x3,x4,x5)))) (λg=>3 - g.1) (0,Hp.emp,Dw.Os.nil) ⟨f8 _,aT.nil⟩ (v6.mk (λ_ _ h=>h.emp.emp) rfl rfl) ?_;rintro⟨c,HC,oC⟩ ⟨hc,hGC⟩ hsat2;dsimp only at hc hGC ⊢;refine o7 λq' hq'=>?_;refine fM (DN x2) ?_;refine gR (u8 x2) 3 (u8 x2 % 3) rfl rfl dc rfl ?_;refine nwo ?_;apply hq';refine M6 (by rfl) (λt3=>?_) λt3=>?_
   ·have t3:=of_decide_eq_true t3;refine o7 λq' hq'=>?_;intro b9;apply hq';refine o7 (λ_ kz=>kz _ _ ?_);refine u6.mkS (Nat×Dw.Os) (λg=>[(1,.bx 1 0),(2,.bx 2 0),(3,.v (iQ k.nm)),(4,.bx 3 0),(5,.v (iQ i)),(6,.bx 6 0),(7,.bx 7 0),(8,.v (iQ c)),(9,.bx 10 0),(10,.v (iQ g.1))]) (λg=>[.hp (Hp.whole w),.box b1 [.int .u8 k.nm,.slice a1 n1 c1,.slice a2 n2 c2,.slice a3 n3 c3,.slice a4 n4 c4,.slice a5 n5 c5] 61,.box b2 [zs,zl,zl,zl,zl,zl] 30,.box b4 [sv nm,oP.v,zl,zl,zl,zl] 30,.hp HP,.hp oP.h,.box b6 [.int .i8 x1,.int .i8 x2,.int .i8 x3,.int .i8 x4,.int .i8 x5] 134,.box b7 [sv lab,iQ (1+((u8 x1:Nat):Int)),oC.v] 83,.hp HC,.hp oC.h,.box b9 [g.2.v] 86,.hp g.2.h]) (λg=>g.1<=u8 x3 % 4/\w8 OP 122 3 g.2 ((z8 g.1).map (TA (x1,x2,x3,x4,x5) c))) (λg=>4 - g.1) (0,Dw.Os.nil) ⟨f8 _,w8.nil _ _ _⟩ (v6.mk (λ_ _ h=>h.emp) rfl rfl) ?_;rintro⟨v,oV⟩ ⟨hv,hOV⟩ hsat3;dsimp only at hv hOV ⊢;refine o7 λq' hq'=>?_;refine fM (DN x3) ?_;refine gR (u8 x3) 4 (u8 x3 % 4) rfl rfl dc rfl ?_;refine nwo ?_;apply hq';refine M6 (by rfl) (λt4=>?_) λt4=>?_
    ·have t4:=of_decide_eq_true t4;refine nQ [.hp (Hp.whole w),.box b1 [.int .u8 k.nm,.slice a1 n1 c1,.slice a2 n2 c2,.slice a3 n3 c3,.slice a4 n4 c4,.slice a5 n5 c5] 61,.box b2 [zs,zl,zl,zl,zl,zl] 30,.box b4 [sv nm,oP.v,zl,zl,zl,zl] 30,.hp HP,.hp oP.h,.box b6 [.int .i8 x1,.int .i8 x2,.int .i8 x3,.int .i8 x4,.int .i8 x5] 134,.box b7 [sv lab,iQ (1+((u8 x1:Nat):Int)),oC.v] 83,.hp HC,.hp oC.h,.box b9 [oV.v] 86,.hp oV.h] λq' hq'=>?_;(iterate 5 refine nwo ?_);intro b11;refine gF (f:=OP) cQ (e:=122) rfl (i:=11) rfl hOV (TA (x1,x2,x3,x4,x5) c v) (j:=12) rfl rfl rfl rfl (by rw[l7,L9];omega) λo2 hO2=>?_;apply hq';refine o7 λq' hq'=>?_;refine nwo ?_;apply hq';exact⟨(v+1,o2),⟨by dsimp only;omega,by dsimp only;rw[yJ];exact hO2⟩,by dsimp only;omega,v6.mk (pj [0,1,2,3,4,5,6,7,8,9,10,11]) rfl rfl⟩
    ·have t4:=of_decide_eq_false t4;have hve:v=u8 x3 % 4:=om
     have eC:vZ (x1,x2,x3,x4,x5) c=(z8 v).map (TA (x1,x2,x3,x4,x5) c):=by rw[hve];rfl
     refine nQ [.hp (Hp.whole w),.box b1 [.int .u8 k.nm,.slice a1 n1 c1,.slice a2 n2 c2,.slice a3 n3 c3,.slice a4 n4 c4,.slice a5 n5 c5] 61,.box b2 [zs,zl,zl,zl,zl,zl] 30,.box b4 [sv nm,oP.v,zl,zl,zl,zl] 30,.hp HP,.hp oP.h,.box b6 [.int .i8 x1,.int .i8 x2,.int .i8 x3,.int .i8 x4,.int .i8 x5] 134,.box b7 [sv lab,iQ (1+((u8 x1:Nat):Int)),oC.v] 83,.hp HC,.hp oC.h,.box b9 [oV.v] 86,.hp oV.h] λq' hq'=>?_;intro b11;refine oL (R:=pN) (o:=oC) (L:=(z8 c).map (vZ (x1,x2,x3,x4,x5))) (H:=HC.join oV.h) cQ (e:=86) rfl (i:=9) rfl (λ_=>hGC.mono S6 (Hp.le_join_l _ _)) (vZ (x1,x2,x3,x4,x5) c) [oV.v] (j:=12) rfl rfl rfl rfl (by rw[l7,L9];omega) (λhs=>?_) λo2 _ hG2=>?_
     ·obtain⟨w0,w',hok⟩:=hs;exact⟨oV.a,oV.n,oV.c,rfl,by rw[eC];exact (w8.sl (f:=OP) (sz:=3) (λ_=>rfl) dc hOV).mono (j7 _) (Hp.le_join_r (hok.disj 8 11 _ _ dc rfl rfl))⟩
     apply hq';refine o7 λq' hq'=>?_;refine nwo ?_;apply hq';exact⟨(c+1,HC.join oV.h,o2),⟨by dsimp only;omega,by dsimp only;rw[yJ];exact hG2⟩,by dsimp only;omega,v6.mk (λ_ _ h=>(Ok.join (h.pick [0,8,11,1,2,3,4,5,6,7,9] rfl rfl)).pick [0,2,3,4,5,6,7,8,1,9] rfl rfl) rfl rfl⟩
   ·have t3:=of_decide_eq_false t3;have hce:c=u8 x2 % 3:=om
    have eX:kE k.nm i (x1,x2,x3,x4,x5)=(lab,1+((u8 x1:Nat):Int),(z8 c).map (vZ (x1,x2,x3,x4,x5))):=by rw[hlab,hce];rfl
    refine nQ [.hp (Hp.whole w),.box b1 [.int .u8 k.nm,.slice a1 n1 c1,.slice a2 n2 c2,.slice a3 n3 c3,.slice a4 n4 c4,.slice a5 n5 c5] 61,.box b2 [zs,zl,zl,zl,zl,zl] 30,.box b4 [sv nm,oP.v,zl,zl,zl,zl] 30,.hp HP,.hp oP.h,.box b6 [.int .i8 x1,.int .i8 x2,.int .i8 x3,.int .i8 x4,.int .i8 x5] 134,.box b7 [sv lab,iQ (1+((u8 x1:Nat):Int)),oC.v] 83,.hp HC,.hp oC.h] λq' hq'=>?_;intro b11;refine oL (R:=bN) (o:=oP) (L:=P.take i) (H:=HP.join (HC.join oC.h)) cQ (e:=83) rfl (i:=5) rfl (λ_=>hGP.mono I9 (Hp.le_join_l _ _)) (kE k.nm i (x1,x2,x3,x4,x5)) [sv lab,iQ (1+((u8 x1:Nat):Int)),oC.v] (j:=10) rfl rfl rfl rfl (by rw[j8];omega) (λhs=>?_) λo2 _ hG2=>?_
    ·obtain⟨w0,w',hok⟩:=hs;have d1:HP.dj (HC.join oC.h):=WS (hok.disj 4 8 _ _ dc rfl rfl) (hok.disj 4 9 _ _ dc rfl rfl);have d2:HC.dj oC.h:=hok.disj 8 9 _ _ dc rfl rfl;rw[eX];exact⟨oC.a,oC.n,oC.c,rfl,hGC.sl S6 dc ((Hp.le_join_l _ _).trans (Hp.le_join_r d1)) ((Hp.le_join_r d2).trans (Hp.le_join_r d1))⟩
    apply hq';refine o7 λq' hq'=>?_;refine nwo ?_;apply hq';exact⟨(i+1,HP.join (HC.join oC.h),o2),⟨by dsimp only;omega,by dsimp only;rw[eStep];exact hG2⟩,by dsimp only;omega,v6.mk (λ_ _ h=>(Ok.join (c:=.hp (Hp.whole w)) (d:=.hp HP) (e:=.hp (HC.join oC.h)) ((Ok.join (h.pick [0,8,9,4,1,2,3,5] rfl rfl)).pick [0,2,1,3,4,5,6] rfl rfl)).pick [0,2,3,4,1,5] rfl rfl) rfl rfl⟩
  ·have t2:=of_decide_eq_false t2;have eP:P.take i=P:=by rw[hPd];exact gO _ om
   rw[eP] at hGP;refine o7 (λ_ kz=>kz _ _ ?_);exact u6.mkS (Hp×Dw.Os×Nat×Dw.Os) (λg=>[(1,.bx 1 0),(2,.bx 2 0),(3,.v (iQ k.nm)),(4,.bx 3 0),(11,.v (iQ g.2.2.1))]) (λg=>[.hp (Hp.whole w),.box b1 [.int .u8 k.nm,.slice a1 n1 c1,.slice a2 n2 c2,.slice a3 n3 c3,.slice a4 n4 c4,.slice a5 n5 c5] 61,.box b2 [zs,zl,zl,zl,zl,zl] 30,.box b4 [sv nm,g.2.1.v,g.2.2.2.v,zl,zl,zl] 30,.hp g.1,.hp g.2.1.h,.hp g.2.2.2.h]) (λg=>g.2.2.1<=3/\aT bN 83 3 g.1 g.2.1 P/\w8 dM 93 9 g.2.2.2 (I.take g.2.2.1)) (λg=>3 - g.2.2.1) (HP,oP,0,Dw.Os.nil) ⟨f8 _,hGP,by rw[R1];exact w8.nil _ _ _⟩ (v6.mk (λ_ _ h=>h.emp) rfl rfl) hC1.h
 ·apply hq';refine dQ rfl ?_;have eP:P.take i=P:=by rw[hPd];exact gO _ om
  rw[eP] at hGP;refine o7 (λ_ kz=>kz _ _ ?_);exact u6.mkS (Hp×Dw.Os×Nat×Dw.Os) (λg=>[(1,.bx 1 0),(2,.bx 2 0),(3,.v (iQ k.nm)),(4,.bx 3 0),(11,.v (iQ g.2.2.1))]) (λg=>[.hp (Hp.whole w),.box b1 [.int .u8 k.nm,.slice a1 n1 c1,.slice a2 n2 c2,.slice a3 n3 c3,.slice a4 n4 c4,.slice a5 n5 c5] 61,.box b2 [zs,zl,zl,zl,zl,zl] 30,.box b4 [sv nm,g.2.1.v,g.2.2.2.v,zl,zl,zl] 30,.hp g.1,.hp g.2.1.h,.hp g.2.2.2.h]) (λg=>g.2.2.1<=3/\aT bN 83 3 g.1 g.2.1 P/\w8 dM 93 9 g.2.2.2 (I.take g.2.2.1)) (λg=>3 - g.2.2.1) (HP,oP,0,Dw.Os.nil) ⟨f8 _,hGP,by rw[R1];exact w8.nil _ _ _⟩ (v6.mk (λ_ _ h=>h.emp) rfl rfl) hC1.h
 apply DW;intro hC2;rintro⟨HP,oP,i,oI⟩ ⟨hi,hGP,hOI⟩ hsat;dsimp only at hi hGP hOI ⊢;have hPn:=hGP.len;refine o7 λq' hq'=>?_;refine d8 (λt1=>?_) λt1=>?_
 ·refine d8 (λt2=>?_) λt2=>?_;focus
   apply hq';refine M6 (by rfl) (λt3=>?_) λt3=>?_
   ·have t3:=of_decide_eq_true t3;have hil:i < k.insts.length:=om
    have hPp:0 < P.length:=om
    obtain⟨x,hx⟩ :∃x,x=k.insts[i]'hil:=⟨_,rfl⟩
    have gx:=g.i x (by rw[hx];exact j0 hil);have eStep:I.take (i+1)=I.take i++[fJ k.nm P i x]:=by rw[hId,hx];exact RC hPp om hil
    obtain⟨x1,x2,x3,x4,x5,x6⟩:=x;obtain⟨gx1,gx2,gx3,gx4,gx5,gx6⟩:=gx;dsimp only[i8] at gx1 gx2 gx3 gx4 gx5 gx6;refine nQ [.hp (Hp.whole w),.box b1 [.int .u8 k.nm,.slice a1 n1 c1,.slice a2 n2 c2,.slice a3 n3 c3,.slice a4 n4 c4,.slice a5 n5 c5] 61,.box b2 [zs,zl,zl,zl,zl,zl] 30,.box b4 [sv nm,oP.v,oI.v,zl,zl,zl] 30,.hp HP,.hp oP.h,.hp oI.h] λq' hq'=>?_;refine I1 cQ (e:=136) rfl h2 i rfl hil λb9 o9 cs hcs hR hcell=>?_;rw[<-hx] at hR;subst hR;refine T7 cQ (i:=0) rfl hcell rfl ?_;intro b12;apply hq';clear hcell;obtain⟨lab,hlab⟩ :∃y,y=gJ 105 i (k.nm / 4):=⟨_,rfl⟩
    have hu:=TC x1;have hjl:u8 x1 % P.length < P.length:=C8 _ hPp;obtain⟨pn,hpn⟩ :∃y,y=(P[u8 x1 % P.length]'hjl).1:=⟨_,rfl⟩
    obtain⟨C0,hC0,hC0l,hC0R⟩:=aT.name dc hGP;have hR0:=hC0R (u8 x1 % P.length) hjl om;refine s6.cut Nat (λg=>[(1,.bx 1 0),(2,.bx 2 0),(3,.v (iQ k.nm)),(4,.bx 3 0),(11,.v (iQ i)),(12,.bx 7 0),(13,.bx 8 0)]) (λg=>[.hp (Hp.whole w),.box b1 [.int .u8 k.nm,.slice a1 n1 c1,.slice a2 n2 c2,.slice a3 n3 c3,.slice a4 n4 c4,.slice a5 n5 c5] 61,.box b2 [zs,zl,zl,zl,zl,zl] 30,.box b4 [sv nm,oP.v,oI.v,zl,zl,zl] 30,.hp HP,.hp oP.h,.hp oI.h,.box b12 [.int .i8 x1,.int .i8 x2,.int .i8 x3,.int .i8 x4,.int .i8 x5,.int .i8 x6] 136,.box g [sv lab,sv pn,iQ (0),iQ (0),iQ (0),iQ (0),sv ([]),sv ([]),sv ([])] 93]) (λ_=>True) (s6.by_order cQ (.take 0 <| .take 1 <| .take 2 <| .take 4 <| .take 5 <| .take 6 <| .take 7 <| .take 8 <| .take 9 <| .take 10 <| .take 11 <| .take 12 <| .take 13 <| .take 14 <| .take 15 <| .take 16 <| .take 17 <| .take 18 <| .two 3 (.take 19 <| .run 20 <| .run 21 <| .done) 20 (.run 3 <| .take 19 <| .run 21 <| .done)) kr ?_) ?_
    ·refine CF k.nm 2 rfl dc ?_;refine fM (DN x1) ?_;refine nwo ?_;refine gR (u8 x1) P.length (u8 x1 % P.length) rfl om hPp rfl ?_;refine I1 cQ (e:=83) rfl hC0 (u8 x1 % P.length) rfl om λb8 o8 cs hcs hR hcell=>?_;have hR:cs=(C0[u8 x1 % P.length]'om).1:=hR;obtain⟨a9,n9,c9,e9,_⟩:=hR0;rw[e9] at hR;subst hR;refine lQ 5 (hcell 0 _ rfl) ?_;rw[<-hpn];constructor
     focus
      refine k7 _ (λw' hm=>Q3 105 i (k.nm / 2 ^ 2) om (s7 (D7 _ _) hnm) w') ?_;rw[show k.nm / 2 ^ 2=k.nm / 4 from rfl,<-hlab];refine⟨sK,?_⟩;intro b13
     rotate_left
     focus
      intro b13;refine⟨sK,?_⟩;refine k7 _ (λw' hm=>Q3 105 i (k.nm / 2 ^ 2) om (s7 (D7 _ _) hnm) w') ?_;rw[show k.nm / 2 ^ 2=k.nm / 4 from rfl,<-hlab]
     all_goals
      first
      | exact⟨b13,trivial,v6.mk (λ_ _ h=>h) rfl rfl⟩
      | exact⟨sK,b13,trivial,v6.mk (λ_ _ h=>h) rfl rfl⟩
    rintro b13 _ _;dsimp only;refine o7 (λ_ kz=>kz _ _ ?_);obtain⟨tq,htq⟩ :∃tq:List Int,tq = [x2.tmod 13,x3.tmod 13,x4.tmod 13,x5.tmod 13]:=⟨_,rfl⟩
    refine u6.mkS Nat (λg=>[(1,.bx 1 0),(2,.bx 2 0),(3,.v (iQ k.nm)),(4,.bx 3 0),(11,.v (iQ i)),(12,.bx 7 0),(13,.bx 8 0),(14,.v (iQ g))]) (λg=>[.hp (Hp.whole w),.box b1 [.int .u8 k.nm,.slice a1 n1 c1,.slice a2 n2 c2,.slice a3 n3 c3,.slice a4 n4 c4,.slice a5 n5 c5] 61,.box b2 [zs,zl,zl,zl,zl,zl] 30,.box b4 [sv nm,oP.v,oI.v,zl,zl,zl] 30,.hp HP,.hp oP.h,.hp oI.h,.box b12 [.int .i8 x1,.int .i8 x2,.int .i8 x3,.int .i8 x4,.int .i8 x5,.int .i8 x6] 136,.box b13 (Hv lab pn (tq.take g) []) 93]) (λg=>g<=4) (λg=>4 - g) 0 (f8 _) (v6.mk (λ_ _ h=>h) rfl rfl) ?_;rintro j hj _;match j,hj with
    | 0,_=>
     refine o7 λq' hq'=>?_;apply hq';refine M6 (by rfl) (λ_=>?_) (λh=>absurd h dc);refine X9 [.hp (Hp.whole w),.box b1 [.int .u8 k.nm,.slice a1 n1 c1,.slice a2 n2 c2,.slice a3 n3 c3,.slice a4 n4 c4,.slice a5 n5 c5] 61,.box b2 [zs,zl,zl,zl,zl,zl] 30,.box b4 [sv nm,oP.v,oI.v,zl,zl,zl] 30,.hp HP,.hp oP.h,.hp oI.h,.box b12 [.int .i8 x1,.int .i8 x2,.int .i8 x3,.int .i8 x4,.int .i8 x5,.int .i8 x6] 136,.box b13 [sv lab,sv pn,iQ (0),iQ (0),iQ (0),iQ (0),sv ([]),sv ([]),sv ([])] 93] (by rw[htq];rfl) ?_;refine o7 λq' hq'=>?_;(iterate 2 refine nwo ?_);refine NT x2 13 dc ?_;apply hq';refine o7 λq' hq'=>?_;refine nwo ?_;apply hq';exact⟨1,dc,dc,v6.mk (λ_ _ h=>by rw[htq];exact h) rfl rfl⟩
    | 1,_=>
     refine o7 λq' hq'=>?_;apply hq';refine M6 (by rfl) (λ_=>?_) (λh=>absurd h dc);refine X9 [.hp (Hp.whole w),.box b1 [.int .u8 k.nm,.slice a1 n1 c1,.slice a2 n2 c2,.slice a3 n3 c3,.slice a4 n4 c4,.slice a5 n5 c5] 61,.box b2 [zs,zl,zl,zl,zl,zl] 30,.box b4 [sv nm,oP.v,oI.v,zl,zl,zl] 30,.hp HP,.hp oP.h,.hp oI.h,.box b12 [.int .i8 x1,.int .i8 x2,.int .i8 x3,.int .i8 x4,.int .i8 x5,.int .i8 x6] 136,.box b13 [sv lab,sv pn,iQ (x2.tmod 13),iQ (0),iQ (0),iQ (0),sv ([]),sv ([]),sv ([])] 93] (by rw[htq];rfl) ?_;refine o7 λq' hq'=>?_;(iterate 2 refine nwo ?_);refine NT x3 13 dc ?_;apply hq';refine o7 λq' hq'=>?_;refine nwo ?_;apply hq';exact⟨2,dc,dc,v6.mk (λ_ _ h=>by rw[htq];exact h) rfl rfl⟩
    | 2,_=>
     refine o7 λq' hq'=>?_;apply hq';refine M6 (by rfl) (λ_=>?_) (λh=>absurd h dc);refine X9 [.hp (Hp.whole w),.box b1 [.int .u8 k.nm,.slice a1 n1 c1,.slice a2 n2 c2,.slice a3 n3 c3,.slice a4 n4 c4,.slice a5 n5 c5] 61,.box b2 [zs,zl,zl,zl,zl,zl] 30,.box b4 [sv nm,oP.v,oI.v,zl,zl,zl] 30,.hp HP,.hp oP.h,.hp oI.h,.box b12 [.int .i8 x1,.int .i8 x2,.int .i8 x3,.int .i8 x4,.int .i8 x5,.int .i8 x6] 136,.box b13 [sv lab,sv pn,iQ (x2.tmod 13),iQ (x3.tmod 13),iQ (0),iQ (0),sv ([]),sv ([]),sv ([])] 93] (by rw[htq];rfl) ?_;refine o7 λq' hq'=>?_;(iterate 2 refine nwo ?_);refine NT x4 13 dc ?_;apply hq';refine o7 λq' hq'=>?_;refine nwo ?_;apply hq';exact⟨3,dc,dc,v6.mk (λ_ _ h=>by rw[htq];exact h) rfl rfl⟩
    | 3,_=>
     refine o7 λq' hq'=>?_;apply hq';refine M6 (by rfl) (λ_=>?_) (λh=>absurd h dc);refine X9 [.hp (Hp.whole w),.box b1 [.int .u8 k.nm,.slice a1 n1 c1,.slice a2 n2 c2,.slice a3 n3 c3,.slice a4 n4 c4,.slice a5 n5 c5] 61,.box b2 [zs,zl,zl,zl,zl,zl] 30,.box b4 [sv nm,oP.v,oI.v,zl,zl,zl] 30,.hp HP,.hp oP.h,.hp oI.h,.box b12 [.int .i8 x1,.int .i8 x2,.int .i8 x3,.int .i8 x4,.int .i8 x5,.int .i8 x6] 136,.box b13 [sv lab,sv pn,iQ (x2.tmod 13),iQ (x3.tmod 13),iQ (x4.tmod 13),iQ (0),sv ([]),sv ([]),sv ([])] 93] (by rw[htq];rfl) ?_;refine o7 λq' hq'=>?_;(iterate 2 refine nwo ?_);refine NT x5 13 dc ?_;apply hq';refine o7 λq' hq'=>?_;refine nwo ?_;apply hq';exact⟨4,dc,dc,v6.mk (λ_ _ h=>by rw[htq];exact h) rfl rfl⟩
    | 4,_=>
     refine o7 λq' hq'=>?_;apply hq';refine M6 (by rfl) (λh=>absurd h dc) λ_=>?_;refine o7 (λ_ kz=>kz _ _ ?_);obtain⟨fq,hfq⟩ :∃fq:List e8,fq = [O0 x6 1,O0 (x6+1) 2,O0 (x6+2) 3]:=⟨_,rfl⟩
     refine u6.mkS Nat (λg=>[(1,.bx 1 0),(2,.bx 2 0),(3,.v (iQ k.nm)),(4,.bx 3 0),(11,.v (iQ i)),(12,.bx 7 0),(13,.bx 8 0),(15,.v (iQ g))]) (λg=>[.hp (Hp.whole w),.box b1 [.int .u8 k.nm,.slice a1 n1 c1,.slice a2 n2 c2,.slice a3 n3 c3,.slice a4 n4 c4,.slice a5 n5 c5] 61,.box b2 [zs,zl,zl,zl,zl,zl] 30,.box b4 [sv nm,oP.v,oI.v,zl,zl,zl] 30,.hp HP,.hp oP.h,.hp oI.h,.box b12 [.int .i8 x1,.int .i8 x2,.int .i8 x3,.int .i8 x4,.int .i8 x5,.int .i8 x6] 136,.box b13 (Hv lab pn tq (fq.take g)) 93]) (λg=>g<=3) (λg=>3 - g) 0 (f8 _) (v6.mk (λ_ _ h=>by rw[htq] at h ⊢;exact h) rfl rfl) ?_;rintro j hj _;match j,hj with
     | 0,_=>
      refine o7 λq' hq'=>?_;apply hq';refine M6 (by rfl) (λ_=>?_) (λh=>absurd h dc);refine X9 [.hp (Hp.whole w),.box b1 [.int .u8 k.nm,.slice a1 n1 c1,.slice a2 n2 c2,.slice a3 n3 c3,.slice a4 n4 c4,.slice a5 n5 c5] 61,.box b2 [zs,zl,zl,zl,zl,zl] 30,.box b4 [sv nm,oP.v,oI.v,zl,zl,zl] 30,.hp HP,.hp oP.h,.hp oI.h,.box b12 [.int .i8 x1,.int .i8 x2,.int .i8 x3,.int .i8 x4,.int .i8 x5,.int .i8 x6] 136,.box b13 [sv lab,sv pn,iQ (x2.tmod 13),iQ (x3.tmod 13),iQ (x4.tmod 13),iQ (x5.tmod 13),sv ([]),sv ([]),sv ([])] 93] (by rw[htq,hfq];rfl) ?_;refine o7 λq' hq'=>?_;refine nwo ?_;refine tY (y:=x6) om om om ?_;refine call (λw' hm=>U1 x6 om om w') ?_;rintro _ _ ⟨g1,a1',n1',c1',rfl,rfl,e1⟩;refine tY (y:=1) om om om ?_;refine call (λw' hm=>U1 1 dc dc w') ?_;rintro _ _ ⟨g2,a2',n2',c2',rfl,rfl,e2⟩;refine call (λw' hm=>nV (m:=1) w' (e1.mono (hm 9 _ rfl).whole) (e2.mono (hm 10 _ rfl).whole) dc) ?_;rintro _ _ ⟨g3,p1,q1,r1,p2,q2,r2,rfl,rfl,d1,d2⟩;intro b16;apply hq';refine nQ [.hp (Hp.whole w),.box b1 [.int .u8 k.nm,.slice a1 n1 c1,.slice a2 n2 c2,.slice a3 n3 c3,.slice a4 n4 c4,.slice a5 n5 c5] 61,.box b2 [zs,zl,zl,zl,zl,zl] 30,.box b4 [sv nm,oP.v,oI.v,zl,zl,zl] 30,.hp HP,.hp oP.h,.hp oI.h,.box b12 [.int .i8 x1,.int .i8 x2,.int .i8 x3,.int .i8 x4,.int .i8 x5,.int .i8 x6] 136,.box b13 [sv lab,sv pn,iQ (x2.tmod 13),iQ (x3.tmod 13),iQ (x4.tmod 13),iQ (x5.tmod 13),sv ([]),sv ([]),sv ([])] 93,.hp g1,.hp g2,.hp g3,.box b16 [.bool (decide (x6 < 0)),.slice p1 q1 r1,.bool false,.slice p2 q2 r2] 141] λq' hq'=>?_;refine k7 _ (λw' hm=>gV (z:=x6) (m:=1) w' dc (d1.mono (hm 11 _ rfl).whole) (d2.mono (hm 11 _ rfl).whole) om dc (hP.mono (hm 0 _ rfl).whole)) ?_;apply hq';refine o7 λq' hq'=>?_;refine nwo ?_;apply hq';exact⟨1,dc,dc,v6.mk (λ_ _ h=>by rw[htq,hfq];exact h.pick [0,1,2,3,4,5,6,7,8] rfl rfl) rfl rfl⟩
     | 1,_=>
      refine o7 λq' hq'=>?_;apply hq';refine M6 (by rfl) (λ_=>?_) (λh=>absurd h dc);refine X9 [.hp (Hp.whole w),.box b1 [.int .u8 k.nm,.slice a1 n1 c1,.slice a2 n2 c2,.slice a3 n3 c3,.slice a4 n4 c4,.slice a5 n5 c5] 61,.box b2 [zs,zl,zl,zl,zl,zl] 30,.box b4 [sv nm,oP.v,oI.v,zl,zl,zl] 30,.hp HP,.hp oP.h,.hp oI.h,.box b12 [.int .i8 x1,.int .i8 x2,.int .i8 x3,.int .i8 x4,.int .i8 x5,.int .i8 x6] 136,.box b13 [sv lab,sv pn,iQ (x2.tmod 13),iQ (x3.tmod 13),iQ (x4.tmod 13),iQ (x5.tmod 13),sv (O0 x6 1),sv ([]),sv ([])] 93] (by rw[htq,hfq];rfl) ?_;refine o7 λq' hq'=>?_;refine nwo ?_;refine tY (y:=(x6+1)) om om om ?_;refine call (λw' hm=>U1 (x6+1) om om w') ?_;rintro _ _ ⟨g1,a1',n1',c1',rfl,rfl,e1⟩;refine tY (y:=2) om om om ?_;refine call (λw' hm=>U1 2 dc dc w') ?_;rintro _ _ ⟨g2,a2',n2',c2',rfl,rfl,e2⟩;refine call (λw' hm=>nV (m:=2) w' (e1.mono (hm 9 _ rfl).whole) (e2.mono (hm 10 _ rfl).whole) dc) ?_;rintro _ _ ⟨g3,p1,q1,r1,p2,q2,r2,rfl,rfl,d1,d2⟩;intro b16;apply hq';refine nQ [.hp (Hp.whole w),.box b1 [.int .u8 k.nm,.slice a1 n1 c1,.slice a2 n2 c2,.slice a3 n3 c3,.slice a4 n4 c4,.slice a5 n5 c5] 61,.box b2 [zs,zl,zl,zl,zl,zl] 30,.box b4 [sv nm,oP.v,oI.v,zl,zl,zl] 30,.hp HP,.hp oP.h,.hp oI.h,.box b12 [.int .i8 x1,.int .i8 x2,.int .i8 x3,.int .i8 x4,.int .i8 x5,.int .i8 x6] 136,.box b13 [sv lab,sv pn,iQ (x2.tmod 13),iQ (x3.tmod 13),iQ (x4.tmod 13),iQ (x5.tmod 13),sv (O0 x6 1),sv ([]),sv ([])] 93,.hp g1,.hp g2,.hp g3,.box b16 [.bool (decide ((x6+1) < 0)),.slice p1 q1 r1,.bool false,.slice p2 q2 r2] 141] λq' hq'=>?_;refine k7 _ (λw' hm=>gV (z:=(x6+1)) (m:=2) w' dc (d1.mono (hm 11 _ rfl).whole) (d2.mono (hm 11 _ rfl).whole) om dc (hP.mono (hm 0 _ rfl).whole)) ?_;apply hq';refine o7 λq' hq'=>?_;refine nwo ?_;apply hq';exact⟨2,dc,dc,v6.mk (λ_ _ h=>by rw[htq,hfq];exact h.pick [0,1,2,3,4,5,6,7,8] rfl rfl) rfl rfl⟩
     | 2,_=>
      refine o7 λq' hq'=>?_;apply hq';refine M6 (by rfl) (λ_=>?_) (λh=>absurd h dc);refine X9 [.hp (Hp.whole w),.box b1 [.int .u8 k.nm,.slice a1 n1 c1,.slice a2 n2 c2,.slice a3 n3 c3,.slice a4 n4 c4,.slice a5 n5 c5] 61,.box b2 [zs,zl,zl,zl,zl,zl] 30,.box b4 [sv nm,oP.v,oI.v,zl,zl,zl] 30,.hp HP,.hp oP.h,.hp oI.h,.box b12 [.int .i8 x1,.int .i8 x2,.int .i8 x3,.int .i8 x4,.int .i8 x5,.int .i8 x6] 136,.box b13 [sv lab,sv pn,iQ (x2.tmod 13),iQ (x3.tmod 13),iQ (x4.tmod 13),iQ (x5.tmod 13),sv (O0 x6 1),sv (O0 (x6+1) 2),sv ([])] 93] (by rw[htq,hfq];rfl) ?_;refine o7 λq' hq'=>?_;refine nwo ?_;refine tY (y:=(x6+2)) om om om ?_;refine call (λw' hm=>U1 (x6+2) om om w') ?_;rintro _ _ ⟨g1,a1',n1',c1',rfl,rfl,e1⟩;refine tY (y:=3) om om om ?_;refine call (λw' hm=>U1 3 dc dc w') ?_;rintro _ _ ⟨g2,a2',n2',c2',rfl,rfl,e2⟩;refine call (λw' hm=>nV (m:=3) w' (e1.mono (hm 9 _ rfl).whole) (e2.mono (hm 10 _ rfl).whole) dc) ?_;rintro _ _ ⟨g3,p1,q1,r1,p2,q2,r2,rfl,rfl,d1,d2⟩;intro b16;apply hq';refine nQ [.hp (Hp.whole w),.box b1 [.int .u8 k.nm,.slice a1 n1 c1,.slice a2 n2 c2,.slice a3 n3 c3,.slice a4 n4 c4,.slice a5 n5 c5] 61,.box b2 [zs,zl,zl,zl,zl,zl] 30,.box b4 [sv nm,oP.v,oI.v,zl,zl,zl] 30,.hp HP,.hp oP.h,.hp oI.h,.box b12 [.int .i8 x1,.int .i8 x2,.int .i8 x3,.int .i8 x4,.int .i8 x5,.int .i8 x6] 136,.box b13 [sv lab,sv pn,iQ (x2.tmod 13),iQ (x3.tmod 13),iQ (x4.tmod 13),iQ (x5.tmod 13),sv (O0 x6 1),sv (O0 (x6+1) 2),sv ([])] 93,.hp g1,.hp g2,.hp g3,.box b16 [.bool (decide ((x6+2) < 0)),.slice p1 q1 r1,.bool false,.slice p2 q2 r2] 141] λq' hq'=>?_;refine k7 _ (λw' hm=>gV (z:=(x6+2)) (m:=3) w' dc (d1.mono (hm 11 _ rfl).whole) (d2.mono (hm 11 _ rfl).whole) om dc (hP.mono (hm 0 _ rfl).whole)) ?_;apply hq';refine o7 λq' hq'=>?_;refine nwo ?_;apply hq';exact⟨3,dc,dc,v6.mk (λ_ _ h=>by rw[htq,hfq];exact h.pick [0,1,2,3,4,5,6,7,8] rfl rfl) rfl rfl⟩
     | 3,_=>
      refine o7 λq' hq'=>?_;apply hq';refine M6 (by rfl) (λh=>absurd h dc) λ_=>?_;have eX:fJ k.nm P i (x1,x2,x3,x4,x5,x6)=(lab,pn,(x2.tmod 13,x3.tmod 13,x4.tmod 13,x5.tmod 13),(O0 x6 1,O0 (x6+1) 2,O0 (x6+2) 3)):=by
       rw[hlab,hpn];unfold fJ;rw[i7,i6 hjl];rfl
      refine X9 [.hp (Hp.whole w),.box b1 [.int .u8 k.nm,.slice a1 n1 c1,.slice a2 n2 c2,.slice a3 n3 c3,.slice a4 n4 c4,.slice a5 n5 c5] 61,.box b2 [zs,zl,zl,zl,zl,zl] 30,.box b4 [sv nm,oP.v,oI.v,zl,zl,zl] 30,.hp HP,.hp oP.h,.hp oI.h,.box b12 [.int .i8 x1,.int .i8 x2,.int .i8 x3,.int .i8 x4,.int .i8 x5,.int .i8 x6] 136,.box b13 (dM (fJ k.nm P i (x1,x2,x3,x4,x5,x6))) 93] (by rw[eX,htq,hfq];rfl) ?_;rw[eX];refine o7 λq' hq'=>?_;intro b14;refine gF (f:=dM) cQ (e:=93) rfl (i:=6) rfl hOI (lab,pn,(x2.tmod 13,x3.tmod 13,x4.tmod 13,x5.tmod 13),(O0 x6 1,O0 (x6+1) 2,O0 (x6+2) 3)) (j:=9) rfl rfl rfl rfl (by rw[j8];omega) λo2 hO2=>?_;apply hq';refine o7 λq' hq'=>?_;refine nwo ?_;apply hq';exact⟨(HP,oP,i+1,o2),⟨by dsimp only;omega,hGP,by dsimp only;rw[eStep,eX];exact hO2⟩,by dsimp only;omega,v6.mk (pj [0,1,2,3,4,5,6]) rfl rfl⟩
   focus
    have t3:=of_decide_eq_false t3
  rotate_left
  focus
   apply hq';refine dQ rfl ?_
  all_goals
   have eI:I.take i=I:=by rw[hId];exact HT om
   rw[eI] at hOI;refine o7 (λ_ kz=>kz _ _ ?_);exact u6.mkS (Hp×Dw.Os×Dw.Os×Nat×Dw.Os) (λg=>[(1,.bx 1 0),(2,.bx 2 0),(3,.v (iQ k.nm)),(4,.bx 3 0),(18,.v (iQ g.2.2.2.1))]) (λg=>[.hp (Hp.whole w),.box b1 [.int .u8 k.nm,.slice a1 n1 c1,.slice a2 n2 c2,.slice a3 n3 c3,.slice a4 n4 c4,.slice a5 n5 c5] 61,.box b2 [zs,zl,zl,zl,zl,zl] 30,.box b4 [sv nm,g.2.1.v,g.2.2.1.v,g.2.2.2.2.v,zl,zl] 30,.hp g.1,.hp g.2.1.h,.hp g.2.2.1.h,.hp g.2.2.2.2.h]) (λg=>g.2.2.2.1<=4/\(aT bN 83 3 g.1 g.2.1 P/\w8 dM 93 9 g.2.2.1 I)/\w8 O1 48 4 g.2.2.2.2 (D.take g.2.2.2.1)) (λg=>4 - g.2.2.2.1) (HP,oP,oI,0,Dw.Os.nil) ⟨f8 _,⟨hGP,hOI⟩,by rw[R1];exact w8.nil _ _ _⟩ (v6.mk (λ_ _ h=>h.emp) rfl rfl) hC2.h
 ·apply hq';refine dQ rfl ?_;have eI:I.take i=I:=by rw[hId];exact HT om
  rw[eI] at hOI;refine o7 (λ_ kz=>kz _ _ ?_);exact u6.mkS (Hp×Dw.Os×Dw.Os×Nat×Dw.Os) (λg=>[(1,.bx 1 0),(2,.bx 2 0),(3,.v (iQ k.nm)),(4,.bx 3 0),(18,.v (iQ g.2.2.2.1))]) (λg=>[.hp (Hp.whole w),.box b1 [.int .u8 k.nm,.slice a1 n1 c1,.slice a2 n2 c2,.slice a3 n3 c3,.slice a4 n4 c4,.slice a5 n5 c5] 61,.box b2 [zs,zl,zl,zl,zl,zl] 30,.box b4 [sv nm,g.2.1.v,g.2.2.1.v,g.2.2.2.2.v,zl,zl] 30,.hp g.1,.hp g.2.1.h,.hp g.2.2.1.h,.hp g.2.2.2.2.h]) (λg=>g.2.2.2.1<=4/\(aT bN 83 3 g.1 g.2.1 P/\w8 dM 93 9 g.2.2.1 I)/\w8 O1 48 4 g.2.2.2.2 (D.take g.2.2.2.1)) (λg=>4 - g.2.2.2.1) (HP,oP,oI,0,Dw.Os.nil) ⟨f8 _,⟨hGP,hOI⟩,by rw[R1];exact w8.nil _ _ _⟩ (v6.mk (λ_ _ h=>h.emp) rfl rfl) hC2.h
 apply DW;intro hC3;rintro⟨HP,oP,oI,i,oD⟩ ⟨hi,hGI,hOD⟩ hsat;dsimp only at hi hGI hOD ⊢;refine o7 λq' hq'=>?_;refine d8 (λt1=>?_) λt1=>?_
 ·apply hq';refine M6 (by rfl) (λt2=>?_) λt2=>?_
  ·have t2:=of_decide_eq_true t2;have hil:i < k.dims.length:=om
   obtain⟨x,hx⟩ :∃x,x=k.dims[i]'hil:=⟨_,rfl⟩
   have gx:=g.d x (by rw[hx];exact j0 hil);have eStep:D.take (i+1)=D.take i++[lN k.nm i x]:=by rw[hDd,hx];exact kZ _ om hil
   obtain⟨x1,x2,x3⟩:=x;obtain⟨gx1,gx2,gx3⟩:=gx;dsimp only[i8] at gx1 gx2 gx3;refine nQ [.hp (Hp.whole w),.box b1 [.int .u8 k.nm,.slice a1 n1 c1,.slice a2 n2 c2,.slice a3 n3 c3,.slice a4 n4 c4,.slice a5 n5 c5] 61,.box b2 [zs,zl,zl,zl,zl,zl] 30,.box b4 [sv nm,oP.v,oI.v,oD.v,zl,zl] 30,.hp HP,.hp oP.h,.hp oI.h,.hp oD.h] λq' hq'=>?_;refine I1 cQ (e:=146) rfl h3 i rfl hil λb9 o9 cs hcs hR hcell=>?_;rw[<-hx] at hR;subst hR;refine T7 cQ (i:=0) rfl hcell rfl ?_;intro b19;apply hq';clear hcell;obtain⟨lab,hlab⟩ :∃y,y=gJ 100 i (k.nm / 8):=⟨_,rfl⟩
   have eX:lN k.nm i (x1,x2,x3)=(lab,x1*1000,min x2 x3,max x2 x3):=by rw[hlab];rfl
   rw[eX] at eStep;refine s6.cut Dw.Os (λ_=>[(1,.bx 1 0),(2,.bx 2 0),(3,.v (iQ k.nm)),(4,.bx 3 0),(18,.v (iQ i))]) (λg=>[.hp (Hp.whole w),.box b1 [.int .u8 k.nm,.slice a1 n1 c1,.slice a2 n2 c2,.slice a3 n3 c3,.slice a4 n4 c4,.slice a5 n5 c5] 61,.box b2 [zs,zl,zl,zl,zl,zl] 30,.box b4 [sv nm,oP.v,oI.v,g.v,zl,zl] 30,.hp HP,.hp oP.h,.hp oI.h,.hp g.h]) (λg=>w8 O1 48 4 g (D.take i++[(lab,x1*1000,min x2 x3,max x2 x3)])) (s6.by_order0 (s0:=[.hp (Hp.whole w),.box b1 [.int .u8 k.nm,.slice a1 n1 c1,.slice a2 n2 c2,.slice a3 n3 c3,.slice a4 n4 c4,.slice a5 n5 c5] 61,.box b2 [zs,zl,zl,zl,zl,zl] 30,.box b4 [sv nm,oP.v,oI.v,oD.v,zl,zl] 30,.hp HP,.hp oP.h,.hp oI.h,.hp Hp.emp,.box b19 [.int .i8 x1,.int .i8 x2,.int .i8 x3] 146]) cQ (.take 0 <| .take 1 <| .take 2 <| .take 3 <| .take 4 <| .take 6 <| .take 7 <| .take 8 <| .take 9 <| .take 10 <| .take 11 <| .take 12 <| .take 13 <| .take 14 <| .take 15 <| .take 17 <| .take 18 <| .take 19 <| .take 20 <| .take 21 <| .take 22 <| .three 5 (.two 16 (.run 23 <| .take 24 <| .run 25 <| .run 26 <| .run 27 <| .run 28 <| .done) 23 (.run 16 <| .take 24 <| .run 25 <| .run 26 <| .run 27 <| .run 28 <| .done)) 16 (.two 5 (.run 23 <| .take 24 <| .run 25 <| .run 26 <| .run 27 <| .run 28 <| .done) 23 (.run 5 <| .take 24 <| .run 25 <| .run 26 <| .run 27 <| .run 28 <| .done)) 23 (.two 5 (.run 16 <| .take 24 <| .run 25 <| .run 26 <| .run 27 <| .run 28 <| .done) 16 (.run 5 <| .take 24 <| .run 25 <| .run 26 <| .run 27 <| .run 28 <| .done))) kr (sK) ?_) ?_
   ·refine CF k.nm 3 rfl dc ?_;(iterate 6 refine nwo ?_);refine⟨?_,?_,?_⟩
    ·refine k7 _ (λw' hm=>Q3 100 i (k.nm / 2 ^ 3) om (s7 (D7 _ _) hnm) w') ?_;rw[show k.nm / 2 ^ 3=k.nm / 8 from rfl,<-hlab];refine⟨sK,?_⟩;refine⟨?_,?_⟩;focus
      refine yL ?_;refine⟨sK,?_⟩;refine GQ ?_
     rotate_left
     focus
      refine GQ ?_;refine⟨sK,?_⟩;refine yL ?_
     all_goals
      refine⟨sK,?_⟩;intro b25;refine⟨sK,?_⟩;refine gF (f:=O1) cQ (e:=48) rfl (i:=7) rfl hOD (lab,x1*1000,min x2 x3,max x2 x3) (j:=9) rfl rfl rfl rfl (by rw[j8];omega) λo2 hO2=>?_;refine⟨sK,?_⟩;exact⟨o2,hO2,v6.mk (pj [0,1,2,3,4,5,6,7]) rfl rfl⟩
    ·refine yL ?_;refine⟨sK,?_⟩;refine⟨?_,?_⟩;focus
      refine k7 _ (λw' hm=>Q3 100 i (k.nm / 2 ^ 3) om (s7 (D7 _ _) hnm) w') ?_;rw[show k.nm / 2 ^ 3=k.nm / 8 from rfl,<-hlab];refine⟨sK,?_⟩;refine GQ ?_
     rotate_left
     focus
      refine GQ ?_;refine⟨sK,?_⟩;refine k7 _ (λw' hm=>Q3 100 i (k.nm / 2 ^ 3) om (s7 (D7 _ _) hnm) w') ?_;rw[show k.nm / 2 ^ 3=k.nm / 8 from rfl,<-hlab]
     all_goals
      refine⟨sK,?_⟩;intro b25;refine⟨sK,?_⟩;refine gF (f:=O1) cQ (e:=48) rfl (i:=7) rfl hOD (lab,x1*1000,min x2 x3,max x2 x3) (j:=9) rfl rfl rfl rfl (by rw[j8];omega) λo2 hO2=>?_;refine⟨sK,?_⟩;exact⟨o2,hO2,v6.mk (pj [0,1,2,3,4,5,6,7]) rfl rfl⟩
    ·refine GQ ?_;refine⟨sK,?_⟩;refine⟨?_,?_⟩;focus
      refine k7 _ (λw' hm=>Q3 100 i (k.nm / 2 ^ 3) om (s7 (D7 _ _) hnm) w') ?_;rw[show k.nm / 2 ^ 3=k.nm / 8 from rfl,<-hlab];refine⟨sK,?_⟩;refine yL ?_
     rotate_left
     focus
      refine yL ?_;refine⟨sK,?_⟩;refine k7 _ (λw' hm=>Q3 100 i (k.nm / 2 ^ 3) om (s7 (D7 _ _) hnm) w') ?_;rw[show k.nm / 2 ^ 3=k.nm / 8 from rfl,<-hlab]
     all_goals
      refine⟨sK,?_⟩;intro b25;refine⟨sK,?_⟩;refine gF (f:=O1) cQ (e:=48) rfl (i:=7) rfl hOD (lab,x1*1000,min x2 x3,max x2 x3) (j:=9) rfl rfl rfl rfl (by rw[j8];omega) λo2 hO2=>?_;refine⟨sK,?_⟩;exact⟨o2,hO2,v6.mk (pj [0,1,2,3,4,5,6,7]) rfl rfl⟩
   intro o2 hO2 _;dsimp only;refine o7 λq' hq'=>?_;refine nwo ?_;apply hq';exact⟨(HP,oP,oI,i+1,o2),⟨by dsimp only;omega,hGI,by dsimp only;rw[eStep];exact hO2⟩,by dsimp only;omega,v6.mk (λ_ _ h=>h) rfl rfl⟩
  ·have t2:=of_decide_eq_false t2;have eD:D.take i=D:=by rw[hDd];exact gO _ om
   rw[eD] at hOD;refine o7 (λ_ kz=>kz _ _ ?_);exact u6.mkS (Hp×Dw.Os×Dw.Os×Dw.Os×Nat×Hp×Dw.Os) (λg=>[(1,.bx 1 0),(2,.bx 2 0),(3,.v (iQ k.nm)),(4,.bx 3 0),(20,.v (iQ g.2.2.2.2.1))]) (λg=>[.hp (Hp.whole w),.box b1 [.int .u8 k.nm,.slice a1 n1 c1,.slice a2 n2 c2,.slice a3 n3 c3,.slice a4 n4 c4,.slice a5 n5 c5] 61,.box b2 [zs,zl,zl,zl,zl,zl] 30,.box b4 [sv nm,g.2.1.v,g.2.2.1.v,g.2.2.2.1.v,g.2.2.2.2.2.2.v,zl] 30,.hp g.1,.hp g.2.1.h,.hp g.2.2.1.h,.hp g.2.2.2.1.h,.hp g.2.2.2.2.2.1,.hp g.2.2.2.2.2.2.h]) (λg=>g.2.2.2.2.1<=2/\(aT bN 83 3 g.1 g.2.1 P/\w8 dM 93 9 g.2.2.1 I/\w8 O1 48 4 g.2.2.2.1 D)/\aT kM 96 3 g.2.2.2.2.2.1 g.2.2.2.2.2.2 (C.take g.2.2.2.2.1)) (λg=>2 - g.2.2.2.2.1) (HP,oP,oI,oD,0,Hp.emp,Dw.Os.nil) ⟨f8 _,⟨hGI.1,hGI.2,hOD⟩,by rw[R1];exact aT.nil⟩ (v6.mk (λ_ _ h=>h.emp.emp) rfl rfl) hC3.h
 ·apply hq';refine dQ rfl ?_;have eD:D.take i=D:=by rw[hDd];exact gO _ om
  rw[eD] at hOD;refine o7 (λ_ kz=>kz _ _ ?_);exact u6.mkS (Hp×Dw.Os×Dw.Os×Dw.Os×Nat×Hp×Dw.Os) (λg=>[(1,.bx 1 0),(2,.bx 2 0),(3,.v (iQ k.nm)),(4,.bx 3 0),(20,.v (iQ g.2.2.2.2.1))]) (λg=>[.hp (Hp.whole w),.box b1 [.int .u8 k.nm,.slice a1 n1 c1,.slice a2 n2 c2,.slice a3 n3 c3,.slice a4 n4 c4,.slice a5 n5 c5] 61,.box b2 [zs,zl,zl,zl,zl,zl] 30,.box b4 [sv nm,g.2.1.v,g.2.2.1.v,g.2.2.2.1.v,g.2.2.2.2.2.2.v,zl] 30,.hp g.1,.hp g.2.1.h,.hp g.2.2.1.h,.hp g.2.2.2.1.h,.hp g.2.2.2.2.2.1,.hp g.2.2.2.2.2.2.h]) (λg=>g.2.2.2.2.1<=2/\(aT bN 83 3 g.1 g.2.1 P/\w8 dM 93 9 g.2.2.1 I/\w8 O1 48 4 g.2.2.2.1 D)/\aT kM 96 3 g.2.2.2.2.2.1 g.2.2.2.2.2.2 (C.take g.2.2.2.2.1)) (λg=>2 - g.2.2.2.2.1) (HP,oP,oI,oD,0,Hp.emp,Dw.Os.nil) ⟨f8 _,⟨hGI.1,hGI.2,hOD⟩,by rw[R1];exact aT.nil⟩ (v6.mk (λ_ _ h=>h.emp.emp) rfl rfl) hC3.h
 apply DW;intro hC4;rintro⟨HP,oP,oI,oD,i,HC,oC⟩ ⟨hi,hGI,hGC⟩ hsat;dsimp only at hi hGI hGC ⊢;have hDn:=hGI.2.2.len;refine o7 λq' hq'=>?_;refine d8 (λt1=>?_) λt1=>?_
 ·apply hq';refine M6 (by rfl) (λt2=>?_) λt2=>?_
  ·have t2:=of_decide_eq_true t2;have hil:i < k.cons.length:=om
   obtain⟨x,hx⟩ :∃x,x=k.cons[i]'hil:=⟨_,rfl⟩
   have gx:=g.c x (by rw[hx];exact j0 hil);have eStep:C.take (i+1)=C.take i++[rB k.nm D.length i x]:=by rw[hCd,hx];exact kZ _ om hil
   have gx':x.1.natAbs < 1000/\x.2.1.natAbs < 1000/\x.2.2.1.natAbs < 1000/\x.2.2.2.natAbs < 1000:=by
    obtain⟨x1,x2,x3,x4⟩:=x;obtain⟨gx1,gx2,gx3,gx4⟩:=gx;dsimp only[i8] at gx1 gx2 gx3 gx4 ⊢;omega
   obtain⟨lab,hlab⟩ :∃y,y=gJ 99 i (k.nm / 16):=⟨_,rfl⟩
   obtain⟨F,hF⟩ :∃F,F=dJ D.length x:=⟨_,rfl⟩
   have eX:rB k.nm D.length i x=(lab,F):=by rw[hlab,hF];rfl
   rw[eX] at eStep;have hLin:=λ(w':World) (hm:(Hp.whole w).In w')=>mH D.length x om gx' w' (hP.mono hm.whole);rw[<-hF] at hLin;rw[show ((D.length:Nat):Int)=(oD.n:Int) by omega] at hLin;refine s6.cut (Hp×Dw.Os) (λ_=>[(1,.bx 1 0),(2,.bx 2 0),(3,.v (iQ k.nm)),(4,.bx 3 0),(20,.v (iQ i))]) (λg=>[.hp (Hp.whole w),.box b1 [.int .u8 k.nm,.slice a1 n1 c1,.slice a2 n2 c2,.slice a3 n3 c3,.slice a4 n4 c4,.slice a5 n5 c5] 61,.box b2 [zs,zl,zl,zl,zl,zl] 30,.box b4 [sv nm,oP.v,oI.v,oD.v,g.2.v,zl] 30,.hp HP,.hp oP.h,.hp oI.h,.hp oD.h,.hp g.1,.hp g.2.h]) (λg=>aT kM 96 3 g.1 g.2 (C.take i++[(lab,F)])) (s6.by_order0 (s0:=[.hp (Hp.whole w),.box b1 [.int .u8 k.nm,.slice a1 n1 c1,.slice a2 n2 c2,.slice a3 n3 c3,.slice a4 n4 c4,.slice a5 n5 c5] 61,.box b2 [zs,zl,zl,zl,zl,zl] 30,.box b4 [sv nm,oP.v,oI.v,oD.v,oC.v,zl] 30,.hp HP,.hp oP.h,.hp oI.h,.hp oD.h,.hp HC,.hp Hp.emp]) cQ (.take 0 <| .take 1 <| .take 2 <| .take 3 <| .take 4 <| .take 6 <| .take 7 <| .take 8 <| .take 9 <| .take 10 <| .take 11 <| .take 12 <| .take 13 <| .run 5 <| .run 14 <| .take 15 <| .run 16 <| .run 17 <| .run 18 <| .run 19 <| .done) kr (sK) ?_) ?_
   ·refine CF k.nm 4 rfl dc ?_;refine I1 cQ (e:=148) rfl h4 i rfl hil λb9 o9 cs hcs hR hcell=>?_;rw[<-hx] at hR;subst hR;refine T7 cQ (i:=0) rfl hcell rfl ?_;refine k7 _ (λw' hm=>Q3 99 i (k.nm / 2 ^ 4) om (s7 (D7 _ _) hnm) w') ?_;rw[show k.nm / 2 ^ 4=k.nm / 16 from rfl,<-hlab];refine⟨sK,?_⟩;refine call (λw' hm=>hLin w' (hm 0 _ rfl)) ?_;rintro _ _ ⟨oF,rfl,rfl,hOF⟩;refine⟨sK,?_⟩;intro b25;refine⟨sK,?_⟩;refine oL (R:=kM) (o:=oC) (L:=C.take i) (H:=HC.join oF.h) cQ (e:=96) rfl (i:=9) rfl (λ_=>hGC.mono S5 (Hp.le_join_l _ _)) (lab,F) [sv lab,sv F.1,oF.v] (j:=11) rfl rfl rfl rfl (by rw[j8];omega) (λhs=>?_) λo2 _ hG2=>?_
    ·obtain⟨w0,w',hok⟩:=hs;exact⟨oF.a,oF.n,oF.c,rfl,(w8.sl (f:=U0) (sz:=2) (λ_=>rfl) dc hOF).mono (j7 _) (Hp.le_join_r (hok.disj 8 10 _ _ dc rfl rfl))⟩
    refine⟨sK,?_⟩;exact⟨(HC.join oF.h,o2),hG2,v6.mk (λ_ _ h=>(Ok.join (h.pick [0,8,10,1,2,3,4,5,6,7,9] rfl rfl)).pick [0,2,3,4,5,6,7,8,1,9] rfl rfl) rfl rfl⟩
   rintro⟨H9,o9⟩ hG9 _;dsimp only at hG9 ⊢;refine o7 λq' hq'=>?_;refine nwo ?_;apply hq';exact⟨(HP,oP,oI,oD,i+1,H9,o9),⟨by dsimp only;omega,hGI,by dsimp only;rw[eStep];exact hG9⟩,by dsimp only;omega,v6.mk (λ_ _ h=>h) rfl rfl⟩
  ·have t2:=of_decide_eq_false t2;have eC:C.take i=C:=by rw[hCd];exact gO _ om
   rw[eC] at hGC;refine o7 (λ_ kz=>kz _ _ ?_);exact u6.mkS (Hp×Dw.Os×Dw.Os×Dw.Os×Hp×Dw.Os×Nat×Hp×Dw.Os) (λg=>[(1,.bx 1 0),(2,.bx 2 0),(3,.v (iQ k.nm)),(4,.bx 3 0),(21,.v (iQ g.2.2.2.2.2.2.1))]) (λg=>[.hp (Hp.whole w),.box b1 [.int .u8 k.nm,.slice a1 n1 c1,.slice a2 n2 c2,.slice a3 n3 c3,.slice a4 n4 c4,.slice a5 n5 c5] 61,.box b2 [zs,zl,zl,zl,zl,zl] 30,.box b4 [sv nm,g.2.1.v,g.2.2.1.v,g.2.2.2.1.v,g.2.2.2.2.2.1.v,g.2.2.2.2.2.2.2.2.v] 30,.hp g.1,.hp g.2.1.h,.hp g.2.2.1.h,.hp g.2.2.2.1.h,.hp g.2.2.2.2.1,.hp g.2.2.2.2.2.1.h,.hp g.2.2.2.2.2.2.2.1,.hp g.2.2.2.2.2.2.2.2.h]) (λg=>g.2.2.2.2.2.2.1<=2/\(aT bN 83 3 g.1 g.2.1 P/\w8 dM 93 9 g.2.2.1 I/\w8 O1 48 4 g.2.2.2.1 D/\aT kM 96 3 g.2.2.2.2.1 g.2.2.2.2.2.1 C)/\aT (jJ 4) 74 8 g.2.2.2.2.2.2.2.1 g.2.2.2.2.2.2.2.2 (R.take g.2.2.2.2.2.2.1)) (λg=>2 - g.2.2.2.2.2.2.1) (HP,oP,oI,oD,HC,oC,0,Hp.emp,Dw.Os.nil) ⟨f8 _,⟨hGI.1,hGI.2.1,hGI.2.2,hGC⟩,by rw[R1];exact aT.nil⟩ (v6.mk (λ_ _ h=>h.emp.emp) rfl rfl) hC4.h
 ·apply hq';refine dQ rfl ?_;have eC:C.take i=C:=by rw[hCd];exact gO _ om
  rw[eC] at hGC;refine o7 (λ_ kz=>kz _ _ ?_);exact u6.mkS (Hp×Dw.Os×Dw.Os×Dw.Os×Hp×Dw.Os×Nat×Hp×Dw.Os) (λg=>[(1,.bx 1 0),(2,.bx 2 0),(3,.v (iQ k.nm)),(4,.bx 3 0),(21,.v (iQ g.2.2.2.2.2.2.1))]) (λg=>[.hp (Hp.whole w),.box b1 [.int .u8 k.nm,.slice a1 n1 c1,.slice a2 n2 c2,.slice a3 n3 c3,.slice a4 n4 c4,.slice a5 n5 c5] 61,.box b2 [zs,zl,zl,zl,zl,zl] 30,.box b4 [sv nm,g.2.1.v,g.2.2.1.v,g.2.2.2.1.v,g.2.2.2.2.2.1.v,g.2.2.2.2.2.2.2.2.v] 30,.hp g.1,.hp g.2.1.h,.hp g.2.2.1.h,.hp g.2.2.2.1.h,.hp g.2.2.2.2.1,.hp g.2.2.2.2.2.1.h,.hp g.2.2.2.2.2.2.2.1,.hp g.2.2.2.2.2.2.2.2.h]) (λg=>g.2.2.2.2.2.2.1<=2/\(aT bN 83 3 g.1 g.2.1 P/\w8 dM 93 9 g.2.2.1 I/\w8 O1 48 4 g.2.2.2.1 D/\aT kM 96 3 g.2.2.2.2.1 g.2.2.2.2.2.1 C)/\aT (jJ 4) 74 8 g.2.2.2.2.2.2.2.1 g.2.2.2.2.2.2.2.2 (R.take g.2.2.2.2.2.2.1)) (λg=>2 - g.2.2.2.2.2.2.1) (HP,oP,oI,oD,HC,oC,0,Hp.emp,Dw.Os.nil) ⟨f8 _,⟨hGI.1,hGI.2.1,hGI.2.2,hGC⟩,by rw[R1];exact aT.nil⟩ (v6.mk (λ_ _ h=>h.emp.emp) rfl rfl) hC4.h
 rintro⟨HP,oP,oI,oD,HC,oC,i,HR,oR⟩ ⟨hi,hGI,hGR⟩ hsat;dsimp only at hi hGI hGR ⊢;have hDn:=hGI.2.2.1.len;refine o7 λq' hq'=>?_;refine d8 (λt1=>?_) λt1=>?_;focus
  apply hq';refine M6 (by rfl) (λt2=>?_) λt2=>?_
  ·have t2:=of_decide_eq_true t2;have hil:i < k.gaps.length:=om
   obtain⟨x,hx⟩ :∃x,x=k.gaps[i]'hil:=⟨_,rfl⟩
   have gx:=g.g x (by rw[hx];exact j0 hil);have eStep:R.take (i+1)=R.take i++[kD k.nm D.length i x]:=by rw[hRd,hx];exact kZ _ om hil
   obtain⟨lab,hlab⟩ :∃y,y=gJ 114 i (k.nm / 32):=⟨_,rfl⟩
   have eX:kD k.nm D.length i x=(lab,(aE D.length 3 x).1,if x.length % 2=0 then [45,55,47,50] else [],if x.length % 3=0 then [49,49] else []):=by rw[hlab];rfl
   rw[eX] at eStep;clear eX;refine nQ [.hp (Hp.whole w),.box b1 [.int .u8 k.nm,.slice a1 n1 c1,.slice a2 n2 c2,.slice a3 n3 c3,.slice a4 n4 c4,.slice a5 n5 c5] 61,.box b2 [zs,zl,zl,zl,zl,zl] 30,.box b4 [sv nm,oP.v,oI.v,oD.v,oC.v,oR.v] 30,.hp HP,.hp oP.h,.hp oI.h,.hp oD.h,.hp HC,.hp oC.h,.hp HR,.hp oR.h] λq' hq'=>?_;refine I1 cQ (e:=68) rfl h5 i rfl hil λb9 o9 cs hcs hR hcell=>?_;rw[<-hx] at hR;obtain⟨ax,nx,cx',rfl,hSx⟩:=hR;refine lQ 0 (hcell 0 _ rfl) ?_;have hnx:=hSx.len;apply hq';clear hcell;refine o7 λq' hq'=>?_;refine CF k.nm 5 rfl dc ?_;refine k7 _ (λw' hm=>Q3 114 i (k.nm / 2 ^ 5) om (s7 (D7 _ _) hnm) w') ?_;rw[show k.nm / 2 ^ 5=k.nm / 32 from rfl,<-hlab];intro b23;apply hq';refine nQ [.hp (Hp.whole w),.box b1 [.int .u8 k.nm,.slice a1 n1 c1,.slice a2 n2 c2,.slice a3 n3 c3,.slice a4 n4 c4,.slice a5 n5 c5] 61,.box b2 [zs,zl,zl,zl,zl,zl] 30,.box b4 [sv nm,oP.v,oI.v,oD.v,oC.v,oR.v] 30,.hp HP,.hp oP.h,.hp oI.h,.hp oD.h,.hp HC,.hp oC.h,.hp HR,.hp oR.h,.box b23 [sv lab,iQ 0,zs,zl,zs,zl,zs,zs] 74] λq' hq'=>?_;refine call (λw' hm=>kH 3 dc oD.n x ax nx cx' 1 (Hp.whole w) w' (hm 0 _ rfl) om dc gx hSx (hP.mono (hm 0 _ rfl).whole)) ?_;rintro _ _ ⟨H9,xs,a7,m7,c7,rfl,rfl,hx5,hE,hS7⟩;rw[show oD.n=D.length by omega] at hE hS7;obtain⟨X,hX⟩ :∃X,X=(aE D.length 3 x).1:=⟨_,rfl⟩
   rw[<-hX] at hE eStep;have hE2:=hE;obtain⟨Y,hY⟩ :∃Y,Y=X:=⟨_,rfl⟩
   rw[<-hY] at hE2;obtain⟨op9,f9,fac9,args9⟩:=Y;obtain⟨a9,n9,c9,a8,n8,c8,rfl,_,_⟩:=hE2;apply hq';refine nQ [.hp (Hp.whole w),.box b1 [.int .u8 k.nm,.slice a1 n1 c1,.slice a2 n2 c2,.slice a3 n3 c3,.slice a4 n4 c4,.slice a5 n5 c5] 61,.box b2 [zs,zl,zl,zl,zl,zl] 30,.box b4 [sv nm,oP.v,oI.v,oD.v,oC.v,oR.v] 30,.hp HP,.hp oP.h,.hp oI.h,.hp oD.h,.hp HC,.hp oC.h,.hp HR,.hp oR.h,.box b23 [sv lab,iQ op9,sv f9.1,.slice a9 n9 c9,sv fac9,.slice a8 n8 c8,zs,zs] 74,.hp H9] λq' hq'=>?_;refine gR nx 2 (nx % 2) rfl rfl dc rfl ?_;apply hq';refine M6 (by rfl) (λe2=>?_) λe2=>?_
   ·have e2:=of_decide_eq_true e2;rw[if_pos (show x.length % 2=0 by omega)] at eStep;refine o7 λq' hq'=>?_;apply hq';refine o7 λq' hq'=>?_;refine gR nx 3 (nx % 3) rfl rfl dc rfl ?_;apply hq';refine M6 (by rfl) (λe3=>?_) λe3=>?_;focus
     have e3:=of_decide_eq_true e3;rw[if_pos (show x.length % 3=0 by omega)] at eStep;refine o7 λq' hq'=>?_;apply hq';refine nQ [.hp (Hp.whole w),.box b1 [.int .u8 k.nm,.slice a1 n1 c1,.slice a2 n2 c2,.slice a3 n3 c3,.slice a4 n4 c4,.slice a5 n5 c5] 61,.box b2 [zs,zl,zl,zl,zl,zl] 30,.box b4 [sv nm,oP.v,oI.v,oD.v,oC.v,oR.v] 30,.hp HP,.hp oP.h,.hp oI.h,.hp oD.h,.hp HC,.hp oC.h,.hp HR,.hp oR.h,.box b23 [sv lab,iQ op9,sv f9.1,.slice a9 n9 c9,sv fac9,.slice a8 n8 c8,sv [45,55,47,50],sv [49,49]] 74,.hp H9] λq' hq'=>?_;intro b24;refine oL (R:=jJ 4) (o:=oR) (L:=R.take i) (H:=HR.join H9) cQ (e:=74) rfl (i:=11) rfl (λ_=>hGR.mono (M8 4) (Hp.le_join_l _ _)) (lab,X,[45,55,47,50],[49,49]) [sv lab,iQ op9,sv f9.1,.slice a9 n9 c9,sv fac9,.slice a8 n8 c8,sv [45,55,47,50],sv [49,49]] (j:=14) rfl rfl rfl rfl (by rw[j8];omega) (λhs=>?_) λo2 _ hG2=>?_
     ·obtain⟨w0,w',hok⟩:=hs;exact⟨[iQ op9,sv f9.1,.slice a9 n9 c9,sv fac9,.slice a8 n8 c8],rfl,q7 _ _ _ _ _ (Hp.le_join_r (hok.disj 10 13 _ _ dc rfl rfl)) hE⟩
    rotate_left
    focus
     have e3:=of_decide_eq_false e3;rw[if_neg (show ¬ x.length % 3=0 by omega)] at eStep;refine nQ [.hp (Hp.whole w),.box b1 [.int .u8 k.nm,.slice a1 n1 c1,.slice a2 n2 c2,.slice a3 n3 c3,.slice a4 n4 c4,.slice a5 n5 c5] 61,.box b2 [zs,zl,zl,zl,zl,zl] 30,.box b4 [sv nm,oP.v,oI.v,oD.v,oC.v,oR.v] 30,.hp HP,.hp oP.h,.hp oI.h,.hp oD.h,.hp HC,.hp oC.h,.hp HR,.hp oR.h,.box b23 [sv lab,iQ op9,sv f9.1,.slice a9 n9 c9,sv fac9,.slice a8 n8 c8,sv [45,55,47,50],zs] 74,.hp H9] λq' hq'=>?_;intro b24;refine oL (R:=jJ 4) (o:=oR) (L:=R.take i) (H:=HR.join H9) cQ (e:=74) rfl (i:=11) rfl (λ_=>hGR.mono (M8 4) (Hp.le_join_l _ _)) (lab,X,[45,55,47,50],[]) [sv lab,iQ op9,sv f9.1,.slice a9 n9 c9,sv fac9,.slice a8 n8 c8,sv [45,55,47,50],zs] (j:=14) rfl rfl rfl rfl (by rw[j8];omega) (λhs=>?_) λo2 _ hG2=>?_
     ·obtain⟨w0,w',hok⟩:=hs;exact⟨[iQ op9,sv f9.1,.slice a9 n9 c9,sv fac9,.slice a8 n8 c8],rfl,q7 _ _ _ _ _ (Hp.le_join_r (hok.disj 10 13 _ _ dc rfl rfl)) hE⟩
    all_goals
     apply hq';refine o7 λq' hq'=>?_;refine nwo ?_;apply hq';exact⟨(HP,oP,oI,oD,HC,oC,i+1,HR.join H9,o2),⟨by dsimp only;omega,hGI,by dsimp only;rw[eStep];exact hG2⟩,by dsimp only;omega,v6.mk (λ_ _ h=>(Ok.join (h.pick [0,10,13,1,2,3,4,5,6,7,8,9,11] rfl rfl)).pick [0,2,3,4,5,6,7,8,9,10,1,11] rfl rfl) rfl rfl⟩
   ·have e2:=of_decide_eq_false e2;rw[if_neg (show ¬ x.length % 2=0 by omega)] at eStep;refine o7 λq' hq'=>?_;refine gR nx 3 (nx % 3) rfl rfl dc rfl ?_;apply hq';refine M6 (by rfl) (λe3=>?_) λe3=>?_;focus
     have e3:=of_decide_eq_true e3;rw[if_pos (show x.length % 3=0 by omega)] at eStep;refine o7 λq' hq'=>?_;apply hq';refine nQ [.hp (Hp.whole w),.box b1 [.int .u8 k.nm,.slice a1 n1 c1,.slice a2 n2 c2,.slice a3 n3 c3,.slice a4 n4 c4,.slice a5 n5 c5] 61,.box b2 [zs,zl,zl,zl,zl,zl] 30,.box b4 [sv nm,oP.v,oI.v,oD.v,oC.v,oR.v] 30,.hp HP,.hp oP.h,.hp oI.h,.hp oD.h,.hp HC,.hp oC.h,.hp HR,.hp oR.h,.box b23 [sv lab,iQ op9,sv f9.1,.slice a9 n9 c9,sv fac9,.slice a8 n8 c8,zs,sv [49,49]] 74,.hp H9] λq' hq'=>?_;intro b24;refine oL (R:=jJ 4) (o:=oR) (L:=R.take i) (H:=HR.join H9) cQ (e:=74) rfl (i:=11) rfl (λ_=>hGR.mono (M8 4) (Hp.le_join_l _ _)) (lab,X,[],[49,49]) [sv lab,iQ op9,sv f9.1,.slice a9 n9 c9,sv fac9,.slice a8 n8 c8,zs,sv [49,49]] (j:=14) rfl rfl rfl rfl (by rw[j8];omega) (λhs=>?_) λo2 _ hG2=>?_
     ·obtain⟨w0,w',hok⟩:=hs;exact⟨[iQ op9,sv f9.1,.slice a9 n9 c9,sv fac9,.slice a8 n8 c8],rfl,q7 _ _ _ _ _ (Hp.le_join_r (hok.disj 10 13 _ _ dc rfl rfl)) hE⟩
    rotate_left
    focus
     have e3:=of_decide_eq_false e3;rw[if_neg (show ¬ x.length % 3=0 by omega)] at eStep;refine nQ [.hp (Hp.whole w),.box b1 [.int .u8 k.nm,.slice a1 n1 c1,.slice a2 n2 c2,.slice a3 n3 c3,.slice a4 n4 c4,.slice a5 n5 c5] 61,.box b2 [zs,zl,zl,zl,zl,zl] 30,.box b4 [sv nm,oP.v,oI.v,oD.v,oC.v,oR.v] 30,.hp HP,.hp oP.h,.hp oI.h,.hp oD.h,.hp HC,.hp oC.h,.hp HR,.hp oR.h,.box b23 [sv lab,iQ op9,sv f9.1,.slice a9 n9 c9,sv fac9,.slice a8 n8 c8,zs,zs] 74,.hp H9] λq' hq'=>?_;intro b24;refine oL (R:=jJ 4) (o:=oR) (L:=R.take i) (H:=HR.join H9) cQ (e:=74) rfl (i:=11) rfl (λ_=>hGR.mono (M8 4) (Hp.le_join_l _ _)) (lab,X,[],[]) [sv lab,iQ op9,sv f9.1,.slice a9 n9 c9,sv fac9,.slice a8 n8 c8,zs,zs] (j:=14) rfl rfl rfl rfl (by rw[j8];omega) (λhs=>?_) λo2 _ hG2=>?_
     ·obtain⟨w0,w',hok⟩:=hs;exact⟨[iQ op9,sv f9.1,.slice a9 n9 c9,sv fac9,.slice a8 n8 c8],rfl,q7 _ _ _ _ _ (Hp.le_join_r (hok.disj 10 13 _ _ dc rfl rfl)) hE⟩
    all_goals
     apply hq';refine o7 λq' hq'=>?_;refine nwo ?_;apply hq';exact⟨(HP,oP,oI,oD,HC,oC,i+1,HR.join H9,o2),⟨by dsimp only;omega,hGI,by dsimp only;rw[eStep];exact hG2⟩,by dsimp only;omega,v6.mk (λ_ _ h=>(Ok.join (h.pick [0,10,13,1,2,3,4,5,6,7,8,9,11] rfl rfl)).pick [0,2,3,4,5,6,7,8,9,10,1,11] rfl rfl) rfl rfl⟩
  focus
   have t2:=of_decide_eq_false t2
 rotate_left
 focus
  apply hq';refine dQ rfl ?_
 all_goals
  have eR:R.take i=R:=by rw[hRd];exact gO _ om
  rw[eR] at hGR;obtain⟨hGP,hOI,hOD,hGC⟩:=hGI;have hdl:PC [.hp HP,.hp oP.h,.hp oI.h,.hp oD.h,.hp HC,.hp oC.h,.hp HR,.hp oR.h]:=by
   obtain⟨w0,w1,hok⟩:=hsat;exact (hok.pick [0,4,5,6,7,8,9,10,11] rfl rfl).djL
  have eK:G0 k=⟨nm,P,I,D,C,R⟩:=by
   rw[hnm2,hRd,hCd,hDd,hId,hPd];rfl
  rw[eK];refine o7 λq' hq'=>?_;apply hq';exact⟨[.hp (joinL [.hp HP,.hp oP.h,.hp oI.h,.hp oD.h,.hp HC,.hp oC.h,.hp HR,.hp oR.h])],⟨_,_,rfl,rfl,rfl,⟨oP.a,oP.n,oP.c,oI.a,oI.n,oI.c,oD.a,oD.n,oD.c,oC.a,oC.n,oC.c,oR.a,oR.n,oR.c,rfl,hGP.sl I9 dc (I3 hdl (i:=0) rfl) (I3 hdl (i:=1) rfl),(w8.sl (f:=dM) (λ_=>rfl) dc hOI).mono (j7 _) (I3 hdl (i:=2) rfl),(w8.sl (f:=O1) (λ_=>rfl) dc hOD).mono (j7 _) (I3 hdl (i:=3) rfl),hGC.sl S5 dc (I3 hdl (i:=4) rfl) (I3 hdl (i:=5) rfl),hGR.sl (M8 4) dc (I3 hdl (i:=6) rfl) (I3 hdl (i:=7) rfl)⟩⟩,λw' h=>(h.pick [0,4,5,6,7,8,9,10,11] rfl rfl).joinL⟩
end Go.Proofs.YtpjhmeicbjkcdaaGreatDoor
namespace Go.Proofs.YtpjhmeicbjkcdaaGreatDoor
open Go Go.RowKit Go.Dw
theorem CO {n:Nat} {l:Q4} (h:l.1.natAbs < 1000/\l.2.1.natAbs < 1000/\l.2.2.1.natAbs < 1000/\l.2.2.2.natAbs < 1000):AR (dJ n l):=by
 obtain⟨_,h1,h2,h3⟩:=LK (n:=n) h;exact⟨om,om,λt ht=>by have:=(h3 t ht).1;omega⟩
theorem CG (n:Nat) :∀(d:Nat) (l:List Nat),(∀x∈l,x < 256)->AS (aE n d l).1
 | 0,l,_=>.mk (CO (OG l)) dc dc nofun
 | d+1,l,h=>by
  by_cases hl:l = []\/l.getD 0 0 % 6=0
  ·rw[rL n (by rcases hl with h | h;exact .inl h;exact .inr (.inr h))];exact .mk (CO (OG l)) dc dc nofun
  ·rw[GY n d (λe=>hl (.inl e)) (λe=>hl (.inr e))];have hx:l.getD 0 0 < 256:=by
    rw[i7];cases e:l[0]? with
    | none=>decide
    | some y=>exact h y (MX e)
   have hm:(if l.getD 0 0 % 6=2\/l.getD 0 0 % 6=5 then 1 else 1+l.getD 0 0 / 6 % 2)<=2:=by
    split
    ·decide
    ·have:=C8 (l.getD 0 0 / 6) (show 0 < 2 by decide);omega
   refine .mk ⟨dc,dc,nofun⟩ ?_ (by rw[rN];omega) ?_
   ·split
    ·have:=tN (z:=((l.getD 0 0:Nat):Int) - 100) (k:=3) dc om;omega
    ·decide
   ·have key :∀i,∀y∈(cH n d (l.drop 1) i).1,AS y:=by
     intro i;induction i with
     | zero=>exact nofun
     | succ i ih=>
      intro y hy;have hy:y∈(cH n d (l.drop 1) i).1++[(aE n d (cH n d (l.drop 1) i).2).1]:=hy;rcases G1.1 hy with h' | h'
      ·exact ih y h'
      ·rw[E2] at h';subst h';exact CG n d _ (λx hx=>h x (E8 (rM n d _ i x hx)))
    exact key _
theorem GA {k:YC} (g:MQ k):SJ (G0 k):=by
 have hG:=GU (ZC g);refine⟨?_,by have:=hG.gp.1;omega,by have:=hG.gi.1;omega,by have:=hG.gd.1;omega,by have:=hG.gc.1;omega,by have:=hG.gr.1;omega,?_,?_,?_,?_⟩
 ·have:=(fQ (kind:=112) dc (i:=k.nm % 5) om k.nm).2;show (gJ 112 (k.nm % 5) k.nm).length < 1000000
  omega
 ·intro x hx;obtain⟨i,hi,rfl⟩:=qG hx;have:=(hG.gp.2 i hi).1;exact⟨by have:=this.c;omega,λc hc=>by have:=(this.v c hc).1;omega⟩
 ·intro x hx;obtain⟨i,hi,rfl⟩:=qG hx;obtain⟨s1,s2,s3⟩:=(hG.gi.2 i hi).1.s;exact⟨by have:=Q2 s1;omega,by have:=Q2 s2;omega,by have:=Q2 s3;omega⟩
 ·intro x hx;obtain⟨i,hi,rfl⟩:=qG hx;have hF:=(hG.gc.2 i hi).1.2;have hc:=Q2 hF.c;refine⟨om,by have:=hF.l;omega,λt ht=>?_⟩;obtain⟨j,hj,rfl⟩:=qG ht;have:=hF.t j hj;unfold lJ at this;dsimp only at this;split at this
  ·exact absurd this dc
  ·split at this
   ·exact absurd this dc
   ·split at this
    ·rename_i h1;exact absurd this h1
    ·rename_i h1
     have h2:=Q2 (l9.1 h1);rw[i7,i6 hj] at h2;exact s7 h2 dc
 ·intro x hx;obtain⟨i,y,rfl,_,hy⟩:=Cy hx;refine⟨CG _ 3 y (g.g y hy),?_,?_⟩
  ·show (if y.length % 2=0 then [45,55,47,50] else []).length < 1000000
   split <;> decide
  ·show (if y.length % 3=0 then [49,49] else []).length < 1000000
   split <;> decide
end Go.Proofs.YtpjhmeicbjkcdaaGreatDoor
namespace Go.Proofs.YtpjhmeicbjkcdaaGreatDoor
open Go Go.RowKit Go.Dw
set_option maxRecDepth 10000 in
theorem vF {a a':Option Addr} {n c n' c':Nat} {x y:gG} (w:World) (hx:Sl (B0 U0) 2 (Hp.whole w) a n c x.2) (hy:Sl (B0 U0) 2 (Hp.whole w) a' n' c' y.2) (hn:n < 1000000000) :
  j6 Tryz.prog 100 #[.agg #[sv x.1,.slice a n c],.agg #[sv y.1,.slice a' n' c']] w (v7 w (.bool (decide (x=y)))):=by
 obtain⟨x1,L⟩:=x;obtain⟨y1,L'⟩:=y;dsimp only at hx hy ⊢;have hlen:=hx.len;have hlen':=hy.len;refine enterZ (cx 38) [.agg #[sv x1,.slice a n c],.agg #[sv y1,.slice a' n' c']] [.tmp 4] Tryz.func100 ?_;intro b2 b3;refine cG ?_;refine d8 (λh1=>?_) λh1=>?_
 ·exact⟨[],⟨congrArg Value.bool (decide_eq_false (λe=>h1 (congrArg (λp:gG=>p.1) e))).symm,rfl⟩,pk [0]⟩
 have h1:=l9.1 h1;subst h1;refine d8 (λhne=>?_) λheq=>?_
 ·exact⟨[],⟨congrArg Value.bool (decide_eq_false (λe=>hne (by rw[hlen,hlen',show L=L' from congrArg (λp:gG=>p.2) e]))).symm,rfl⟩,pk [0]⟩
 have hnn:n=n':=om
 refine u6.mk Nat (λk=>[(2,.bx 1 0),(3,.bx 2 0),(5,.v (iQ k))]) (λ_=>[.hp (Hp.whole w),.box b2 [sv x1,.slice a n c] 41,.box b3 [sv x1,.slice a' n' c'] 41])
  (λk=>k<=n/\L.take k=L'.take k) (λk=>n - k) 0 ⟨f8 _,rfl⟩ (v6.mk (λ_ _ h=>h) rfl rfl) ?_
 rintro k ⟨hk,ho⟩;refine d8 (λhlt=>?_) λhge=>?_
 ·have hlt':k < L.length:=om
  have hlt2:k < L'.length:=om
  refine s6.by_order cQ (.take 0 <| .take 1 <| .take 2 <| .take 3 <| .take 4 <| .take 5 <| .take 6 <| .take 7 <| .take 8 <| .take 9 <| .take 10 <| .done) kr ?_;refine I1 cQ (e:=80) rfl hx k rfl hlt' λb o cs hcs hR hcell=>?_;subst hR;refine T7 cQ (i:=0) rfl hcell rfl ?_;refine I1 cQ (e:=80) rfl hy k rfl hlt2 λb o cs hcs hR hcell=>?_;subst hR;refine T7 cQ (i:=0) rfl hcell rfl ?_;refine UF (a:=L[k]) (b:=L'[k]) ?_;refine d8 (λhb=>?_) λhb=>?_
  ·exact⟨[],⟨congrArg Value.bool (decide_eq_false (λe=>hb (by have e:L=L':=congrArg (λp:gG=>p.2) e;simp[e]))).symm,rfl⟩,pk [0]⟩
  ·refine nwo ?_;exact⟨k+1,⟨om,G5 hlt' hlt2 ho (l9.1 hb)⟩,om,v6.mk (λ_ _ h=>h) rfl rfl⟩
 ·have:L=L':=J0 (show L.length<=k by omega) (show L'.length<=k by omega) ho;exact⟨[],⟨congrArg Value.bool (decide_eq_true (by rw[this])).symm,rfl⟩,pk [0]⟩
set_option maxRecDepth 10000 in
theorem FZ {a a':Option Addr} {n c n' c':Nat} {x y:W3} (w:World) (hx:Sl pN 1 (Hp.whole w) a n c x.2.2) (hy:Sl pN 1 (Hp.whole w) a' n' c' y.2.2) (hs:MS x) :
  j6 Tryz.prog 99 #[.agg #[sv x.1,iQ x.2.1,.slice a n c],.agg #[sv y.1,iQ y.2.1,.slice a' n' c']] w (v7 w (.bool (decide (x=y)))):=by
 obtain⟨x1,x2,L⟩:=x;obtain⟨y1,y2,L'⟩:=y;obtain⟨hs1,hs2⟩:=hs;dsimp only at hx hy hs1 hs2 ⊢;have hlen:=hx.len;have hlen':=hy.len;refine enterZ (cx 69) [.agg #[sv x1,iQ x2,.slice a n c],.agg #[sv y1,iQ y2,.slice a' n' c']] [.tmp 4] Tryz.func99 ?_;intro b2 b3;refine cG ?_;refine d8 (λh1=>?_) λh1=>?_
 ·exact⟨[],⟨congrArg Value.bool (decide_eq_false (λe=>h1 (congrArg (λp:W3=>p.1) e))).symm,rfl⟩,pk [0]⟩
 have h1:=l9.1 h1;subst h1;refine d8 (λh2=>?_) λh2=>?_
 ·exact⟨[],⟨congrArg Value.bool (decide_eq_false (λe=>h2 (congrArg (λp:W3=>p.2.1) e))).symm,rfl⟩,pk [0]⟩
 have h2:=l9.1 h2;subst h2;refine d8 (λhne=>?_) λheq=>?_
 ·exact⟨[],⟨congrArg Value.bool (decide_eq_false (λe=>hne (by rw[hlen,hlen',show L=L' from congrArg (λp:W3=>p.2.2) e]))).symm,rfl⟩,pk [0]⟩
 have hnn:n=n':=om
 refine u6.mk Nat (λk=>[(2,.bx 1 0),(3,.bx 2 0),(5,.v (iQ k))]) (λ_=>[.hp (Hp.whole w),.box b2 [sv x1,iQ x2,.slice a n c] 83,.box b3 [sv x1,iQ x2,.slice a' n' c'] 83])
  (λk=>k<=n/\L.take k=L'.take k) (λk=>n - k) 0 ⟨f8 _,rfl⟩ (v6.mk (λ_ _ h=>h) rfl rfl) ?_
 rintro k ⟨hk,ho⟩;refine d8 (λhlt=>?_) λhge=>?_
 ·have hlt':k < L.length:=om
  have hlt2:k < L'.length:=om
  refine s6.by_order cQ (.take 0 <| .take 1 <| .take 2 <| .take 3 <| .take 4 <| .take 5 <| .take 6 <| .take 7 <| .take 8 <| .take 9 <| .take 10 <| .take 11 <| .take 12 <| .take 13 <| .done) kr ?_;refine I1 cQ (e:=86) rfl hx k rfl hlt' λb o cs hcs hR hcell=>?_;obtain⟨a1,n1,c1,rfl,hs3⟩:=hR;refine lQ 0 (hcell 0 _ rfl) ?_;refine I1 cQ (e:=86) rfl hy k rfl hlt2 λb o cs hcs hR hcell=>?_;obtain⟨a2,n2,c2,rfl,hs4⟩:=hR;refine lQ 0 (hcell 0 _ rfl) ?_;have hl1:=hs3.len;have hl2:=hs4.len;have hl3:=hs2 _ (j0 hlt');refine d8 (λh3=>?_) λh3=>?_
  ·exact⟨[],⟨congrArg Value.bool (decide_eq_false (λe=>h3 (by have e:L=L':=congrArg (λp:W3=>p.2.2) e;subst e;rw[hl1,hl2]))).symm,rfl⟩,pk [0]⟩
  have h3:n1=n2:=om
  refine u6.mk Nat (λj=>[(2,.bx 1 0),(3,.bx 2 0),(5,.v (iQ k)),(6,.v (.slice a1 n1 c1)),(7,.v (.slice a2 n2 c2)),(8,.v (iQ j))]) (λ_=>[.hp (Hp.whole w),.box b2 [sv x1,iQ x2,.slice a n c] 83,.box b3 [sv x1,iQ x2,.slice a' n' c'] 83])
   (λj=>j<=n1/\L[k].take j=L'[k].take j) (λj=>n1 - j) 0 ⟨f8 _,rfl⟩ (v6.mk (λ_ _ h=>h) rfl rfl) ?_
  rintro j ⟨hj,hp⟩;refine d8 (λhlu=>?_) λhgu=>?_
  ·have hlu':j < L[k].length:=om
   have hlu2:j < L'[k].length:=om
   refine s6.by_order cQ (.take 0 <| .take 1 <| .take 2 <| .take 3 <| .take 4 <| .take 5 <| .take 6 <| .take 7 <| .take 8 <| .done) kr ?_;refine I1 cQ (e:=122) rfl hs3 j rfl hlu' λb o cs hcs hR hcell=>?_;subst hR;refine T7 cQ (i:=0) rfl hcell rfl ?_;refine I1 cQ (e:=122) rfl hs4 j rfl hlu2 λb o cs hcs hR hcell=>?_;subst hR;refine T7 cQ (i:=0) rfl hcell rfl ?_;refine By (a:=L[k][j]) (b:=L'[k][j]) ?_;refine d8 (λhb=>?_) λhb=>?_
   ·exact⟨[],⟨congrArg Value.bool (decide_eq_false (λe=>hb (by have e:L=L':=congrArg (λp:W3=>p.2.2) e;subst e;rfl))).symm,rfl⟩,pk [0]⟩
   ·refine nwo ?_;exact⟨j+1,⟨om,G5 hlu' hlu2 hp (l9.1 hb)⟩,om,v6.mk (λ_ _ h=>h) rfl rfl⟩
  ·refine nwo ?_;have e1:L[k]=L'[k]:=J0 (show L[k].length<=j by omega) (show L'[k].length<=j by omega) hp;exact⟨k+1,⟨om,G5 hlt' hlt2 ho e1⟩,om,v6.mk (λ_ _ h=>h) rfl rfl⟩
 ·have:L=L':=J0 (show L.length<=k by omega) (show L'.length<=k by omega) ho;exact⟨[],⟨congrArg Value.bool (decide_eq_true (by rw[this])).symm,rfl⟩,pk [0]⟩
end Go.Proofs.YtpjhmeicbjkcdaaGreatDoor
namespace Go.Proofs.YtpjhmeicbjkcdaaGreatDoor
open Go Go.RowKit Go.Dw
theorem CU {d:Nat} {h:Hp} {x:Ex} {cs:List Value} (hx:P5 d h x cs) :∃p q r s t,cs = [p,q,r,s,t]:=by
 cases d with
 | zero=>exact hx.elim
 | succ d=>
  obtain⟨op,f,fac,args⟩:=x;obtain⟨a,n,c,a',n',c',h1,_,_⟩:=hx;exact⟨_,_,_,_,_,h1⟩
def Lk (d:Nat):Prop:=∀(x y:Ex) (cs cs':List Value) (w:World),P5 d (Hp.whole w) x cs->P5 d (Hp.whole w) y cs'->AS x->j6 Tryz.prog 27 #[.agg cs.toArray,.agg cs'.toArray] w (v7 w (.bool (decide (x=y))))
theorem IM {a1 b1:Int} {a2 b2:gG} {a3 b3:e8} {a4 b4:List Ex} (h:a1≠b1\/a2≠b2\/a3≠b3\/a4≠b4):Ex.mk a1 a2 a3 a4≠.mk b1 b2 b3 b4:=by
 intro e;cases e;simp at h
set_option maxRecDepth 10000 in
theorem vG (d:Nat) (ih :∀d',d=d'+1->Lk d'):Lk d:=by
 intro x y cs cs' w hx hy hs;obtain⟨x1,x2,x3,L⟩:=x;obtain⟨y1,y2,y3,L'⟩:=y;match d,hx,hy,ih with
 | 0,hx,_,_=>exact hx.elim
 | d+1,hx,hy,ih=>
 have ih:=ih d rfl;obtain⟨a,n,c,a1,n1,c1,rfl,hf,ha⟩:=hx;obtain⟨a',n',c',a2,n2,c2,rfl,hf',ha'⟩:=hy;cases hs with
 | mk hxf hxs hxn hxa=>
 have hlen:=ha.len;have hlen':=ha'.len;have hfn:n < 1000000000:=by have:=hf.len;have:=hxf.len;omega
 refine enterZ (cx 54) [.agg #[iQ x1,sv x2.1,.slice a n c,sv x3,.slice a1 n1 c1],.agg #[iQ y1,sv y2.1,.slice a' n' c',sv y3,.slice a2 n2 c2]] [.tmp 4] Tryz.func27 ?_;intro b2 b3;refine o7 (λ_ kz=>kz _ _ ?_);refine o7 λq' hq'=>?_;refine d8 (λh1=>?_) λh1=>?_
 ·apply hq';exact⟨[],⟨congrArg Value.bool (decide_eq_false (IM (.inl h1))).symm,rfl⟩,pk [0]⟩
 have h1:=l9.1 h1;subst h1;refine k7 _ (λw' hm=>vF (x:=x2) (y:=y2) w' (hf.mono (j7 _) (hm 0 _ rfl).whole) (hf'.mono (j7 _) (hm 0 _ rfl).whole) hfn) ?_;refine s8 (λh2=>?_) λh2=>?_
 ·apply hq';exact⟨[],⟨congrArg Value.bool (decide_eq_false (IM (.inr (.inl (by simpa using h2))))).symm,rfl⟩,pk [0]⟩
 have h2:x2=y2:=by simpa using h2
 subst h2;refine cG ?_;refine d8 (λh3=>?_) λh3=>?_
 ·apply hq';exact⟨[],⟨congrArg Value.bool (decide_eq_false (IM (.inr (.inr (.inl h3))))).symm,rfl⟩,pk [0]⟩
 have h3:=l9.1 h3;subst h3;apply hq';refine d8 (λhne=>?_) λheq=>?_
 ·exact⟨[],⟨congrArg Value.bool (decide_eq_false (IM (.inr (.inr (.inr (λe=>hne (by rw[hlen,hlen',e]))))))).symm,rfl⟩,pk [0]⟩
 have hnn:n1=n2:=om
 refine u6.mk Nat (λk=>[(2,.bx 1 0),(3,.bx 2 0),(5,.v (iQ k))]) (λ_=>[.hp (Hp.whole w),.box b2 [iQ x1,sv x2.1,.slice a n c,sv x3,.slice a1 n1 c1] 44,.box b3 [iQ x1,sv x2.1,.slice a' n' c',sv x3,.slice a2 n2 c2] 44])
  (λk=>k<=n1/\L.take k=L'.take k) (λk=>n1 - k) 0 ⟨f8 _,rfl⟩ (v6.mk (λ_ _ h=>h) rfl rfl) ?_
 rintro k ⟨hk,ho⟩;refine d8 (λhlt=>?_) λhge=>?_
 ·have hlt':k < L.length:=om
  have hlt2:k < L'.length:=om
  refine s6.by_order cQ (.take 0 <| .take 1 <| .take 2 <| .take 3 <| .take 4 <| .take 5 <| .take 6 <| .take 7 <| .take 8 <| .take 9 <| .run 10 <| .take 11 <| .done) kr ?_;refine I1 cQ (e:=44) rfl ha k rfl hlt' λb o cs hcs hR hcell=>?_;obtain⟨p1,p2,p3,p4,p5,rfl⟩:=CU hR;refine T7 cQ (i:=0) rfl hcell rfl ?_;refine I1 cQ (e:=44) rfl ha' k rfl hlt2 λb o cs2 hcs2 hR2 hcell2=>?_;obtain⟨q1,q2,q3,q4,q5,rfl⟩:=CU hR2;refine T7 cQ (i:=0) rfl hcell2 rfl ?_;refine k7 _ (λw' hm=>ih _ _ _ _ w' (q7 _ _ _ _ _ (hm 0 _ rfl).whole hR) (q7 _ _ _ _ _ (hm 0 _ rfl).whole hR2) (hxa _ (j0 hlt'))) ?_;refine⟨sK,?_⟩;refine s8 (λhb=>?_) λhb=>?_
  ·exact⟨[],⟨congrArg Value.bool (decide_eq_false (IM (.inr (.inr (.inr (λe=>by subst e;simp at hb)))))).symm,rfl⟩,pk [0]⟩
  ·refine nwo ?_;exact⟨k+1,⟨om,G5 hlt' hlt2 ho (by simpa using hb)⟩,om,v6.mk (λ_ _ h=>h) rfl rfl⟩
 ·have:L=L':=J0 (show L.length<=k by omega) (show L'.length<=k by omega) ho;exact⟨[],⟨congrArg Value.bool (decide_eq_true (by rw[this])).symm,rfl⟩,pk [0]⟩
theorem lM :∀d,Lk d
 | 0=>vG 0 (λd' e=>by omega)
 | d+1=>vG (d+1) (λd' e=>by
  have:d'=d:=om
  subst this;exact lM d')
end Go.Proofs.YtpjhmeicbjkcdaaGreatDoor
namespace Go.Proofs.YtpjhmeicbjkcdaaGreatDoor
open Go Go.RowKit Go.Dw
theorem HY {body:(Dw.Ex->Tm->List Ch->Prop)->Tm->List Ch->Prop} {Q:Dw.Ex->Tm->List Ch->Prop} {t:Tm} {s:List Ch} (h :∀Q':Dw.Ex->Tm->List Ch->Prop,(∀e t s,Q e t s->Q' e t s)->u6 body Q' t s):u6 body Q t s:=h Q (λ_ _ _ h=>h)
theorem Mf {d:Nat} {h:Hp} {op:Int} {f:gG} {fac:e8} {args:List Ex} {cs:List Value} (hx:P5 d h (.mk op f fac args) cs) :∃a n c a' n' c',cs = [iQ op,sv f.1,.slice a n c,sv fac,.slice a' n' c']:=by
 cases d with
 | zero=>exact hx.elim
 | succ d=>
  obtain⟨a,n,c,a',n',c',h1,_,_⟩:=hx;exact⟨_,_,_,_,_,_,h1⟩
theorem Ff {x y:kY} (h:x.1=y.1):(!decide (x.2=y.2))=decide (x≠y):=by
 obtain⟨x1,x2⟩:=x;obtain⟨y1,y2⟩:=y;dsimp only at h;subst h;by_cases g:x2=y2 <;> simp[g]
theorem UB {x y:kV} (h1:x.1=y.1) (h2:x.2.1=y.2.1) (h3:x.2.2.1=y.2.2.1) (h4:x.2.2.2=y.2.2.2):x=y:=by
 obtain⟨x1,x2,x3,x4⟩:=x;obtain⟨y1,y2,y3,y4⟩:=y;dsimp only at h1 h2 h3 h4;subst h1 h2 h3 h4;rfl
set_option maxRecDepth 10000 in
set_option maxHeartbeats 2000000 in
theorem GF {d:Nat} {p q:jL} {cs cs':List Value} (w:World) (hp:qB d (Hp.whole w) p cs) (hq:qB d (Hp.whole w) q cs') (hs:SJ p) :
  j6 Tryz.prog 25 #[.agg cs.toArray,.agg cs'.toArray] w (v7 w (.bool (decide (p=q)))):=by
 obtain⟨a1,n1,c1,a2,n2,c2,a3,n3,c3,a4,n4,c4,a5,n5,c5,rfl,x1,x2,x3,x4,x5⟩:=hp.ex;obtain⟨a1',n1',c1',a2',n2',c2',a3',n3',c3',a4',n4',c4',a5',n5',c5',rfl,y1,y2,y3,y4,y5⟩:=hq.ex;obtain⟨nm,P,I,D,C,R⟩:=p;obtain⟨nm',P',I',D',C',R'⟩:=q;have s1:=hs.np;have s2:=hs.ni;have s3:=hs.nd;have s4:=hs.nc;have s5:=hs.nr;have t1:=hs.sp;have t4:=hs.sc;have t5:=hs.sr;clear hs;dsimp only at x1 x2 x3 x4 x5 y1 y2 y3 y4 y5 s1 s2 s3 s4 s5 t1 t4 t5 ⊢;have l1:=x1.len;have l2:=x2.len;have l3:=x3.len;have l4:=x4.len;have l5:=x5.len;have m1:=y1.len;have m2:=y2.len;have m3:=y3.len;have m4:=y4.len;have m5:=y5.len;refine enterZ (cx 207) [.agg #[sv nm,.slice a1 n1 c1,.slice a2 n2 c2,.slice a3 n3 c3,.slice a4 n4 c4,.slice a5 n5 c5],.agg #[sv nm',.slice a1' n1' c1',.slice a2' n2' c2',.slice a3' n3' c3',.slice a4' n4' c4',.slice a5' n5' c5']] [.tmp 4] Tryz.func25 ?_;intro b2 b3;refine o7 (λ_ kz=>kz _ _ ?_);refine o7 λq' hq'=>?_;refine cG ?_;refine d8 (λh1=>?_) λh1=>?_
 ·apply hq';exact⟨[],⟨congrArg Value.bool (decide_eq_false (λe=>h1 (congrArg jL.nm e))).symm,rfl⟩,pk [0]⟩
 have h1:=l9.1 h1;subst h1;refine d8 (λhne=>?_) λhe1=>?_
 ·apply hq';exact⟨[],⟨congrArg Value.bool (decide_eq_false (λe=>hne (by rw[l1,m1,show P=P' from congrArg jL.parts e]))).symm,rfl⟩,pk [0]⟩
 have k1:n1=n1':=om
 refine d8 (λhne=>?_) λhe2=>?_
 ·apply hq';exact⟨[],⟨congrArg Value.bool (decide_eq_false (λe=>hne (by rw[l2,m2,show I=I' from congrArg jL.insts e]))).symm,rfl⟩,pk [0]⟩
 have k2:n2=n2':=om
 refine d8 (λhne=>?_) λhe3=>?_
 ·apply hq';exact⟨[],⟨congrArg Value.bool (decide_eq_false (λe=>hne (by rw[l3,m3,show D=D' from congrArg jL.dims e]))).symm,rfl⟩,pk [0]⟩
 have k3:n3=n3':=om
 refine d8 (λhne=>?_) λhe4=>?_
 ·apply hq';exact⟨[],⟨congrArg Value.bool (decide_eq_false (λe=>hne (by rw[l4,m4,show C=C' from congrArg jL.cons e]))).symm,rfl⟩,pk [0]⟩
 have k4:n4=n4':=om
 apply hq';refine d8 (λhne=>?_) λhe5=>?_
 ·exact⟨[],⟨congrArg Value.bool (decide_eq_false (λe=>hne (by rw[l5,m5,show R=R' from congrArg jL.reqs e]))).symm,rfl⟩,pk [0]⟩
 have k5:n5=n5':=om
 refine HY λQL hQ=>?_;refine u6.mk Nat (λk=>[(2,.bx 1 0),(3,.bx 2 0),(5,.v (iQ k))]) (λ_=>[.hp (Hp.whole w),.box b2 [sv nm,.slice a1 n1 c1,.slice a2 n2 c2,.slice a3 n3 c3,.slice a4 n4 c4,.slice a5 n5 c5] 30,.box b3 [sv nm,.slice a1' n1' c1',.slice a2' n2' c2',.slice a3' n3' c3',.slice a4' n4' c4',.slice a5' n5' c5'] 30])
  (λk=>k<=n1/\P.take k=P'.take k) (λk=>n1 - k) 0 ⟨f8 _,rfl⟩ (v6.mk (pj [0,1,2]) rfl rfl) ?_
 rintro k ⟨hk,ho⟩;try dsimp only at hk ho
 refine d8 (λhlt=>?_) λhge=>?_
 ·have hlt':k < P.length:=om
  have hlt2:k < P'.length:=om
  refine s6.by_order cQ (.take 0 <| .take 1 <| .take 2 <| .take 3 <| .take 4 <| .take 5 <| .take 6 <| .take 7 <| .take 8 <| .take 9 <| .take 10 <| .take 11 <| .run 12 <| .take 13 <| .done) kr ?_;refine I1 cQ (e:=83) rfl x1 k rfl hlt' λb o cs hcs hR hcell=>?_;obtain⟨a,n,c,rfl,hx⟩:=hR;refine T7 cQ (i:=0) rfl hcell rfl ?_;refine I1 cQ (e:=83) rfl y1 k rfl hlt2 λb o cs hcs hR hcell=>?_;obtain⟨a',n',c',rfl,hy⟩:=hR;refine T7 cQ (i:=0) rfl hcell rfl ?_;refine k7 _ (λw' hm=>FZ w' (hx.mono S6 (hm 0 _ rfl).whole) (hy.mono S6 (hm 0 _ rfl).whole) (t1 _ (j0 hlt'))) ?_;refine⟨sK,?_⟩;refine s8 (λhb=>?_) λhb=>?_
  ·refine hQ _ _ _ ?_;exact⟨[],⟨congrArg Value.bool (decide_eq_false (λe=>by have e:=(congrArg jL.parts e:P=P');subst e;simp at hb)).symm,rfl⟩,pk [0]⟩
  refine nwo ?_;exact⟨k+1,⟨om,G5 hlt' hlt2 ho (by simpa using hb)⟩,by (try dsimp only);omega,v6.mk (pj [0,1,2]) rfl rfl⟩
 have z1:P=P':=J0 (show P.length<=k by omega) (show P'.length<=k by omega) ho;clear hk ho hge;refine hQ _ _ _ ?_;refine HY λQL hQ=>?_;refine u6.mk Nat (λk=>[(2,.bx 1 0),(3,.bx 2 0),(6,.v (iQ k))]) (λ_=>[.hp (Hp.whole w),.box b2 [sv nm,.slice a1 n1 c1,.slice a2 n2 c2,.slice a3 n3 c3,.slice a4 n4 c4,.slice a5 n5 c5] 30,.box b3 [sv nm,.slice a1' n1' c1',.slice a2' n2' c2',.slice a3' n3' c3',.slice a4' n4' c4',.slice a5' n5' c5'] 30])
  (λk=>k<=n2/\I.take k=I'.take k) (λk=>n2 - k) 0 ⟨f8 _,rfl⟩ (v6.mk (pj [0,1,2]) rfl rfl) ?_
 rintro k ⟨hk,ho⟩;try dsimp only at hk ho
 refine d8 (λhlt=>?_) λhge=>?_
 ·have hlt':k < I.length:=om
  have hlt2:k < I'.length:=om
  refine s6.by_order cQ (.take 0 <| .take 1 <| .take 2 <| .take 3 <| .take 4 <| .take 5 <| .take 6 <| .take 7 <| .take 8 <| .take 9 <| .take 10 <| .take 11 <| .take 12 <| .done) kr ?_;refine I1 cQ (e:=93) rfl x2 k rfl hlt' λb o cs hcs hR hcell=>?_;subst hR;refine T7 cQ (i:=0) rfl hcell rfl ?_;refine I1 cQ (e:=93) rfl y2 k rfl hlt2 λb o cs hcs hR hcell=>?_;subst hR;refine T7 cQ (i:=0) rfl hcell rfl ?_;refine UK (a:=I[k]) (b:=I'[k]) ?_;refine d8 (λhb=>?_) λhb=>?_
  ·refine hQ _ _ _ ?_;exact⟨[],⟨congrArg Value.bool (decide_eq_false (λe=>hb (by have e:=(congrArg jL.insts e:I=I');subst e;rfl))).symm,rfl⟩,pk [0]⟩
  refine nwo ?_;exact⟨k+1,⟨om,G5 hlt' hlt2 ho (l9.1 hb)⟩,by (try dsimp only);omega,v6.mk (pj [0,1,2]) rfl rfl⟩
 have z2:I=I':=J0 (show I.length<=k by omega) (show I'.length<=k by omega) ho;clear hk ho hge;refine hQ _ _ _ ?_;refine HY λQL hQ=>?_;refine u6.mk Nat (λk=>[(2,.bx 1 0),(3,.bx 2 0),(7,.v (iQ k))]) (λ_=>[.hp (Hp.whole w),.box b2 [sv nm,.slice a1 n1 c1,.slice a2 n2 c2,.slice a3 n3 c3,.slice a4 n4 c4,.slice a5 n5 c5] 30,.box b3 [sv nm,.slice a1' n1' c1',.slice a2' n2' c2',.slice a3' n3' c3',.slice a4' n4' c4',.slice a5' n5' c5'] 30])
  (λk=>k<=n3/\D.take k=D'.take k) (λk=>n3 - k) 0 ⟨f8 _,rfl⟩ (v6.mk (pj [0,1,2]) rfl rfl) ?_
 rintro k ⟨hk,ho⟩;try dsimp only at hk ho
 refine d8 (λhlt=>?_) λhge=>?_
 ·have hlt':k < D.length:=om
  have hlt2:k < D'.length:=om
  refine s6.by_order cQ (.take 0 <| .take 1 <| .take 2 <| .take 3 <| .take 4 <| .take 5 <| .take 6 <| .take 7 <| .take 8 <| .take 9 <| .take 10 <| .done) kr ?_;refine I1 cQ (e:=48) rfl x3 k rfl hlt' λb o cs hcs hR hcell=>?_;subst hR;refine T7 cQ (i:=0) rfl hcell rfl ?_;refine I1 cQ (e:=48) rfl y3 k rfl hlt2 λb o cs hcs hR hcell=>?_;subst hR;refine T7 cQ (i:=0) rfl hcell rfl ?_;refine UL (a:=D[k]) (b:=D'[k]) ?_;refine d8 (λhb=>?_) λhb=>?_
  ·refine hQ _ _ _ ?_;exact⟨[],⟨congrArg Value.bool (decide_eq_false (λe=>hb (by have e:=(congrArg jL.dims e:D=D');subst e;rfl))).symm,rfl⟩,pk [0]⟩
  refine nwo ?_;exact⟨k+1,⟨om,G5 hlt' hlt2 ho (l9.1 hb)⟩,by (try dsimp only);omega,v6.mk (pj [0,1,2]) rfl rfl⟩
 have z3:D=D':=J0 (show D.length<=k by omega) (show D'.length<=k by omega) ho;clear hk ho hge;refine hQ _ _ _ ?_;refine HY λQL hQ=>?_;refine u6.mk Nat (λk=>[(2,.bx 1 0),(3,.bx 2 0),(8,.v (iQ k))]) (λ_=>[.hp (Hp.whole w),.box b2 [sv nm,.slice a1 n1 c1,.slice a2 n2 c2,.slice a3 n3 c3,.slice a4 n4 c4,.slice a5 n5 c5] 30,.box b3 [sv nm,.slice a1' n1' c1',.slice a2' n2' c2',.slice a3' n3' c3',.slice a4' n4' c4',.slice a5' n5' c5'] 30])
  (λk=>k<=n4/\C.take k=C'.take k) (λk=>n4 - k) 0 ⟨f8 _,rfl⟩ (v6.mk (pj [0,1,2]) rfl rfl) ?_
 rintro k ⟨hk,ho⟩;try dsimp only at hk ho
 refine d8 (λhlt=>?_) λhge=>?_
 ·have hlt':k < C.length:=om
  have hlt2:k < C'.length:=om
  refine s6.cut Bool (λg=>[(2,.bx 1 0),(3,.bx 2 0),(8,.v (iQ k)),(162,.v (.bool g))]) (λg=>[.hp (Hp.whole w),.box b2 [sv nm,.slice a1 n1 c1,.slice a2 n2 c2,.slice a3 n3 c3,.slice a4 n4 c4,.slice a5 n5 c5] 30,.box b3 [sv nm,.slice a1' n1' c1',.slice a2' n2' c2',.slice a3' n3' c3',.slice a4' n4' c4',.slice a5' n5' c5'] 30]) (λg=>g=decide (C[k]≠C'[k])) (s6.by_order cQ (.take 0 <| .take 1 <| .take 2 <| .take 3 <| .take 4 <| .take 5 <| .take 6 <| .take 7 <| .take 8 <| .take 9 <| .take 10 <| .take 11 <| .take 12 <| .take 13 <| .take 14 <| .take 15 <| .take 16 <| .take 17 <| .take 18 <| .take 19 <| .take 20 <| .take 21 <| .take 22 <| .take 23 <| .take 24 <| .take 25 <| .run 26 <| .take 27 <| .take 28 <| .done) kr ?_) ?_
  ·refine I1 cQ (e:=96) rfl x4 k rfl hlt' λb o cs hcs hR hc1=>?_;obtain⟨a,n,c,rfl,hx⟩:=hR;refine lQ 0 (hc1 0 _ rfl) ?_;refine I1 cQ (e:=96) rfl y4 k rfl hlt2 λb o cs hcs hR hc2=>?_;obtain⟨a',n',c',rfl,hy⟩:=hR;refine lQ 0 (hc2 0 _ rfl) ?_;refine cG ?_;refine d8 (λh3=>?_) λh3=>?_
   ·refine⟨sK,?_⟩;exact⟨true,(decide_eq_true (show C[k]≠C'[k] from λe=>h3 (congrArg (λp:kY=>p.1) e))).symm,v6.mk (pj [0,1,2]) rfl rfl⟩
   refine I1 cQ (e:=96) rfl x4 k rfl hlt' λb o cs hcs hR hc3=>?_;obtain⟨a,n,c,rfl,hx⟩:=hR;refine T7 cQ (i:=0) rfl (cs:=[sv C[k].2.1,.slice a n c]) (λj v hj=>by rw[nX,V9 1 j];exact hc3 (j+1) v hj) rfl ?_;refine I1 cQ (e:=96) rfl y4 k rfl hlt2 λb o cs hcs hR hc4=>?_;obtain⟨a',n',c',rfl,hy⟩:=hR;refine T7 cQ (i:=0) rfl (cs:=[sv C'[k].2.1,.slice a' n' c']) (λj v hj=>by rw[nX,V9 1 j];exact hc4 (j+1) v hj) rfl ?_;refine k7 _ (λw' hm=>vF w' (hx.mono (j7 _) (hm 0 _ rfl).whole) (hy.mono (j7 _) (hm 0 _ rfl).whole) (by have:=hx.len;have:=(t4 _ (j0 hlt')).len;omega)) ?_;refine⟨sK,?_⟩;have h3:=l9.1 h3;refine⟨_,?_,v6.mk (pj [0,1,2]) rfl rfl⟩;exact Ff h3
  rintro g hg hsat;dsimp only at hg ⊢;refine s8 (λhb=>?_) λhb=>?_
  ·have hb:C[k]≠C'[k]:=by rw[hg] at hb;exact of_decide_eq_true hb
   refine hQ _ _ _ ?_;exact⟨[],⟨congrArg Value.bool (decide_eq_false (λe=>hb (by have e:=(congrArg jL.cons e:C=C');subst e;rfl))).symm,rfl⟩,pk [0]⟩
  have hb:C[k]=C'[k]:=by rw[hg] at hb;simpa using hb
  refine nwo ?_;exact⟨k+1,⟨om,G5 hlt' hlt2 ho hb⟩,by (try dsimp only);omega,v6.mk (pj [0,1,2]) rfl rfl⟩
 have z4:C=C':=J0 (show C.length<=k by omega) (show C'.length<=k by omega) ho;clear hk ho hge;refine hQ _ _ _ ?_;refine HY λQL hQ=>?_;refine u6.mk Nat (λk=>[(2,.bx 1 0),(3,.bx 2 0),(9,.v (iQ k))]) (λ_=>[.hp (Hp.whole w),.box b2 [sv nm,.slice a1 n1 c1,.slice a2 n2 c2,.slice a3 n3 c3,.slice a4 n4 c4,.slice a5 n5 c5] 30,.box b3 [sv nm,.slice a1' n1' c1',.slice a2' n2' c2',.slice a3' n3' c3',.slice a4' n4' c4',.slice a5' n5' c5'] 30])
  (λk=>k<=n5/\R.take k=R'.take k) (λk=>n5 - k) 0 ⟨f8 _,rfl⟩ (v6.mk (pj [0,1,2]) rfl rfl) ?_
 rintro k ⟨hk,ho⟩;try dsimp only at hk ho
 refine d8 (λhlt=>?_) λhge=>?_
 ·have hlt':k < R.length:=om
  have hlt2:k < R'.length:=om
  obtain⟨X,hX⟩ :∃X,X=R[k].2.1:=⟨_,rfl⟩
  obtain⟨op1,f1,fac1,args1⟩:=X;obtain⟨Y,hY⟩ :∃Y,Y=R'[k].2.1:=⟨_,rfl⟩
  obtain⟨op2,f2,fac2,args2⟩:=Y;refine s6.cut (Nat×Nat×(Option Addr×Nat×Nat×Option Addr×Nat×Nat)×(Option Addr×Nat×Nat×Option Addr×Nat×Nat)) (λg=>[(2,.bx 1 0),(3,.bx 2 0),(9,.v (iQ k)),(10,.bx 3 0),(11,.bx 4 0)]) (λg=>[.hp (Hp.whole w),.box b2 [sv nm,.slice a1 n1 c1,.slice a2 n2 c2,.slice a3 n3 c3,.slice a4 n4 c4,.slice a5 n5 c5] 30,.box b3 [sv nm,.slice a1' n1' c1',.slice a2' n2' c2',.slice a3' n3' c3',.slice a4' n4' c4',.slice a5' n5' c5'] 30,.box g.1 [sv R[k].1,iQ op1,sv f1.1,.slice g.2.2.1.1 g.2.2.1.2.1 g.2.2.1.2.2.1,sv fac1,.slice g.2.2.1.2.2.2.1 g.2.2.1.2.2.2.2.1 g.2.2.1.2.2.2.2.2,sv R[k].2.2.1,sv R[k].2.2.2] 74,.box g.2.1 [sv R'[k].1,iQ op2,sv f2.1,.slice g.2.2.2.1 g.2.2.2.2.1 g.2.2.2.2.2.1,sv fac2,.slice g.2.2.2.2.2.2.1 g.2.2.2.2.2.2.2.1 g.2.2.2.2.2.2.2.2,sv R'[k].2.2.1,sv R'[k].2.2.2] 74])
   (λg=>P5 d (Hp.whole w) (.mk op1 f1 fac1 args1) [iQ op1,sv f1.1,.slice g.2.2.1.1 g.2.2.1.2.1 g.2.2.1.2.2.1,sv fac1,.slice g.2.2.1.2.2.2.1 g.2.2.1.2.2.2.2.1 g.2.2.1.2.2.2.2.2]/\P5 d (Hp.whole w) (.mk op2 f2 fac2 args2) [iQ op2,sv f2.1,.slice g.2.2.2.1 g.2.2.2.2.1 g.2.2.2.2.2.1,sv fac2,.slice g.2.2.2.2.2.2.1 g.2.2.2.2.2.2.2.1 g.2.2.2.2.2.2.2.2]) (s6.by_order cQ (.take 0 <| .take 1 <| .take 2 <| .take 3 <| .take 4 <| .take 5 <| .take 6 <| .take 7 <| .take 8 <| .take 9 <| .two 10 (.run 11 <| .run 12 <| .run 13 <| .done) 11 (.run 10 <| .run 12 <| .run 13 <| .done)) kr ?_) ?_
  ·refine I1 cQ (e:=74) rfl x5 k rfl hlt' λb o cs hcs hR hc1=>?_;obtain⟨xs,rfl,hE⟩:=hR;rw[<-hX] at hE;obtain⟨p1,p2,p3,p4,p5,p6,rfl⟩:=Mf hE;refine T7 cQ (i:=0) rfl (cs:=[sv R[k].1,iQ op1,sv f1.1,.slice p1 p2 p3,sv fac1,.slice p4 p5 p6,sv R[k].2.2.1,sv R[k].2.2.2]) hc1 rfl ?_;refine I1 cQ (e:=74) rfl y5 k rfl hlt2 λb o cs hcs hR hc2=>?_;obtain⟨ys,rfl,hE'⟩:=hR;rw[<-hY] at hE';obtain⟨q1,q2,q3,q4,q5,q6,rfl⟩:=Mf hE';refine T7 cQ (i:=0) rfl (cs:=[sv R'[k].1,iQ op2,sv f2.1,.slice q1 q2 q3,sv fac2,.slice q4 q5 q6,sv R'[k].2.2.1,sv R'[k].2.2.2]) hc2 rfl ?_;constructor
   ·intro b10;refine⟨sK,?_⟩;intro b11;(iterate 2 refine⟨sK,?_⟩);exact⟨(b10,b11,(p1,p2,p3,p4,p5,p6),(q1,q2,q3,q4,q5,q6)),⟨hE,hE'⟩,v6.mk (pj [0,1,2,3,4]) rfl rfl⟩
   ·intro b11;refine⟨sK,?_⟩;intro b10;(iterate 2 refine⟨sK,?_⟩);exact⟨(b10,b11,(p1,p2,p3,p4,p5,p6),(q1,q2,q3,q4,q5,q6)),⟨hE,hE'⟩,v6.mk (pj [0,1,2,4,3]) rfl rfl⟩
  rintro⟨b10,b11,⟨p1,p2,p3,p4,p5,p6⟩,⟨q1,q2,q3,q4,q5,q6⟩⟩ ⟨hE,hE'⟩ hsat;dsimp only at hE hE';refine o7 λq' hq'=>?_;refine cG ?_;refine d8 (λh5=>?_) λh5=>?_
  ·apply hq';refine hQ _ _ _ ?_;exact⟨[],⟨congrArg Value.bool (decide_eq_false (λe=>h5 (by have e:=(congrArg jL.reqs e:R=R');subst e;rfl))).symm,rfl⟩,pk [0]⟩
  refine k7 _ (λw' hm=>lM d _ _ _ _ w' (q7 _ _ _ _ _ (hm 0 _ rfl).whole hE) (q7 _ _ _ _ _ (hm 0 _ rfl).whole hE') (hX ▸ (t5 _ (j0 hlt')).ex)) ?_;refine s8 (λh6=>?_) λh6=>?_
  ·rw[hX,hY] at h6;apply hq';refine hQ _ _ _ ?_;exact⟨[],⟨congrArg Value.bool (decide_eq_false (λe=>by have e:=(congrArg jL.reqs e:R=R');subst e;simp at h6)).symm,rfl⟩,pk [0]⟩
  rw[hX,hY] at h6;refine cG ?_;refine d8 (λh7=>?_) λh7=>?_
  ·apply hq';refine hQ _ _ _ ?_;exact⟨[],⟨congrArg Value.bool (decide_eq_false (λe=>h7 (by have e:=(congrArg jL.reqs e:R=R');subst e;rfl))).symm,rfl⟩,pk [0]⟩
  refine cG ?_;apply hq';refine d8 (λh8=>?_) λh8=>?_
  ·refine hQ _ _ _ ?_;exact⟨[],⟨congrArg Value.bool (decide_eq_false (λe=>h8 (by have e:=(congrArg jL.reqs e:R=R');subst e;rfl))).symm,rfl⟩,pk [0]⟩
  have hb:R[k]=R'[k]:=UB (l9.1 h5) (by simpa using h6) (l9.1 h7) (l9.1 h8);refine nwo ?_;exact⟨k+1,⟨om,G5 hlt' hlt2 ho hb⟩,by (try dsimp only);omega,v6.mk (pj [0,1,2]) rfl rfl⟩
 have z5:R=R':=J0 (show R.length<=k by omega) (show R'.length<=k by omega) ho;refine hQ _ _ _ ?_;subst z1 z2 z3 z4 z5;exact⟨[],⟨congrArg Value.bool (decide_eq_true rfl).symm,rfl⟩,pk [0]⟩
end Go.Proofs.YtpjhmeicbjkcdaaGreatDoor
namespace Go.Proofs.YtpjhmeicbjkcdaaGreatDoor
open Go Go.RowKit Go.Dw
theorem wV {h:Hp} {b o:Nat} {s l u p1 p2 p3 p4 p5:Value} (hc :∀j v,[s,p1,p2,p3,p4,p5,l,u][j]?=some v->h.cell? ⟨b,o+j,none⟩=some v) :∀j v,[p1,p2,p3,p4,p5][j]?=some v->h.cell? ⟨b,o+1+j,none⟩=some v:=by
 intro j v hj;rw[nX,V9 1 j];refine hc (j+1) v ?_;match j,hj with
 | 0,hj=>exact hj
 | 1,hj=>exact hj
 | 2,hj=>exact hj
 | 3,hj=>exact hj
 | 4,hj=>exact hj
 | j+5,hj=>simp at hj
set_option maxRecDepth 20000 in
set_option maxHeartbeats 4000000 in
theorem RO {k k2:YC} (g:MQ k) (g2:MQ k2) {cs cs2:List Value} (w:World) (hS:JB (Hp.whole w) k cs) (hS2:JB (Hp.whole w) k2 cs2) (hT:kU (Hp.whole w)) (hP:dT (Hp.whole w)) :
  j6 Tryz.prog 7 #[.agg cs.toArray,.agg cs2.toArray] w (v7 w (.bool true)):=by
 have hS0:=hS;have hS1:=hS2;have hsh:=GA g;obtain⟨A1,N1,C1,A2,N2,C2,A3,N3,C3,A4,N4,C4,A5,N5,C5,rfl,_⟩:=hS.ex;obtain⟨B1,M1,D1,B2,M2,D2,B3,M3,D3,B4,M4,D4,B5,M5,D5,rfl,_⟩:=hS2.ex;refine enterZ (cx 69) [.agg #[.int .u8 k.nm,.slice A1 N1 C1,.slice A2 N2 C2,.slice A3 N3 C3,.slice A4 N4 C4,.slice A5 N5 C5],.agg #[.int .u8 k2.nm,.slice B1 M1 D1,.slice B2 M2 D2,.slice B3 M3 D3,.slice B4 M4 D4,.slice B5 M5 D5]] [.tmp 4] Tryz.func7 ?_;intro b2 b3;refine o7 (λ_ kz=>kz _ _ ?_);refine o7 λq' hq'=>?_;refine k7 _ (λw' hm=>rV w' (hT.mono (hm 0 _ rfl).whole) (hP.mono (hm 0 _ rfl).whole)) ?_;apply hq';refine dQ rfl ?_;refine s6.cut (Hp×Hp×Nat×Nat×(Value×Value×Value×Value×Value×Value)×(Value×Value×Value×Value×Value×Value)) (λg=>[(5,.bx 5 0),(6,.bx 6 0)]) (λg=>[.hp (Hp.whole w),.box b2 [.int .u8 k.nm,.slice A1 N1 C1,.slice A2 N2 C2,.slice A3 N3 C3,.slice A4 N4 C4,.slice A5 N5 C5] 61,.box b3 [.int .u8 k2.nm,.slice B1 M1 D1,.slice B2 M2 D2,.slice B3 M3 D3,.slice B4 M4 D4,.slice B5 M5 D5] 61,.hp g.1,.hp g.2.1,.box g.2.2.1 [g.2.2.2.2.1.1,g.2.2.2.2.1.2.1,g.2.2.2.2.1.2.2.1,g.2.2.2.2.1.2.2.2.1,g.2.2.2.2.1.2.2.2.2.1,g.2.2.2.2.1.2.2.2.2.2] 30,.box g.2.2.2.1 [g.2.2.2.2.2.1,g.2.2.2.2.2.2.1,g.2.2.2.2.2.2.2.1,g.2.2.2.2.2.2.2.2.1,g.2.2.2.2.2.2.2.2.2.1,g.2.2.2.2.2.2.2.2.2.2] 30])
  (λg=>qB 4 g.1 (G0 k) [g.2.2.2.2.1.1,g.2.2.2.2.1.2.1,g.2.2.2.2.1.2.2.1,g.2.2.2.2.1.2.2.2.1,g.2.2.2.2.1.2.2.2.2.1,g.2.2.2.2.1.2.2.2.2.2]/\qB 4 g.2.1 (G0 k2) [g.2.2.2.2.2.1,g.2.2.2.2.2.2.1,g.2.2.2.2.2.2.2.1,g.2.2.2.2.2.2.2.2.1,g.2.2.2.2.2.2.2.2.2.1,g.2.2.2.2.2.2.2.2.2.2]) (s6.by_order cQ (.take 0 <| .take 2 <| .three 1 (.three 3 (.two 4 (.run 5 <| .run 6 <| .run 7 <| .done) 5 (.run 4 <| .run 6 <| .run 7 <| .done)) 4 (.two 3 (.run 5 <| .run 6 <| .run 7 <| .done) 5 (.run 3 <| .run 6 <| .run 7 <| .done)) 5 (.two 3 (.run 4 <| .run 6 <| .run 7 <| .done) 4 (.run 3 <| .run 6 <| .run 7 <| .done))) 4 (.two 1 (.two 3 (.run 5 <| .run 6 <| .run 7 <| .done) 5 (.run 3 <| .run 6 <| .run 7 <| .done)) 5 (.run 1 <| .run 3 <| .run 6 <| .run 7 <| .done)) 5 (.two 1 (.two 3 (.run 4 <| .run 6 <| .run 7 <| .done) 4 (.run 3 <| .run 6 <| .run 7 <| .done)) 4 (.run 1 <| .run 3 <| .run 6 <| .run 7 <| .done))) kr ?_) ?_
 ·refine⟨?_,?_,?_⟩
  ·refine call (λw' hm=>H7 g w' (hS0.mono (hm 0 _ rfl).whole) (hP.mono (hm 0 _ rfl).whole)) ?_;rintro _ _ ⟨H1,xs,rfl,rfl,_,hp⟩;obtain⟨a1,n1,c1,a2,n2,c2,a3,n3,c3,a4,n4,c4,a5,n5,c5,rfl,_⟩:=R7 hp;refine⟨sK,?_⟩;refine⟨?_,?_,?_⟩
   ·refine call (λw' hm=>H7 g2 w' (hS1.mono (hm 0 _ rfl).whole) (hP.mono (hm 0 _ rfl).whole)) ?_;rintro _ _ ⟨H2,ys,rfl,rfl,_,hp2⟩;obtain⟨u1,m1,e1,u2,m2,e2,u3,m3,e3,u4,m4,e4,u5,m5,e5,rfl,_⟩:=R7 hp2;refine⟨sK,?_⟩;constructor
    ·intro b5;refine⟨sK,?_⟩;intro b6;(iterate 2 refine⟨sK,?_⟩);exact⟨(H1,H2,b5,b6,(sv (G0 k).nm,.slice a1 n1 c1,.slice a2 n2 c2,.slice a3 n3 c3,.slice a4 n4 c4,.slice a5 n5 c5),(sv (G0 k2).nm,.slice u1 m1 e1,.slice u2 m2 e2,.slice u3 m3 e3,.slice u4 m4 e4,.slice u5 m5 e5)),⟨hp,hp2⟩,v6.mk (pj [0,1,2,3,4,5,6]) rfl rfl⟩
    ·intro b6;refine⟨sK,?_⟩;intro b5;(iterate 2 refine⟨sK,?_⟩);exact⟨(H1,H2,b5,b6,(sv (G0 k).nm,.slice a1 n1 c1,.slice a2 n2 c2,.slice a3 n3 c3,.slice a4 n4 c4,.slice a5 n5 c5),(sv (G0 k2).nm,.slice u1 m1 e1,.slice u2 m2 e2,.slice u3 m3 e3,.slice u4 m4 e4,.slice u5 m5 e5)),⟨hp,hp2⟩,v6.mk (pj [0,1,2,3,4,6,5]) rfl rfl⟩
   ·intro b5;refine⟨sK,?_⟩;constructor
    ·refine call (λw' hm=>H7 g2 w' (hS1.mono (hm 0 _ rfl).whole) (hP.mono (hm 0 _ rfl).whole)) ?_;rintro _ _ ⟨H2,ys,rfl,rfl,_,hp2⟩;obtain⟨u1,m1,e1,u2,m2,e2,u3,m3,e3,u4,m4,e4,u5,m5,e5,rfl,_⟩:=R7 hp2;refine⟨sK,?_⟩;intro b6;(iterate 2 refine⟨sK,?_⟩);exact⟨(H1,H2,b5,b6,(sv (G0 k).nm,.slice a1 n1 c1,.slice a2 n2 c2,.slice a3 n3 c3,.slice a4 n4 c4,.slice a5 n5 c5),(sv (G0 k2).nm,.slice u1 m1 e1,.slice u2 m2 e2,.slice u3 m3 e3,.slice u4 m4 e4,.slice u5 m5 e5)),⟨hp,hp2⟩,v6.mk (pj [0,1,2,3,5,4,6]) rfl rfl⟩
    ·intro b6;refine⟨sK,?_⟩;refine call (λw' hm=>H7 g2 w' (hS1.mono (hm 0 _ rfl).whole) (hP.mono (hm 0 _ rfl).whole)) ?_;rintro _ _ ⟨H2,ys,rfl,rfl,_,hp2⟩;obtain⟨u1,m1,e1,u2,m2,e2,u3,m3,e3,u4,m4,e4,u5,m5,e5,rfl,_⟩:=R7 hp2;(iterate 2 refine⟨sK,?_⟩);exact⟨(H1,H2,b5,b6,(sv (G0 k).nm,.slice a1 n1 c1,.slice a2 n2 c2,.slice a3 n3 c3,.slice a4 n4 c4,.slice a5 n5 c5),(sv (G0 k2).nm,.slice u1 m1 e1,.slice u2 m2 e2,.slice u3 m3 e3,.slice u4 m4 e4,.slice u5 m5 e5)),⟨hp,hp2⟩,v6.mk (pj [0,1,2,3,6,4,5]) rfl rfl⟩
   ·intro b6;refine⟨sK,?_⟩;constructor
    ·refine call (λw' hm=>H7 g2 w' (hS1.mono (hm 0 _ rfl).whole) (hP.mono (hm 0 _ rfl).whole)) ?_;rintro _ _ ⟨H2,ys,rfl,rfl,_,hp2⟩;obtain⟨u1,m1,e1,u2,m2,e2,u3,m3,e3,u4,m4,e4,u5,m5,e5,rfl,_⟩:=R7 hp2;refine⟨sK,?_⟩;intro b5;(iterate 2 refine⟨sK,?_⟩);exact⟨(H1,H2,b5,b6,(sv (G0 k).nm,.slice a1 n1 c1,.slice a2 n2 c2,.slice a3 n3 c3,.slice a4 n4 c4,.slice a5 n5 c5),(sv (G0 k2).nm,.slice u1 m1 e1,.slice u2 m2 e2,.slice u3 m3 e3,.slice u4 m4 e4,.slice u5 m5 e5)),⟨hp,hp2⟩,v6.mk (pj [0,1,2,3,5,6,4]) rfl rfl⟩
    ·intro b5;refine⟨sK,?_⟩;refine call (λw' hm=>H7 g2 w' (hS1.mono (hm 0 _ rfl).whole) (hP.mono (hm 0 _ rfl).whole)) ?_;rintro _ _ ⟨H2,ys,rfl,rfl,_,hp2⟩;obtain⟨u1,m1,e1,u2,m2,e2,u3,m3,e3,u4,m4,e4,u5,m5,e5,rfl,_⟩:=R7 hp2;(iterate 2 refine⟨sK,?_⟩);exact⟨(H1,H2,b5,b6,(sv (G0 k).nm,.slice a1 n1 c1,.slice a2 n2 c2,.slice a3 n3 c3,.slice a4 n4 c4,.slice a5 n5 c5),(sv (G0 k2).nm,.slice u1 m1 e1,.slice u2 m2 e2,.slice u3 m3 e3,.slice u4 m4 e4,.slice u5 m5 e5)),⟨hp,hp2⟩,v6.mk (pj [0,1,2,3,6,5,4]) rfl rfl⟩
  ·intro b5;refine⟨sK,?_⟩;constructor
   ·refine call (λw' hm=>H7 g w' (hS0.mono (hm 0 _ rfl).whole) (hP.mono (hm 0 _ rfl).whole)) ?_;rintro _ _ ⟨H1,xs,rfl,rfl,_,hp⟩;obtain⟨a1,n1,c1,a2,n2,c2,a3,n3,c3,a4,n4,c4,a5,n5,c5,rfl,_⟩:=R7 hp;refine⟨sK,?_⟩;constructor
    ·refine call (λw' hm=>H7 g2 w' (hS1.mono (hm 0 _ rfl).whole) (hP.mono (hm 0 _ rfl).whole)) ?_;rintro _ _ ⟨H2,ys,rfl,rfl,_,hp2⟩;obtain⟨u1,m1,e1,u2,m2,e2,u3,m3,e3,u4,m4,e4,u5,m5,e5,rfl,_⟩:=R7 hp2;refine⟨sK,?_⟩;intro b6;(iterate 2 refine⟨sK,?_⟩);exact⟨(H1,H2,b5,b6,(sv (G0 k).nm,.slice a1 n1 c1,.slice a2 n2 c2,.slice a3 n3 c3,.slice a4 n4 c4,.slice a5 n5 c5),(sv (G0 k2).nm,.slice u1 m1 e1,.slice u2 m2 e2,.slice u3 m3 e3,.slice u4 m4 e4,.slice u5 m5 e5)),⟨hp,hp2⟩,v6.mk (pj [0,1,2,4,5,3,6]) rfl rfl⟩
    ·intro b6;refine⟨sK,?_⟩;refine call (λw' hm=>H7 g2 w' (hS1.mono (hm 0 _ rfl).whole) (hP.mono (hm 0 _ rfl).whole)) ?_;rintro _ _ ⟨H2,ys,rfl,rfl,_,hp2⟩;obtain⟨u1,m1,e1,u2,m2,e2,u3,m3,e3,u4,m4,e4,u5,m5,e5,rfl,_⟩:=R7 hp2;(iterate 2 refine⟨sK,?_⟩);exact⟨(H1,H2,b5,b6,(sv (G0 k).nm,.slice a1 n1 c1,.slice a2 n2 c2,.slice a3 n3 c3,.slice a4 n4 c4,.slice a5 n5 c5),(sv (G0 k2).nm,.slice u1 m1 e1,.slice u2 m2 e2,.slice u3 m3 e3,.slice u4 m4 e4,.slice u5 m5 e5)),⟨hp,hp2⟩,v6.mk (pj [0,1,2,4,6,3,5]) rfl rfl⟩
   ·intro b6;refine⟨sK,?_⟩;refine call (λw' hm=>H7 g w' (hS0.mono (hm 0 _ rfl).whole) (hP.mono (hm 0 _ rfl).whole)) ?_;rintro _ _ ⟨H1,xs,rfl,rfl,_,hp⟩;obtain⟨a1,n1,c1,a2,n2,c2,a3,n3,c3,a4,n4,c4,a5,n5,c5,rfl,_⟩:=R7 hp;refine⟨sK,?_⟩;refine call (λw' hm=>H7 g2 w' (hS1.mono (hm 0 _ rfl).whole) (hP.mono (hm 0 _ rfl).whole)) ?_;rintro _ _ ⟨H2,ys,rfl,rfl,_,hp2⟩;obtain⟨u1,m1,e1,u2,m2,e2,u3,m3,e3,u4,m4,e4,u5,m5,e5,rfl,_⟩:=R7 hp2;(iterate 2 refine⟨sK,?_⟩);exact⟨(H1,H2,b5,b6,(sv (G0 k).nm,.slice a1 n1 c1,.slice a2 n2 c2,.slice a3 n3 c3,.slice a4 n4 c4,.slice a5 n5 c5),(sv (G0 k2).nm,.slice u1 m1 e1,.slice u2 m2 e2,.slice u3 m3 e3,.slice u4 m4 e4,.slice u5 m5 e5)),⟨hp,hp2⟩,v6.mk (pj [0,1,2,5,6,3,4]) rfl rfl⟩
  ·intro b6;refine⟨sK,?_⟩;constructor
   ·refine call (λw' hm=>H7 g w' (hS0.mono (hm 0 _ rfl).whole) (hP.mono (hm 0 _ rfl).whole)) ?_;rintro _ _ ⟨H1,xs,rfl,rfl,_,hp⟩;obtain⟨a1,n1,c1,a2,n2,c2,a3,n3,c3,a4,n4,c4,a5,n5,c5,rfl,_⟩:=R7 hp;refine⟨sK,?_⟩;constructor
    ·refine call (λw' hm=>H7 g2 w' (hS1.mono (hm 0 _ rfl).whole) (hP.mono (hm 0 _ rfl).whole)) ?_;rintro _ _ ⟨H2,ys,rfl,rfl,_,hp2⟩;obtain⟨u1,m1,e1,u2,m2,e2,u3,m3,e3,u4,m4,e4,u5,m5,e5,rfl,_⟩:=R7 hp2;refine⟨sK,?_⟩;intro b5;(iterate 2 refine⟨sK,?_⟩);exact⟨(H1,H2,b5,b6,(sv (G0 k).nm,.slice a1 n1 c1,.slice a2 n2 c2,.slice a3 n3 c3,.slice a4 n4 c4,.slice a5 n5 c5),(sv (G0 k2).nm,.slice u1 m1 e1,.slice u2 m2 e2,.slice u3 m3 e3,.slice u4 m4 e4,.slice u5 m5 e5)),⟨hp,hp2⟩,v6.mk (pj [0,1,2,4,5,6,3]) rfl rfl⟩
    ·intro b5;refine⟨sK,?_⟩;refine call (λw' hm=>H7 g2 w' (hS1.mono (hm 0 _ rfl).whole) (hP.mono (hm 0 _ rfl).whole)) ?_;rintro _ _ ⟨H2,ys,rfl,rfl,_,hp2⟩;obtain⟨u1,m1,e1,u2,m2,e2,u3,m3,e3,u4,m4,e4,u5,m5,e5,rfl,_⟩:=R7 hp2;(iterate 2 refine⟨sK,?_⟩);exact⟨(H1,H2,b5,b6,(sv (G0 k).nm,.slice a1 n1 c1,.slice a2 n2 c2,.slice a3 n3 c3,.slice a4 n4 c4,.slice a5 n5 c5),(sv (G0 k2).nm,.slice u1 m1 e1,.slice u2 m2 e2,.slice u3 m3 e3,.slice u4 m4 e4,.slice u5 m5 e5)),⟨hp,hp2⟩,v6.mk (pj [0,1,2,4,6,5,3]) rfl rfl⟩
   ·intro b5;refine⟨sK,?_⟩;refine call (λw' hm=>H7 g w' (hS0.mono (hm 0 _ rfl).whole) (hP.mono (hm 0 _ rfl).whole)) ?_;rintro _ _ ⟨H1,xs,rfl,rfl,_,hp⟩;obtain⟨a1,n1,c1,a2,n2,c2,a3,n3,c3,a4,n4,c4,a5,n5,c5,rfl,_⟩:=R7 hp;refine⟨sK,?_⟩;refine call (λw' hm=>H7 g2 w' (hS1.mono (hm 0 _ rfl).whole) (hP.mono (hm 0 _ rfl).whole)) ?_;rintro _ _ ⟨H2,ys,rfl,rfl,_,hp2⟩;obtain⟨u1,m1,e1,u2,m2,e2,u3,m3,e3,u4,m4,e4,u5,m5,e5,rfl,_⟩:=R7 hp2;(iterate 2 refine⟨sK,?_⟩);exact⟨(H1,H2,b5,b6,(sv (G0 k).nm,.slice a1 n1 c1,.slice a2 n2 c2,.slice a3 n3 c3,.slice a4 n4 c4,.slice a5 n5 c5),(sv (G0 k2).nm,.slice u1 m1 e1,.slice u2 m2 e2,.slice u3 m3 e3,.slice u4 m4 e4,.slice u5 m5 e5)),⟨hp,hp2⟩,v6.mk (pj [0,1,2,5,6,4,3]) rfl rfl⟩
 rintro⟨H1,H2,b5,b6,⟨p0,p1,p2,p3,p4,p5⟩,⟨q0,q1,q2,q3,q4,q5⟩⟩ ⟨hp,hq⟩ hsat;dsimp only at hp hq ⊢;obtain⟨a1,n1,c1,a2,n2,c2,a3,n3,c3,a4,n4,c4,a5,n5,c5,e,h1,h2,h3,h4,h5⟩:=hp.ex;obtain⟨u1,m1,e1,u2,m2,e2,u3,m3,e3,u4,m4,e4,u5,m5,e5,e',j1,j2,j3,j4,j5⟩:=hq.ex;have hl5:=h5.len;have jl5:=j5.len;have hn5:=hsh.nr;have jn5:=(GA g2).nr;have hsr:=hsh.sr;clear h1 h2 h3 h4 j1 j2 j3 j4;simp only[FK,and_true] at e e';obtain⟨rfl,rfl,rfl,rfl,rfl,rfl⟩:=e;obtain⟨rfl,rfl,rfl,rfl,rfl,rfl⟩:=e';have eT :∀p:jL,decide (p=p)=true:=λp=>decide_eq_true rfl;refine s6.by_order cQ (.take 0 <| .take 1 <| .take 3 <| .take 4 <| .run 2 <| .run 5 <| .take 6 <| .take 7 <| .take 8 <| .take 9 <| .run 10 <| .take 11 <| .take 12 <| .done) kr ?_;refine k7 _ (λw' hm=>AU w' (hp.mono (hm 3 _ rfl).whole) (hq.mono (hm 4 _ rfl).whole) hsh) ?_;refine⟨sK,?_⟩;refine k7 _ (λw' hm=>GF w' (hp.mono (hm 3 _ rfl).whole) (hq.mono (hm 4 _ rfl).whole) hsh) ?_;refine⟨sK,?_⟩;refine UJ ?_;refine s8 (λh2=>?_) λh2=>?_
 ·exfalso
  simp at h2
 refine k7 _ (λw' hm=>AU w' (hp.mono (hm 3 _ rfl).whole) (hp.mono (hm 3 _ rfl).whole) hsh) ?_;refine⟨sK,?_⟩;refine s8 (λh3=>?_) λh3=>?_
 ·exfalso
  rw[eT] at h3;cases h3
 refine u6.mk Nat (λi=>[(5,.bx 5 0),(6,.bx 6 0),(7,.v (iQ i))]) (λ_=>[.hp (Hp.whole w),.box b2 [.int .u8 k.nm,.slice A1 N1 C1,.slice A2 N2 C2,.slice A3 N3 C3,.slice A4 N4 C4,.slice A5 N5 C5] 61,.box b3 [.int .u8 k2.nm,.slice B1 M1 D1,.slice B2 M2 D2,.slice B3 M3 D3,.slice B4 M4 D4,.slice B5 M5 D5] 61,.hp H1,.hp H2,.box b5 [sv (G0 k).nm,.slice a1 n1 c1,.slice a2 n2 c2,.slice a3 n3 c3,.slice a4 n4 c4,.slice a5 n5 c5] 30,.box b6 [sv (G0 k2).nm,.slice u1 m1 e1,.slice u2 m2 e2,.slice u3 m3 e3,.slice u4 m4 e4,.slice u5 m5 e5] 30])
  (λi=>i<=n5) (λi=>n5 - i) 0 (f8 _) (v6.mk (λ_ _ h=>h) rfl rfl) ?_
 rintro i hi;dsimp only at hi ⊢;refine d8 (λh4=>?_) λh4=>?_
 ·have hil:i < (G0 k).reqs.length:=om
  refine u6.mk Nat (λj=>[(5,.bx 5 0),(6,.bx 6 0),(7,.v (iQ i)),(8,.v (iQ j))]) (λ_=>[.hp (Hp.whole w),.box b2 [.int .u8 k.nm,.slice A1 N1 C1,.slice A2 N2 C2,.slice A3 N3 C3,.slice A4 N4 C4,.slice A5 N5 C5] 61,.box b3 [.int .u8 k2.nm,.slice B1 M1 D1,.slice B2 M2 D2,.slice B3 M3 D3,.slice B4 M4 D4,.slice B5 M5 D5] 61,.hp H1,.hp H2,.box b5 [sv (G0 k).nm,.slice a1 n1 c1,.slice a2 n2 c2,.slice a3 n3 c3,.slice a4 n4 c4,.slice a5 n5 c5] 30,.box b6 [sv (G0 k2).nm,.slice u1 m1 e1,.slice u2 m2 e2,.slice u3 m3 e3,.slice u4 m4 e4,.slice u5 m5 e5] 30])
   (λj=>j<=m5) (λj=>m5 - j) 0 (f8 _) (v6.mk (λ_ _ h=>h) rfl rfl) ?_
  rintro j hj;dsimp only at hj ⊢;refine d8 (λh6=>?_) λh6=>?_
  ·have hjl:j < (G0 k2).reqs.length:=om
   refine s6.by_order cQ (.take 0 <| .take 1 <| .take 2 <| .take 3 <| .take 4 <| .take 5 <| .take 6 <| .take 7 <| .take 8 <| .take 9 <| .take 10 <| .take 11 <| .take 13 <| .take 14 <| .take 15 <| .take 16 <| .take 17 <| .take 18 <| .take 19 <| .take 20 <| .take 21 <| .take 22 <| .take 23 <| .take 24 <| .run 12 <| .run 25 <| .take 26 <| .done) kr ?_;refine I1 cQ (e:=74) rfl h5 i rfl hil λb o cs hcs hR hcell=>?_;obtain⟨xs,rfl,hEa⟩:=hR;obtain⟨x1,x2,x3,x4,x5,rfl⟩:=CU hEa;refine T7 cQ (i:=3) rfl (wV hcell) rfl ?_;refine I1 cQ (e:=74) rfl j5 j rfl hjl λb o cs hcs hR hcell=>?_;obtain⟨xs,rfl,hEb⟩:=hR;obtain⟨y1,y2,y3,y4,y5,rfl⟩:=CU hEb;refine T7 cQ (i:=4) rfl (wV hcell) rfl ?_;refine I1 cQ (e:=74) rfl h5 i rfl hil λb o cs hcs hR hcell=>?_;obtain⟨xs,rfl,hEc⟩:=hR;obtain⟨z1,z2,z3,z4,z5,rfl⟩:=CU hEc;refine T7 cQ (i:=3) rfl (wV hcell) rfl ?_;refine I1 cQ (e:=74) rfl j5 j rfl hjl λb o cs hcs hR hcell=>?_;obtain⟨xs,rfl,hEd⟩:=hR;obtain⟨t1,t2,t3,t4,t5,rfl⟩:=CU hEd;refine T7 cQ (i:=4) rfl (wV hcell) rfl ?_;refine k7 _ (λw' hm=>gH 4 _ _ _ _ w' (q7 _ _ _ _ _ (hm 3 _ rfl).whole hEa) (q7 _ _ _ _ _ (hm 4 _ rfl).whole hEb) (hsr _ (j0 hil)).ex) ?_;refine⟨sK,?_⟩;refine k7 _ (λw' hm=>lM 4 _ _ _ _ w' (q7 _ _ _ _ _ (hm 3 _ rfl).whole hEc) (q7 _ _ _ _ _ (hm 4 _ rfl).whole hEd) (hsr _ (j0 hil)).ex) ?_;refine⟨sK,?_⟩;refine UJ ?_;refine s8 (λh7=>?_) λh7=>?_
   ·exfalso
    simp at h7
   ·refine nwo ?_;exact⟨j+1,om,om,v6.mk (λ_ _ h=>h) rfl rfl⟩
  ·refine nwo ?_;exact⟨i+1,om,om,v6.mk (λ_ _ h=>h) rfl rfl⟩
 ·exact⟨[],⟨rfl,rfl⟩,pk [0]⟩
end Go.Proofs.YtpjhmeicbjkcdaaGreatDoor
namespace Go.Proofs.YtpjhmeicbjkcdaaGreatDoor
open Go Go.RowKit Go.Dw Go.ChangeShapes Go.WideShapes Go.ChangeAt
set_option maxRecDepth 100000 in
theorem kO (os:Os) (started:os.Started) (H:Type) (enc:TypeId×Value->H) :
  ReturnsInHanded {} Tryz.checked os 7 .any (λw args=>(Rows.documentEqualsSpec.pre enc Tryz.prog Tryz.f7 [] false w args/\laidMetH Tryz.prog cI w)/\sizedMet enc Tryz.prog Tryz.f7 (OpenSpec.ofChange Rows.documentEqualsSpec) false w args)
   (Rows.documentEqualsSpec.post enc Tryz.prog Tryz.f7 false true false false):=by
 refine returnsInHanded_of_change_and (C:=Tryz.checked) (X:=λw _=>laidMetH Tryz.prog cI w) (λ_ _ _ hh h=>h.of_heap hh) own started kr Tryz.func7
  (ChangeSpec.witness_shaped (enc:=enc) (C:=Tryz.checked) (os:=os) (X:=λw _=>laidMetH Tryz.prog cI w) false (World.laidAll Tryz.prog os cI) #[.agg #[.int .u8 0,zl,zl,zl,zl,zl],.agg #[.int .u8 0,zl,zl,zl,zl,zl]] 8 (World.laidAll_os _ _ _)
   (CN os _) kr kr kr (VK os _)) ?_
 intro W base args ds gs before hval0 hW _ _ hL _;have hval :∀(j:Nat) t v,Tryz.f7.params[j]?=some t->args[j]?=some v->Value.okWide Tryz.prog W .any base t v:=hval0;have hW':=hW;obtain⟨p,q,hA0,hV,rfl,hfz,hnd⟩:=hW;have hA:DataW.TrodAll enc Tryz.prog W 0 (λ_=>true) true Tryz.f7.params.toList args.toList ds p:=hA0;rw[Tryz.params7] at hA hval;obtain⟨v0,v1,d0,d1,p0,p1,rfl,rfl,rfl,h0,h1⟩:=trodAll_two hA;obtain⟨k0,cs0,rfl,g0,hS0⟩:=UX (hval 0 _ v0 rfl rfl) h0;obtain⟨k1,cs1,rfl,g1,hS1⟩:=UX (hval 1 _ v1 rfl rfl) h1;exact IG rfl kr kr hW' rfl rfl rfl (RO g0 g1 W hS0 hS1 (qV hL) (qW hL))
theorem pY:Rows.DocumentEqualsSaid:=
 OpenClaim.holds_of_wide 7 Tryz.f7 rfl rfl rfl rfl rfl rfl rfl ⟨rfl,rfl,rfl,rfl,rfl⟩ rfl rfl rfl rfl rfl kr Tryz.func7 documentEquals_facts
  (of_decide_eq_true kr) (by unfold Func.isWrapper;first | (rw[if_pos (by decide +kernel)];kernel_rfl) | (rw[if_neg (by decide +kernel)];exact⟨rfl,rfl⟩))
  (λos started H enc _=>kO os started H enc)
theorem documentEquals_holds:Rows.DocumentEqualsCardSaid:=
 Claim7.holds_tied_plain_at .later [] [.data,.data,.data,.data,.sentinel,.sentinel,.listed,.data,.pinned] true (true,"5524b49a99c14b84714612f17c4273e75e7ba66b67a78b9d8144231c70c6d12f") true
  pY (λ_ h=>by cases h) kr (λ_ h=>by cases h) documentEquals_row_tie rfl ⟨rfl,rfl⟩ kr rfl
  (λf fn hf hfn=>by
   obtain rfl:f=7:=Y4 ((show Tryz.prog.funcNamed "dowel/dowellaw36.DocumentEquals" = some 7 by kernel_rfl).symm.trans hf) |>.symm
   obtain rfl:fn=Tryz.f7:=(Y4 (Tryz.func7.symm.trans hfn)).symm;exact⟨kr,λj t ht=>by
    rw[Tryz.params7] at ht;have hm:t∈[61,61]:=by simpa using Array.mem_of_getElem? ht
    have hall:([61,61].all λu=>!Tryz.prog.wantsStandIn u)=true:=kr
    exact (show Tryz.prog.wantsStandIn t=false by simpa using z6.1 hall t hm)⟩)
  documentEquals_goes.symm
end Go.Proofs.YtpjhmeicbjkcdaaGreatDoor
