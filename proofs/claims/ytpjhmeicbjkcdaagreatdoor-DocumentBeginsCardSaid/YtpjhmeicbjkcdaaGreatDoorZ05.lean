/- Parts of one proof, joined. No condition of its own. -/
import Derived.Test.YtpjhmeicbjkcdaaGreatDoorZ04
import Derived.LaidMore
import Derived.OpenShut
import Derived.Stop.Joined
import Derived.MakeChecks
import Derived.LaidSub
import Derived.Lay
import Derived.LaidOnce
import Derived.ChangeMaps5
import Derived.Test.YtpjhmeicbjkcdaaGreatDoorTie
import Derived.Test.YtpjhmeicbjkcdaaGreatDoorCards
import Derived.Test.YtpjhmeicbjkcdaaGreatDoorVc
open Bool renaming and_eq_true->j4,and_true->CD,or_eq_true->Q3,not_eq_true'->yW
open Classical renaming not_not->B9,byContradiction->j3
open Int renaming mul_ediv_cancel_left->Pm,fdiv_eq_ediv_of_nonneg->Oc,natCast_ediv->Iv,eq_ofNat_of_zero_le->S8
open List renaming length_map->j6,length_append->d6,length_cons->d7,length_nil->i6,append_assoc->f8,drop_drop->J7,drop_left'->X7,length->H4,length_drop->j9,length_pos_iff->D1,length_take->j1,map_append->E1,map_cons->M2,mem_cons->p9,mem_of_mem_drop->A8,mem_of_mem_take->A7,nil_append->I4,take_append_drop->F8,take_append_of_le_length->qP,take_of_length_le->o6,drop_eq_getElem_cons->q6,drop_length->oW,flatMap_cons->u7,getElem?_eq_getElem->i7,mem_append->y8,mem_map->y7,mem_singleton->v6,take_add_one->yU,take_length->q8,take_take->Ny,all_eq_true->s7,any_eq_true->E5,getD_eq_getElem?_getD->e8,length_eq_zero_iff->F7,mem_append_left->L7,mem_flatMap->Is,take_add->UW,append_nil->k8,flatMap_def->oU,flatten_append->UO,flatten_cons->s6,length_singleton->p7,take_left'->X6,getElem?_append_left->X3,getElem?_append_right->L8,getElem?_eq_some_iff->p6,all_append->sL,intercalate->oT,length_replicate->O1,replicate->m6,any_eq_false->K8,length_range->K7,range->x8,getElem_mem->j5,take_succ_eq_append_getElem->Y6,getElem?_cons_succ->aQ,getElem?_cons_zero->aP,getElem?_drop->bY,getElem?_map->E2,getElem?_range->UN,getElem?_take_of_lt->Pl,mem_iff_getElem->qQ,take_zero->Q0,getElem_of_mem->sN,mem_of_getElem?->eE,drop_zero->G6
open List.cons renaming inj->E8
open Nat renaming le_refl->j8,lt_of_le_of_lt->p8,zero_le->j0,add_zero->E7,not_lt_zero->M1,zero_add->w7,lt_succ_self->Iq,min_eq_left->T6,zero_lt_succ->E3,add_sub_cancel_left->CY,add_assoc->BZ,add_mul->D2,div_add_mod->sJ,div_le_self->D0,le_trans->q9,mod_eq_of_lt->C7,mod_lt->A6,mul_add->B7,mul_assoc->A0,mul_comm->m8,mul_le_mul_right->y9,pos_of_ne_zero->E4,pow_add->jR,zero_mul->bV,gcd->G8,gcd_dvd_left->CX,gcd_pos_of_pos_right->iD,le_of_dvd->UV,eq_zero_or_pos->u9,mul_div_cancel_left->Po,mul_one->D7,one_mul->O8,pow_le_pow_right->E9,ble->P9,eq_of_beq_eq_true->I3,le_max_left->X5,le_max_right->U8,le_of_ble_eq_true->D3,le_of_succ_le_succ->D5,max->uW,two_pow_pos->cC
open Option.some renaming inj->M0,injEq->l8
namespace Go.Proofs.YtpjhmeicbjkcdaaGreatDoor
open Go Go.RowKit Go.Dw
theorem fU (s:d8) (hs:s.length < 1000000) (w:World) :
  j2 Tryz.prog 175 #[sv s] w (fQ w λv cs=>∃g,cs = [.hp g]/\HH 65536 s g v):=by
 refine enterZ (cx 8) [sv s] [.cell 2 141,.tmp 3] Tryz.func175 ?_;intro b2;refine call (λw' hm=>DM s 65536 dc hs w') ?_;rintro _ _ ⟨g,rfl,n1,a1,k1,c1,a2,k2,c2,x,y,rfl,hr⟩;exact⟨[.hp g],⟨g,rfl,n1,a1,k1,c1,a2,k2,c2,x,y,rfl,hr⟩,pk [0,2]⟩
theorem fM {s:d8} {g:Hp} {v:Value} (h:HH 65536 s g v) (hn:H5 s=0) :∃r,v=.tuple #[.agg (fR r).toArray,iQ 0]/\UK s g r:=by
 have h2:HH 400 s g v:=by
  have e:X9 400 s=0:=hn;unfold HH at h ⊢;rw[MP hn] at h;rw[e];exact h
 obtain⟨r,h3,h4⟩:=PD h2 hn;rw[hn] at h3;exact⟨r,h3,h4⟩
set_option maxHeartbeats 4000000 in
set_option maxRecDepth 10000 in
theorem rE {k h:Hp} {rb b kk dd:Nat} {r:RS} {a:Option Addr} {n c:Nat} {L:List kP} {ad:Option Addr} {nd cd:Nat} {DD:List O7} (w:World) (hin:((MR rb b kk ad nd cd).h.join h).In w) (hdj:(MR rb b kk ad nd cd).h.dj h) (hk:k.le ((Hp.whole w).minus ((MR rb b kk ad nd cd).h.join h))) (hR:G0 k h b r) (hg:X4 r)
  (hL:Sl (mK dd) 8 ((Hp.whole w).minus ((MR rb b kk ad nd cd).h.join h)) a n c L) (hn:L.length < 1000000) (hD:Sl (E0 P2) 4 ((Hp.whole w).minus ((MR rb b kk ad nd cd).h.join h)) ad nd cd DD) (hdn:DD.length < 1000000) :
  j2 Tryz.prog 84 #[pQ rb,.slice a n c] w (O3 w ((MR rb b kk ad nd cd).h.join h) λv h' cs=>∃ys H,cs = [.box rb ys 155,.hp H]/\((∃xs,v=.agg xs.toArray/\xs.length=8/\mK 9 H (eQ (L.map λx:kP=>x.1) (DD.map λx:O7=>x.1) r).2 xs)/\(∃kk',ys=H8 b kk' ad nd cd)/\G0 k h' b (eQ (L.map λx:kP=>x.1) (DD.map λx:O7=>x.1) r).1)):=by
 have hlen:=hL.len;have ok0:=Ok.startB hin hdj;refine enterMSZ (cx 95) [pQ rb,.slice a n c] ok0 [.cell 4 74] Tryz.func84 ?_;obtain⟨c0,hc0⟩ :∃c0,c0=(Hp.whole w).minus ((MR rb b kk ad nd cd).h.join h):=⟨_,rfl⟩
 rw[<-hc0] at hk hD hL ⊢;obtain⟨names,hnames⟩ :∃l,l=L.map λx:kP=>x.1:=⟨_,rfl⟩
 rw[<-hnames];have hnl:n=names.length:=by rw[hnames,j6];exact hlen
 obtain⟨dims,hdims⟩ :∃l,l=DD.map λx:O7=>x.1:=⟨_,rfl⟩
 rw[<-hdims];intro b3 b4;refine m9 λq' hq'=>?_;apply hq';refine nQ [.hp c0,.hp h,.box rb (H8 b (kk) ad nd cd) 155,.box b3 [.slice a n c] 28,.box b4 [zs,iQ 0,zs,zl,zs,zl,zs,zs] 74] λq' hq'=>?_;refine k6 (i:=1) rfl (λw0 w' hok=>M6 (n:=names.length) (m:=64) (by rw[hnl]) rfl w' (hok.mem 1 _ rfl) (DR.mk (hk.trans (hok.le01 rfl rfl)) hR (hok.bx1 (j:=2) (n:=0) rfl rfl dc rfl))) ?_;rintro _ h1 _ ⟨rfl,hR1⟩;have hR1:G0 k h1 b (H6 (r) names.length 64):=hR1;apply hq';refine nQ [.hp c0,.hp h1,.box rb (H8 b (kk) ad nd cd) 155,.box b3 [.slice a n c] 28,.box b4 [zs,iQ 0,zs,zl,zs,zl,zs,zs] 74] λq' hq'=>?_;refine lR 2 0 ?_;refine k6 (i:=1) rfl (λw0 w' hok=>l6 w' (hok.mem 1 _ rfl) (hok.kle rfl rfl hk) hR1) ?_;rintro _ h2 _ ⟨rfl,hR2⟩;have hR2:G0 k h2 b (s8 (H6 (r) names.length 64) W7):=hR2;obtain⟨r2,er2⟩ :∃x,x=s8 (H6 (r) names.length 64) W7:=⟨_,rfl⟩
 rw[<-er2] at hR2;apply hq';refine nQ [.hp c0,.hp h2,.box rb (H8 b (kk) ad nd cd) 155,.box b3 [.slice a n c] 28,.box b4 [zs,iQ 0,zs,zl,zs,zl,zs,zs] 74] λq' hq'=>?_;refine call (λw' hm=>U4 _ _ _ w') ?_;rintro _ _ ⟨b5,b6,rfl,rfl⟩;refine k6 (i:=1) rfl (λw0 w' hok=>O6 (cap:=[pQ b5,pQ b6]) (chk:=Z6 names) w' (hok.mem 1 _ rfl) (DR.mk (hk.trans (hok.le01 rfl rfl)) hR2 (hok.bx1 (j:=2) (n:=0) rfl rfl dc rfl)) (λw1 hi1 s _=>S2 (cap:=[pQ b3]) s w1 om (by rw[<-hnl];exact hi1.whole.cell (hok.bx1 (j:=5) (n:=0) rfl rfl dc rfl)) (hi1.whole.cell (hok.bx1 (j:=6) (n:=0) rfl rfl dc rfl)) (λw2 hi2 i hi=>by
   have hle:c0.le (Hp.whole w2):=((hok.le01 rfl rfl).trans hi1.whole).trans hi2.whole;subst hnames;exact IS (L:=L) i w2 ((hi1.whole.trans hi2.whole).cell (hok.bx1 (j:=3) (n:=0) rfl rfl dc rfl)) (hL.mono (O2 _) hle) hi))) ?_
 rintro _ h3 _ ⟨rfl,rfl,hR3⟩;obtain⟨A,hA⟩ :∃x,x=L0 r2 (Z6 names):=⟨_,rfl⟩
 rw[<-hA] at hR3 ⊢;intro b7;apply hq';refine nQ [.hp c0,.hp h3,.box rb (H8 b (kk) ad nd cd) 155,.box b3 [.slice a n c] 28,.box b4 [zs,iQ 0,zs,zl,zs,zl,zs,zs] 74,.box b5 [iQ n] 3,.box b6 [.func (.func 173) #[] #[pQ b3]] 110,.box b7 [sv A.2,iQ 0,zs,zl,zs,zl,zs,zs] 74] λq' hq'=>?_;refine lR 2 0 ?_;refine k6 (i:=1) rfl (λw0 w' hok=>l6 w' (hok.mem 1 _ rfl) (hok.kle rfl rfl hk) hR3) ?_;rintro _ h4 _ ⟨rfl,hR4⟩;have hR4:G0 k h4 b (s8 A.1 [58]):=hR4;obtain⟨r4,er4⟩ :∃x,x=s8 A.1 [58]:=⟨_,rfl⟩
 rw[<-er4] at hR4;apply hq';refine nQ [.hp c0,.hp h4,.box rb (H8 b (kk) ad nd cd) 155,.box b3 [.slice a n c] 28,.box b4 [zs,iQ 0,zs,zl,zs,zl,zs,zs] 74,.box b5 [iQ n] 3,.box b6 [.func (.func 173) #[] #[pQ b3]] 110,.box b7 [sv A.2,iQ 0,zs,zl,zs,zl,zs,zs] 74] λq' hq'=>?_;refine iW cQ (i:=2) (j:=2) rfl rfl rfl (by show 2 < 3;decide) rfl rfl ?_;apply hq';refine nQ [.hp c0,.hp h4,.box rb (H8 b (0) ad nd cd) 155,.box b3 [.slice a n c] 28,.box b4 [zs,iQ 0,zs,zl,zs,zl,zs,zs] 74,.box b5 [iQ n] 3,.box b6 [.func (.func 173) #[] #[pQ b3]] 110,.box b7 [sv A.2,iQ 0,zs,zl,zs,zl,zs,zs] 74] λq' hq'=>?_;obtain⟨E,hE⟩ :∃x,x=J8 dims 8 r4 0:=⟨_,rfl⟩
 refine pS (i:=2) (j:=1) dc rfl rfl (λw0 w' hok=>xE hdn 8 dc k h4 rb b r4 0 ad nd cd 1 w' dc (hok.inJ (i:=2) (j:=1) (c:=.box rb (H8 b 0 ad nd cd) 155) (d:=.hp h4) rfl rfl) (hok.disj 2 1 _ _ dc rfl rfl) (hk.trans (hok.le2 (i:=2) (j:=1) (m:=0) dc dc rfl rfl rfl)) hR4 (hD.mono (j7 _) (hok.le2 (i:=2) (j:=1) (m:=0) dc dc rfl rfl rfl)) dc) ?_;rintro _ _ h9 H9 ⟨⟨xs,rfl,hx5,hE9⟩,rfl,hR9⟩;rw[<-hdims,<-hE] at hE9 hR9 ⊢;have hE2:=hE9;obtain⟨Y,hY⟩ :∃Y,Y=E.2.2:=⟨_,rfl⟩
 rw[<-hY] at hE2;obtain⟨op9,f9,fac9,args9⟩:=Y;obtain⟨a9,n9,c9,a8,n8,c8,rfl,_,_⟩:=hE2;obtain⟨kx,hkx⟩ :∃kx,kx=E.2.1:=⟨_,rfl⟩
 rw[<-hkx];have gE:X4 E.1:=by
  rw[hE,er4,hA,er2];exact o7.good ((((o7.lim r _ 64).trans (o7.exp _ _)).trans ((o7.nam _ _).trans (o7.exp _ _))).trans (o7.expr dims 8 _ 0)) hg
 apply hq';refine nQ [.hp c0,.hp h9,.box rb (H8 b (kx) ad nd cd) 155,.box b3 [.slice a n c] 28,.box b4 [zs,iQ 0,zs,zl,zs,zl,zs,zs] 74,.box b5 [iQ n] 3,.box b6 [.func (.func 173) #[] #[pQ b3]] 110,.box b7 [sv A.2,iQ op9,sv f9.1,.slice a9 n9 c9,sv fac9,.slice a8 n8 c8,zs,zs] 74,.hp H9] λq' hq'=>?_;refine lR 2 0 ?_;refine k6 (i:=1) rfl (λw0 w' hok=>cR (s:=iG) w' (hok.mem 1 _ rfl) (hok.kle rfl rfl hk) hR9) ?_;rintro _ h10 _ ⟨rfl,rfl,hR10⟩;obtain⟨lo,hlo⟩ :∃x,x=(if S7 E.1 iG=true then L9 (C6 E.1) else (E.1,[])):=⟨_,rfl⟩
 have hlo0:=hlo;apply hq';refine v7 (λglo=>?_) λglo=>?_;focus
  have hR10:G0 k h10 b (C6 E.1):=by unfold R3 at hR10;rw[if_pos glo] at hR10;exact hR10
  rw[if_pos glo] at hlo;refine nQ [.hp c0,.hp h10,.box rb (H8 b (kx) ad nd cd) 155,.box b3 [.slice a n c] 28,.box b4 [zs,iQ 0,zs,zl,zs,zl,zs,zs] 74,.box b5 [iQ n] 3,.box b6 [.func (.func 173) #[] #[pQ b3]] 110,.box b7 [sv A.2,iQ op9,sv f9.1,.slice a9 n9 c9,sv fac9,.slice a8 n8 c8,zs,zs] 74,.hp H9] λq' hq'=>?_;refine k6 (i:=1) rfl (λw0 w' hok=>V0 w' (hok.mem 1 _ rfl) (DR.mk (hk.trans (hok.le01 rfl rfl)) hR10 (hok.bx1 (j:=2) (n:=0) rfl rfl dc rfl))) ?_;rintro _ h11 _ ⟨rfl,rfl,hR11⟩;have hR11:G0 k h11 b ((L9 (C6 E.1)).1):=hR11;rw[<-hlo] at hR11 ⊢;apply hq';refine nQ [.hp c0,.hp h11,.box rb (H8 b (kx) ad nd cd) 155,.box b3 [.slice a n c] 28,.box b4 [zs,iQ 0,zs,zl,zs,zl,zs,zs] 74,.box b5 [iQ n] 3,.box b6 [.func (.func 173) #[] #[pQ b3]] 110,.box b7 [sv A.2,iQ op9,sv f9.1,.slice a9 n9 c9,sv fac9,.slice a8 n8 c8,sv lo.2,zs] 74,.hp H9] λq' hq'=>?_;refine lR 2 0 ?_;refine k6 (i:=1) rfl (λw0 w' hok=>cR (s:=HW) w' (hok.mem 1 _ rfl) (hok.kle rfl rfl hk) hR11) ?_;rintro _ h12 _ ⟨rfl,rfl,hR12⟩;obtain⟨hi,hhi⟩ :∃x,x=(if S7 lo.1 HW=true then L9 (C6 lo.1) else (lo.1,[])):=⟨_,rfl⟩
  have hhi0:=hhi;apply hq';refine v7 (λghi=>?_) λghi=>?_
  ·have hR12:G0 k h12 b (C6 lo.1):=by unfold R3 at hR12;rw[if_pos ghi] at hR12;exact hR12
   rw[if_pos ghi] at hhi;refine nQ [.hp c0,.hp h12,.box rb (H8 b (kx) ad nd cd) 155,.box b3 [.slice a n c] 28,.box b4 [zs,iQ 0,zs,zl,zs,zl,zs,zs] 74,.box b5 [iQ n] 3,.box b6 [.func (.func 173) #[] #[pQ b3]] 110,.box b7 [sv A.2,iQ op9,sv f9.1,.slice a9 n9 c9,sv fac9,.slice a8 n8 c8,sv lo.2,zs] 74,.hp H9] λq' hq'=>?_;refine k6 (i:=1) rfl (λw0 w' hok=>V0 w' (hok.mem 1 _ rfl) (DR.mk (hk.trans (hok.le01 rfl rfl)) hR12 (hok.bx1 (j:=2) (n:=0) rfl rfl dc rfl))) ?_;rintro _ h13 _ ⟨rfl,rfl,hR13⟩;have hR13:G0 k h13 b ((L9 (C6 lo.1)).1):=hR13;rw[<-hhi] at hR13 ⊢;apply hq';refine nQ [.hp c0,.hp h13,.box rb (H8 b (kx) ad nd cd) 155,.box b3 [.slice a n c] 28,.box b4 [zs,iQ 0,zs,zl,zs,zl,zs,zs] 74,.box b5 [iQ n] 3,.box b6 [.func (.func 173) #[] #[pQ b3]] 110,.box b7 [sv A.2,iQ op9,sv f9.1,.slice a9 n9 c9,sv fac9,.slice a8 n8 c8,sv lo.2,sv hi.2] 74,.hp H9] λq' hq'=>?_;have eF :∀R9,R9=(if (lo.2≠[]/\hi.2≠[])/\S7 hi.1 [59]=true/\dI hi.2*dJ lo.2 < dI lo.2*dJ hi.2 then w9 hi.1 8 else hi.1)->eQ names dims r=(s8 R9 [59],(A.2,E.2.2,lo.2,hi.2)):=by
    rintro _ rfl;unfold eQ;dsimp only;rw[<-er2,<-hA,<-er4,<-hE,<-hlo0,<-hhi0]
   refine pZ (b:=[]) ?_;refine d9 (λs1=>?_) λs1=>?_;focus
    refine pZ (b:=[]) ?_;refine d9 (λs2=>?_) λs2=>?_
    ·refine lR 2 0 ?_;refine k7 _ (λw' hm=>R1 w' (hm 1 _ rfl) (hk.trans (hm 0 _ rfl).whole) hR13) ?_;apply hq';refine v7 (λs3=>?_) λs3=>?_;focus
      have h0:hi.1.e=0:=(P5 s3).1;have gL:X4 lo.1:=by rw[hlo0];exact o7.good (o7.opt E.1 iG) gE
      have nH:H5 hi.2=0:=by
       rw[hhi0] at h0 s2 ⊢;split at h0
       ·rename_i q;rw[if_pos q];exact pG (o7.good (o7.next _) gL) h0
       ·rename_i q;rw[if_neg q] at s2;exact absurd rfl s2
      have l0:lo.1.e=0:=o7.ok (by rw[hhi0];exact o7.opt lo.1 HW) h0;have nL:H5 lo.2=0:=by
       rw[hlo0] at l0 s1 ⊢;split at l0
       ·rename_i q;rw[if_pos q];exact pG (o7.good (o7.next _) gE) l0
       ·rename_i q;rw[if_neg q] at s1;exact absurd rfl s1
      have lnL:=N8 nL;have lnH:=N8 nH;refine nQ [.hp c0,.hp h13,.box rb (H8 b (kx) ad nd cd) 155,.box b3 [.slice a n c] 28,.box b4 [zs,iQ 0,zs,zl,zs,zl,zs,zs] 74,.box b5 [iQ n] 3,.box b6 [.func (.func 173) #[] #[pQ b3]] 110,.box b7 [sv A.2,iQ op9,sv f9.1,.slice a9 n9 c9,sv fac9,.slice a8 n8 c8,sv lo.2,sv hi.2] 74,.hp H9] λq' hq'=>?_;refine call (λw' hm=>fU lo.2 om w') ?_;rintro _ _ ⟨g8,rfl,hRat1⟩;obtain⟨⟨m1,⟨p1,u1,v1⟩,⟨x1,y1,z1⟩⟩,rfl,hS1⟩:=fM hRat1 nL;intro b8;apply hq';refine nQ [.hp c0,.hp h13,.box rb (H8 b (kx) ad nd cd) 155,.box b3 [.slice a n c] 28,.box b4 [zs,iQ 0,zs,zl,zs,zl,zs,zs] 74,.box b5 [iQ n] 3,.box b6 [.func (.func 173) #[] #[pQ b3]] 110,.box b7 [sv A.2,iQ op9,sv f9.1,.slice a9 n9 c9,sv fac9,.slice a8 n8 c8,sv lo.2,sv hi.2] 74,.hp H9,.hp g8,.box b8 [.bool m1,.slice p1 u1 v1,.bool false,.slice x1 y1 z1] 141] λq' hq'=>?_;refine call (λw' hm=>fU hi.2 om w') ?_;rintro _ _ ⟨g9,rfl,hRat2⟩;obtain⟨⟨m2,⟨p2,u2,v2⟩,⟨x2,y2,z2⟩⟩,rfl,hS2⟩:=fM hRat2 nH;intro b9;obtain⟨X1,Y1,q1,q2,q3⟩:=hS1;obtain⟨X2,Y2,w1,w2,w3⟩:=hS2;apply hq';refine nQ [.hp c0,.hp h13,.box rb (H8 b (kx) ad nd cd) 155,.box b3 [.slice a n c] 28,.box b4 [zs,iQ 0,zs,zl,zs,zl,zs,zs] 74,.box b5 [iQ n] 3,.box b6 [.func (.func 173) #[] #[pQ b3]] 110,.box b7 [sv A.2,iQ op9,sv f9.1,.slice a9 n9 c9,sv fac9,.slice a8 n8 c8,sv lo.2,sv hi.2] 74,.hp H9,.hp g8,.box b8 [.bool m1,.slice p1 u1 v1,.bool false,.slice x1 y1 z1] 141,.hp g9,.box b9 [.bool m2,.slice p2 u2 v2,.bool false,.slice x2 y2 z2] 141] λq' hq'=>?_;refine k7 _ (λw' hm=>cX w' (q1.mono (hm 9 _ rfl).whole) (w1.mono (hm 11 _ rfl).whole)) ?_;rw[q2,q3,w2,w3];apply hq';refine d9 (λs4=>?_) λs4=>?_
      ·refine nQ [.hp c0,.hp h13,.box rb (H8 b (kx) ad nd cd) 155,.box b3 [.slice a n c] 28,.box b4 [zs,iQ 0,zs,zl,zs,zl,zs,zs] 74,.box b5 [iQ n] 3,.box b6 [.func (.func 173) #[] #[pQ b3]] 110,.box b7 [sv A.2,iQ op9,sv f9.1,.slice a9 n9 c9,sv fac9,.slice a8 n8 c8,sv lo.2,sv hi.2] 74,.hp H9,.hp g8,.box b8 [.bool m1,.slice p1 u1 v1,.bool false,.slice x1 y1 z1] 141,.hp g9,.box b9 [.bool m2,.slice p2 u2 v2,.bool false,.slice x2 y2 z2] 141] λq' hq'=>?_;refine lR 2 0 ?_;refine k6 (i:=1) rfl (λw0 w' hok=>F9 w' (hok.mem 1 _ rfl) (hok.kle rfl rfl hk) hR13) ?_;rintro _ h14 _ ⟨rfl,hR14⟩;have hR14:G0 k h14 b (w9 hi.1 8):=hR14;apply hq';refine nQ [.hp c0,.hp h14,.box rb (H8 b (kx) ad nd cd) 155,.box b3 [.slice a n c] 28,.box b4 [zs,iQ 0,zs,zl,zs,zl,zs,zs] 74,.box b5 [iQ n] 3,.box b6 [.func (.func 173) #[] #[pQ b3]] 110,.box b7 [sv A.2,iQ op9,sv f9.1,.slice a9 n9 c9,sv fac9,.slice a8 n8 c8,sv lo.2,sv hi.2] 74,.hp H9,.hp g8,.box b8 [.bool m1,.slice p1 u1 v1,.bool false,.slice x1 y1 z1] 141,.hp g9,.box b9 [.bool m2,.slice p2 u2 v2,.bool false,.slice x2 y2 z2] 141] λq' hq'=>?_;refine lR 2 0 ?_;refine k6 (i:=1) rfl (λw0 w' hok=>l6 w' (hok.mem 1 _ rfl) (hok.kle rfl rfl hk) hR14) ?_;rintro _ h15 _ ⟨rfl,hR15⟩;have hR15:G0 k h15 b (s8 (w9 hi.1 8) [59]):=hR15;apply hq';refine nQ [.hp c0,.hp h15,.box rb (H8 b (kx) ad nd cd) 155,.box b3 [.slice a n c] 28,.box b4 [zs,iQ 0,zs,zl,zs,zl,zs,zs] 74,.box b5 [iQ n] 3,.box b6 [.func (.func 173) #[] #[pQ b3]] 110,.box b7 [sv A.2,iQ op9,sv f9.1,.slice a9 n9 c9,sv fac9,.slice a8 n8 c8,sv lo.2,sv hi.2] 74,.hp H9,.hp g8,.box b8 [.bool m1,.slice p1 u1 v1,.bool false,.slice x1 y1 z1] 141,.hp g9,.box b9 [.bool m2,.slice p2 u2 v2,.bool false,.slice x2 y2 z2] 141] λq' hq'=>?_;apply hq';rw[eF (w9 hi.1 8) (by rw[if_pos ⟨⟨s1,s2⟩,s3,gI.1 s4⟩])];exact⟨h15,[.box rb (H8 b kx ad nd cd) 155,.hp H9],⟨_,_,rfl,⟨_,rfl,rfl,⟨[iQ op9,sv f9.1,.slice a9 n9 c9,sv fac9,.slice a8 n8 c8],rfl,hE9⟩⟩,⟨kx,rfl⟩,hR15⟩,pk [0,1,2,8]⟩
      focus
       refine nQ [.hp c0,.hp h13,.box rb (H8 b (kx) ad nd cd) 155,.box b3 [.slice a n c] 28,.box b4 [zs,iQ 0,zs,zl,zs,zl,zs,zs] 74,.box b5 [iQ n] 3,.box b6 [.func (.func 173) #[] #[pQ b3]] 110,.box b7 [sv A.2,iQ op9,sv f9.1,.slice a9 n9 c9,sv fac9,.slice a8 n8 c8,sv lo.2,sv hi.2] 74,.hp H9,.hp g8,.box b8 [.bool m1,.slice p1 u1 v1,.bool false,.slice x1 y1 z1] 141,.hp g9,.box b9 [.bool m2,.slice p2 u2 v2,.bool false,.slice x2 y2 z2] 141] λq' hq'=>?_;refine lR 2 0 ?_;refine k6 (i:=1) rfl (λw0 w' hok=>l6 w' (hok.mem 1 _ rfl) (hok.kle rfl rfl hk) hR13) ?_;rintro _ h14 _ ⟨rfl,hR14⟩;have hR14:G0 k h14 b (s8 (hi.1) [59]):=hR14;apply hq';refine nQ [.hp c0,.hp h14,.box rb (H8 b (kx) ad nd cd) 155,.box b3 [.slice a n c] 28,.box b4 [zs,iQ 0,zs,zl,zs,zl,zs,zs] 74,.box b5 [iQ n] 3,.box b6 [.func (.func 173) #[] #[pQ b3]] 110,.box b7 [sv A.2,iQ op9,sv f9.1,.slice a9 n9 c9,sv fac9,.slice a8 n8 c8,sv lo.2,sv hi.2] 74,.hp H9,.hp g8,.box b8 [.bool m1,.slice p1 u1 v1,.bool false,.slice x1 y1 z1] 141,.hp g9,.box b9 [.bool m2,.slice p2 u2 v2,.bool false,.slice x2 y2 z2] 141] λq' hq'=>?_;apply hq';rw[eF (hi.1) (by rw[if_neg (λc=>s4 (gI.2 c.2.2))])]
     rotate_left
     focus
      refine nQ [.hp c0,.hp h13,.box rb (H8 b (kx) ad nd cd) 155,.box b3 [.slice a n c] 28,.box b4 [zs,iQ 0,zs,zl,zs,zl,zs,zs] 74,.box b5 [iQ n] 3,.box b6 [.func (.func 173) #[] #[pQ b3]] 110,.box b7 [sv A.2,iQ op9,sv f9.1,.slice a9 n9 c9,sv fac9,.slice a8 n8 c8,sv lo.2,sv hi.2] 74,.hp H9] λq' hq'=>?_;refine lR 2 0 ?_;refine k6 (i:=1) rfl (λw0 w' hok=>l6 w' (hok.mem 1 _ rfl) (hok.kle rfl rfl hk) hR13) ?_;rintro _ h14 _ ⟨rfl,hR14⟩;have hR14:G0 k h14 b (s8 (hi.1) [59]):=hR14;apply hq';refine nQ [.hp c0,.hp h14,.box rb (H8 b (kx) ad nd cd) 155,.box b3 [.slice a n c] 28,.box b4 [zs,iQ 0,zs,zl,zs,zl,zs,zs] 74,.box b5 [iQ n] 3,.box b6 [.func (.func 173) #[] #[pQ b3]] 110,.box b7 [sv A.2,iQ op9,sv f9.1,.slice a9 n9 c9,sv fac9,.slice a8 n8 c8,sv lo.2,sv hi.2] 74,.hp H9] λq' hq'=>?_;apply hq';rw[eF (hi.1) (by rw[if_neg (λc=>by rw[s3] at c;cases c.2.1)])]
     all_goals
      exact⟨h14,[.box rb (H8 b kx ad nd cd) 155,.hp H9],⟨_,_,rfl,⟨_,rfl,rfl,⟨[iQ op9,sv f9.1,.slice a9 n9 c9,sv fac9,.slice a8 n8 c8],rfl,hE9⟩⟩,⟨kx,rfl⟩,hR14⟩,pk [0,1,2,8]⟩
    focus
     apply hq';refine dU rfl ?_;refine nQ [.hp c0,.hp h13,.box rb (H8 b (kx) ad nd cd) 155,.box b3 [.slice a n c] 28,.box b4 [zs,iQ 0,zs,zl,zs,zl,zs,zs] 74,.box b5 [iQ n] 3,.box b6 [.func (.func 173) #[] #[pQ b3]] 110,.box b7 [sv A.2,iQ op9,sv f9.1,.slice a9 n9 c9,sv fac9,.slice a8 n8 c8,sv lo.2,sv hi.2] 74,.hp H9] λq' hq'=>?_;refine lR 2 0 ?_;refine k6 (i:=1) rfl (λw0 w' hok=>l6 w' (hok.mem 1 _ rfl) (hok.kle rfl rfl hk) hR13) ?_;rintro _ h14 _ ⟨rfl,hR14⟩;have hR14:G0 k h14 b (s8 (hi.1) [59]):=hR14;apply hq';refine nQ [.hp c0,.hp h14,.box rb (H8 b (kx) ad nd cd) 155,.box b3 [.slice a n c] 28,.box b4 [zs,iQ 0,zs,zl,zs,zl,zs,zs] 74,.box b5 [iQ n] 3,.box b6 [.func (.func 173) #[] #[pQ b3]] 110,.box b7 [sv A.2,iQ op9,sv f9.1,.slice a9 n9 c9,sv fac9,.slice a8 n8 c8,sv lo.2,sv hi.2] 74,.hp H9] λq' hq'=>?_;apply hq';rw[eF (hi.1) (by rw[if_neg (λc=>s2 c.1.2)])]
   rotate_left
   focus
    apply hq';refine dU rfl ?_;refine nQ [.hp c0,.hp h13,.box rb (H8 b (kx) ad nd cd) 155,.box b3 [.slice a n c] 28,.box b4 [zs,iQ 0,zs,zl,zs,zl,zs,zs] 74,.box b5 [iQ n] 3,.box b6 [.func (.func 173) #[] #[pQ b3]] 110,.box b7 [sv A.2,iQ op9,sv f9.1,.slice a9 n9 c9,sv fac9,.slice a8 n8 c8,sv lo.2,sv hi.2] 74,.hp H9] λq' hq'=>?_;refine lR 2 0 ?_;refine k6 (i:=1) rfl (λw0 w' hok=>l6 w' (hok.mem 1 _ rfl) (hok.kle rfl rfl hk) hR13) ?_;rintro _ h14 _ ⟨rfl,hR14⟩;have hR14:G0 k h14 b (s8 (hi.1) [59]):=hR14;apply hq';refine nQ [.hp c0,.hp h14,.box rb (H8 b (kx) ad nd cd) 155,.box b3 [.slice a n c] 28,.box b4 [zs,iQ 0,zs,zl,zs,zl,zs,zs] 74,.box b5 [iQ n] 3,.box b6 [.func (.func 173) #[] #[pQ b3]] 110,.box b7 [sv A.2,iQ op9,sv f9.1,.slice a9 n9 c9,sv fac9,.slice a8 n8 c8,sv lo.2,sv hi.2] 74,.hp H9] λq' hq'=>?_;apply hq';rw[eF (hi.1) (by rw[if_neg (λc=>s1 c.1.1)])]
   all_goals
    exact⟨h14,[.box rb (H8 b kx ad nd cd) 155,.hp H9],⟨_,_,rfl,⟨_,rfl,rfl,⟨[iQ op9,sv f9.1,.slice a9 n9 c9,sv fac9,.slice a8 n8 c8],rfl,hE9⟩⟩,⟨kx,rfl⟩,hR14⟩,pk [0,1,2,8]⟩
  focus
   have hR12:G0 k h12 b lo.1:=by unfold R3 at hR12;rw[if_neg (by rw[ghi];decide)] at hR12;exact hR12
   rw[if_neg (by rw[ghi];decide)] at hhi;have hi1:hi.1=lo.1:=by rw[hhi]
   have hi2:hi.2 = []:=by rw[hhi]
   rw[<-hi1] at hR12;refine cD [.hp c0,.hp h12,.box rb (H8 b (kx) ad nd cd) 155,.box b3 [.slice a n c] 28,.box b4 [zs,iQ 0,zs,zl,zs,zl,zs,zs] 74,.box b5 [iQ n] 3,.box b6 [.func (.func 173) #[] #[pQ b3]] 110,.box b7 [sv A.2,iQ op9,sv f9.1,.slice a9 n9 c9,sv fac9,.slice a8 n8 c8,sv lo.2,sv hi.2] 74,.hp H9] (by rw[hi2];first | done | rfl) ?_
 rotate_left
 focus
  have hR10:G0 k h10 b E.1:=by unfold R3 at hR10;rw[if_neg (by rw[glo];decide)] at hR10;exact hR10
  rw[if_neg (by rw[glo];decide)] at hlo;have lo1:lo.1=E.1:=by rw[hlo]
  have lo2:lo.2 = []:=by rw[hlo]
  rw[<-lo1] at hR10;refine cD [.hp c0,.hp h10,.box rb (H8 b (kx) ad nd cd) 155,.box b3 [.slice a n c] 28,.box b4 [zs,iQ 0,zs,zl,zs,zl,zs,zs] 74,.box b5 [iQ n] 3,.box b6 [.func (.func 173) #[] #[pQ b3]] 110,.box b7 [sv A.2,iQ op9,sv f9.1,.slice a9 n9 c9,sv fac9,.slice a8 n8 c8,sv lo.2,zs] 74,.hp H9] (by rw[lo2];first | done | rfl) ?_;refine m9 λq' hq'=>?_;refine lR 2 0 ?_;refine k6 (i:=1) rfl (λw0 w' hok=>cR (s:=HW) w' (hok.mem 1 _ rfl) (hok.kle rfl rfl hk) hR10) ?_;rintro _ h11 _ ⟨rfl,rfl,hR11⟩;obtain⟨hi,hhi⟩ :∃x,x=(if S7 lo.1 HW=true then L9 (C6 lo.1) else (lo.1,[])):=⟨_,rfl⟩
  have hhi0:=hhi;apply hq';refine v7 (λghi=>?_) λghi=>?_;focus
   have hR11:G0 k h11 b (C6 lo.1):=by unfold R3 at hR11;rw[if_pos ghi] at hR11;exact hR11
   rw[if_pos ghi] at hhi;refine nQ [.hp c0,.hp h11,.box rb (H8 b (kx) ad nd cd) 155,.box b3 [.slice a n c] 28,.box b4 [zs,iQ 0,zs,zl,zs,zl,zs,zs] 74,.box b5 [iQ n] 3,.box b6 [.func (.func 173) #[] #[pQ b3]] 110,.box b7 [sv A.2,iQ op9,sv f9.1,.slice a9 n9 c9,sv fac9,.slice a8 n8 c8,sv lo.2,zs] 74,.hp H9] λq' hq'=>?_;refine k6 (i:=1) rfl (λw0 w' hok=>V0 w' (hok.mem 1 _ rfl) (DR.mk (hk.trans (hok.le01 rfl rfl)) hR11 (hok.bx1 (j:=2) (n:=0) rfl rfl dc rfl))) ?_;rintro _ h12 _ ⟨rfl,rfl,hR12⟩;have hR12:G0 k h12 b ((L9 (C6 lo.1)).1):=hR12;rw[<-hhi] at hR12 ⊢;apply hq';refine cD [.hp c0,.hp h12,.box rb (H8 b (kx) ad nd cd) 155,.box b3 [.slice a n c] 28,.box b4 [zs,iQ 0,zs,zl,zs,zl,zs,zs] 74,.box b5 [iQ n] 3,.box b6 [.func (.func 173) #[] #[pQ b3]] 110,.box b7 [sv A.2,iQ op9,sv f9.1,.slice a9 n9 c9,sv fac9,.slice a8 n8 c8,sv lo.2,sv hi.2] 74,.hp H9] rfl ?_
  rotate_left
  ·have hR11:G0 k h11 b lo.1:=by unfold R3 at hR11;rw[if_neg (by rw[ghi];decide)] at hR11;exact hR11
   rw[if_neg (by rw[ghi];decide)] at hhi;have hi1:hi.1=lo.1:=by rw[hhi]
   have hi2:hi.2 = []:=by rw[hhi]
   rw[<-hi1] at hR11;refine cD [.hp c0,.hp h11,.box rb (H8 b (kx) ad nd cd) 155,.box b3 [.slice a n c] 28,.box b4 [zs,iQ 0,zs,zl,zs,zl,zs,zs] 74,.box b5 [iQ n] 3,.box b6 [.func (.func 173) #[] #[pQ b3]] 110,.box b7 [sv A.2,iQ op9,sv f9.1,.slice a9 n9 c9,sv fac9,.slice a8 n8 c8,sv lo.2,sv hi.2] 74,.hp H9] (by rw[hi2];first | done | rfl) ?_;refine m9 λq' hq'=>?_;have eF :∀R9,R9=(if (lo.2≠[]/\hi.2≠[])/\S7 hi.1 [59]=true/\dI hi.2*dJ lo.2 < dI lo.2*dJ hi.2 then w9 hi.1 8 else hi.1)->eQ names dims r=(s8 R9 [59],(A.2,E.2.2,lo.2,hi.2)):=by
    rintro _ rfl;unfold eQ;dsimp only;rw[<-er2,<-hA,<-er4,<-hE,<-hlo0,<-hhi0]
   refine pZ (b:=[]) ?_;refine d9 (λs1=>?_) λs1=>?_;focus
    refine pZ (b:=[]) ?_;refine d9 (λs2=>?_) λs2=>?_
    ·refine lR 2 0 ?_;refine k7 _ (λw' hm=>R1 w' (hm 1 _ rfl) (hk.trans (hm 0 _ rfl).whole) hR11) ?_;apply hq';refine v7 (λs3=>?_) λs3=>?_;focus
      have h0:hi.1.e=0:=(P5 s3).1;have gL:X4 lo.1:=by rw[hlo0];exact o7.good (o7.opt E.1 iG) gE
      have nH:H5 hi.2=0:=by
       rw[hhi0] at h0 s2 ⊢;split at h0
       ·rename_i q;rw[if_pos q];exact pG (o7.good (o7.next _) gL) h0
       ·rename_i q;rw[if_neg q] at s2;exact absurd rfl s2
      have l0:lo.1.e=0:=o7.ok (by rw[hhi0];exact o7.opt lo.1 HW) h0;have nL:H5 lo.2=0:=by
       rw[hlo0] at l0 s1 ⊢;split at l0
       ·rename_i q;rw[if_pos q];exact pG (o7.good (o7.next _) gE) l0
       ·rename_i q;rw[if_neg q] at s1;exact absurd rfl s1
      have lnL:=N8 nL;have lnH:=N8 nH;refine nQ [.hp c0,.hp h11,.box rb (H8 b (kx) ad nd cd) 155,.box b3 [.slice a n c] 28,.box b4 [zs,iQ 0,zs,zl,zs,zl,zs,zs] 74,.box b5 [iQ n] 3,.box b6 [.func (.func 173) #[] #[pQ b3]] 110,.box b7 [sv A.2,iQ op9,sv f9.1,.slice a9 n9 c9,sv fac9,.slice a8 n8 c8,sv lo.2,sv hi.2] 74,.hp H9] λq' hq'=>?_;refine call (λw' hm=>fU lo.2 om w') ?_;rintro _ _ ⟨g8,rfl,hRat1⟩;obtain⟨⟨m1,⟨p1,u1,v1⟩,⟨x1,y1,z1⟩⟩,rfl,hS1⟩:=fM hRat1 nL;intro b8;apply hq';refine nQ [.hp c0,.hp h11,.box rb (H8 b (kx) ad nd cd) 155,.box b3 [.slice a n c] 28,.box b4 [zs,iQ 0,zs,zl,zs,zl,zs,zs] 74,.box b5 [iQ n] 3,.box b6 [.func (.func 173) #[] #[pQ b3]] 110,.box b7 [sv A.2,iQ op9,sv f9.1,.slice a9 n9 c9,sv fac9,.slice a8 n8 c8,sv lo.2,sv hi.2] 74,.hp H9,.hp g8,.box b8 [.bool m1,.slice p1 u1 v1,.bool false,.slice x1 y1 z1] 141] λq' hq'=>?_;refine call (λw' hm=>fU hi.2 om w') ?_;rintro _ _ ⟨g9,rfl,hRat2⟩;obtain⟨⟨m2,⟨p2,u2,v2⟩,⟨x2,y2,z2⟩⟩,rfl,hS2⟩:=fM hRat2 nH;intro b9;obtain⟨X1,Y1,q1,q2,q3⟩:=hS1;obtain⟨X2,Y2,w1,w2,w3⟩:=hS2;apply hq';refine nQ [.hp c0,.hp h11,.box rb (H8 b (kx) ad nd cd) 155,.box b3 [.slice a n c] 28,.box b4 [zs,iQ 0,zs,zl,zs,zl,zs,zs] 74,.box b5 [iQ n] 3,.box b6 [.func (.func 173) #[] #[pQ b3]] 110,.box b7 [sv A.2,iQ op9,sv f9.1,.slice a9 n9 c9,sv fac9,.slice a8 n8 c8,sv lo.2,sv hi.2] 74,.hp H9,.hp g8,.box b8 [.bool m1,.slice p1 u1 v1,.bool false,.slice x1 y1 z1] 141,.hp g9,.box b9 [.bool m2,.slice p2 u2 v2,.bool false,.slice x2 y2 z2] 141] λq' hq'=>?_;refine k7 _ (λw' hm=>cX w' (q1.mono (hm 9 _ rfl).whole) (w1.mono (hm 11 _ rfl).whole)) ?_;rw[q2,q3,w2,w3];apply hq';refine d9 (λs4=>?_) λs4=>?_
      ·refine nQ [.hp c0,.hp h11,.box rb (H8 b (kx) ad nd cd) 155,.box b3 [.slice a n c] 28,.box b4 [zs,iQ 0,zs,zl,zs,zl,zs,zs] 74,.box b5 [iQ n] 3,.box b6 [.func (.func 173) #[] #[pQ b3]] 110,.box b7 [sv A.2,iQ op9,sv f9.1,.slice a9 n9 c9,sv fac9,.slice a8 n8 c8,sv lo.2,sv hi.2] 74,.hp H9,.hp g8,.box b8 [.bool m1,.slice p1 u1 v1,.bool false,.slice x1 y1 z1] 141,.hp g9,.box b9 [.bool m2,.slice p2 u2 v2,.bool false,.slice x2 y2 z2] 141] λq' hq'=>?_;refine lR 2 0 ?_;refine k6 (i:=1) rfl (λw0 w' hok=>F9 w' (hok.mem 1 _ rfl) (hok.kle rfl rfl hk) hR11) ?_;rintro _ h12 _ ⟨rfl,hR12⟩;have hR12:G0 k h12 b (w9 hi.1 8):=hR12;apply hq';refine nQ [.hp c0,.hp h12,.box rb (H8 b (kx) ad nd cd) 155,.box b3 [.slice a n c] 28,.box b4 [zs,iQ 0,zs,zl,zs,zl,zs,zs] 74,.box b5 [iQ n] 3,.box b6 [.func (.func 173) #[] #[pQ b3]] 110,.box b7 [sv A.2,iQ op9,sv f9.1,.slice a9 n9 c9,sv fac9,.slice a8 n8 c8,sv lo.2,sv hi.2] 74,.hp H9,.hp g8,.box b8 [.bool m1,.slice p1 u1 v1,.bool false,.slice x1 y1 z1] 141,.hp g9,.box b9 [.bool m2,.slice p2 u2 v2,.bool false,.slice x2 y2 z2] 141] λq' hq'=>?_;refine lR 2 0 ?_;refine k6 (i:=1) rfl (λw0 w' hok=>l6 w' (hok.mem 1 _ rfl) (hok.kle rfl rfl hk) hR12) ?_;rintro _ h13 _ ⟨rfl,hR13⟩;have hR13:G0 k h13 b (s8 (w9 hi.1 8) [59]):=hR13;apply hq';refine nQ [.hp c0,.hp h13,.box rb (H8 b (kx) ad nd cd) 155,.box b3 [.slice a n c] 28,.box b4 [zs,iQ 0,zs,zl,zs,zl,zs,zs] 74,.box b5 [iQ n] 3,.box b6 [.func (.func 173) #[] #[pQ b3]] 110,.box b7 [sv A.2,iQ op9,sv f9.1,.slice a9 n9 c9,sv fac9,.slice a8 n8 c8,sv lo.2,sv hi.2] 74,.hp H9,.hp g8,.box b8 [.bool m1,.slice p1 u1 v1,.bool false,.slice x1 y1 z1] 141,.hp g9,.box b9 [.bool m2,.slice p2 u2 v2,.bool false,.slice x2 y2 z2] 141] λq' hq'=>?_;apply hq';rw[eF (w9 hi.1 8) (by rw[if_pos ⟨⟨s1,s2⟩,s3,gI.1 s4⟩])];exact⟨h13,[.box rb (H8 b kx ad nd cd) 155,.hp H9],⟨_,_,rfl,⟨_,rfl,rfl,⟨[iQ op9,sv f9.1,.slice a9 n9 c9,sv fac9,.slice a8 n8 c8],rfl,hE9⟩⟩,⟨kx,rfl⟩,hR13⟩,pk [0,1,2,8]⟩
      focus
       refine nQ [.hp c0,.hp h11,.box rb (H8 b (kx) ad nd cd) 155,.box b3 [.slice a n c] 28,.box b4 [zs,iQ 0,zs,zl,zs,zl,zs,zs] 74,.box b5 [iQ n] 3,.box b6 [.func (.func 173) #[] #[pQ b3]] 110,.box b7 [sv A.2,iQ op9,sv f9.1,.slice a9 n9 c9,sv fac9,.slice a8 n8 c8,sv lo.2,sv hi.2] 74,.hp H9,.hp g8,.box b8 [.bool m1,.slice p1 u1 v1,.bool false,.slice x1 y1 z1] 141,.hp g9,.box b9 [.bool m2,.slice p2 u2 v2,.bool false,.slice x2 y2 z2] 141] λq' hq'=>?_;refine lR 2 0 ?_;refine k6 (i:=1) rfl (λw0 w' hok=>l6 w' (hok.mem 1 _ rfl) (hok.kle rfl rfl hk) hR11) ?_;rintro _ h12 _ ⟨rfl,hR12⟩;have hR12:G0 k h12 b (s8 (hi.1) [59]):=hR12;apply hq';refine nQ [.hp c0,.hp h12,.box rb (H8 b (kx) ad nd cd) 155,.box b3 [.slice a n c] 28,.box b4 [zs,iQ 0,zs,zl,zs,zl,zs,zs] 74,.box b5 [iQ n] 3,.box b6 [.func (.func 173) #[] #[pQ b3]] 110,.box b7 [sv A.2,iQ op9,sv f9.1,.slice a9 n9 c9,sv fac9,.slice a8 n8 c8,sv lo.2,sv hi.2] 74,.hp H9,.hp g8,.box b8 [.bool m1,.slice p1 u1 v1,.bool false,.slice x1 y1 z1] 141,.hp g9,.box b9 [.bool m2,.slice p2 u2 v2,.bool false,.slice x2 y2 z2] 141] λq' hq'=>?_;apply hq';rw[eF (hi.1) (by rw[if_neg (λc=>s4 (gI.2 c.2.2))])]
     rotate_left
     focus
      refine nQ [.hp c0,.hp h11,.box rb (H8 b (kx) ad nd cd) 155,.box b3 [.slice a n c] 28,.box b4 [zs,iQ 0,zs,zl,zs,zl,zs,zs] 74,.box b5 [iQ n] 3,.box b6 [.func (.func 173) #[] #[pQ b3]] 110,.box b7 [sv A.2,iQ op9,sv f9.1,.slice a9 n9 c9,sv fac9,.slice a8 n8 c8,sv lo.2,sv hi.2] 74,.hp H9] λq' hq'=>?_;refine lR 2 0 ?_;refine k6 (i:=1) rfl (λw0 w' hok=>l6 w' (hok.mem 1 _ rfl) (hok.kle rfl rfl hk) hR11) ?_;rintro _ h12 _ ⟨rfl,hR12⟩;have hR12:G0 k h12 b (s8 (hi.1) [59]):=hR12;apply hq';refine nQ [.hp c0,.hp h12,.box rb (H8 b (kx) ad nd cd) 155,.box b3 [.slice a n c] 28,.box b4 [zs,iQ 0,zs,zl,zs,zl,zs,zs] 74,.box b5 [iQ n] 3,.box b6 [.func (.func 173) #[] #[pQ b3]] 110,.box b7 [sv A.2,iQ op9,sv f9.1,.slice a9 n9 c9,sv fac9,.slice a8 n8 c8,sv lo.2,sv hi.2] 74,.hp H9] λq' hq'=>?_;apply hq';rw[eF (hi.1) (by rw[if_neg (λc=>by rw[s3] at c;cases c.2.1)])]
     all_goals
      exact⟨h12,[.box rb (H8 b kx ad nd cd) 155,.hp H9],⟨_,_,rfl,⟨_,rfl,rfl,⟨[iQ op9,sv f9.1,.slice a9 n9 c9,sv fac9,.slice a8 n8 c8],rfl,hE9⟩⟩,⟨kx,rfl⟩,hR12⟩,pk [0,1,2,8]⟩
    focus
     apply hq';refine dU rfl ?_;refine nQ [.hp c0,.hp h11,.box rb (H8 b (kx) ad nd cd) 155,.box b3 [.slice a n c] 28,.box b4 [zs,iQ 0,zs,zl,zs,zl,zs,zs] 74,.box b5 [iQ n] 3,.box b6 [.func (.func 173) #[] #[pQ b3]] 110,.box b7 [sv A.2,iQ op9,sv f9.1,.slice a9 n9 c9,sv fac9,.slice a8 n8 c8,sv lo.2,sv hi.2] 74,.hp H9] λq' hq'=>?_;refine lR 2 0 ?_;refine k6 (i:=1) rfl (λw0 w' hok=>l6 w' (hok.mem 1 _ rfl) (hok.kle rfl rfl hk) hR11) ?_;rintro _ h12 _ ⟨rfl,hR12⟩;have hR12:G0 k h12 b (s8 (hi.1) [59]):=hR12;apply hq';refine nQ [.hp c0,.hp h12,.box rb (H8 b (kx) ad nd cd) 155,.box b3 [.slice a n c] 28,.box b4 [zs,iQ 0,zs,zl,zs,zl,zs,zs] 74,.box b5 [iQ n] 3,.box b6 [.func (.func 173) #[] #[pQ b3]] 110,.box b7 [sv A.2,iQ op9,sv f9.1,.slice a9 n9 c9,sv fac9,.slice a8 n8 c8,sv lo.2,sv hi.2] 74,.hp H9] λq' hq'=>?_;apply hq';rw[eF (hi.1) (by rw[if_neg (λc=>s2 c.1.2)])]
   rotate_left
   focus
    apply hq';refine dU rfl ?_;refine nQ [.hp c0,.hp h11,.box rb (H8 b (kx) ad nd cd) 155,.box b3 [.slice a n c] 28,.box b4 [zs,iQ 0,zs,zl,zs,zl,zs,zs] 74,.box b5 [iQ n] 3,.box b6 [.func (.func 173) #[] #[pQ b3]] 110,.box b7 [sv A.2,iQ op9,sv f9.1,.slice a9 n9 c9,sv fac9,.slice a8 n8 c8,sv lo.2,sv hi.2] 74,.hp H9] λq' hq'=>?_;refine lR 2 0 ?_;refine k6 (i:=1) rfl (λw0 w' hok=>l6 w' (hok.mem 1 _ rfl) (hok.kle rfl rfl hk) hR11) ?_;rintro _ h12 _ ⟨rfl,hR12⟩;have hR12:G0 k h12 b (s8 (hi.1) [59]):=hR12;apply hq';refine nQ [.hp c0,.hp h12,.box rb (H8 b (kx) ad nd cd) 155,.box b3 [.slice a n c] 28,.box b4 [zs,iQ 0,zs,zl,zs,zl,zs,zs] 74,.box b5 [iQ n] 3,.box b6 [.func (.func 173) #[] #[pQ b3]] 110,.box b7 [sv A.2,iQ op9,sv f9.1,.slice a9 n9 c9,sv fac9,.slice a8 n8 c8,sv lo.2,sv hi.2] 74,.hp H9] λq' hq'=>?_;apply hq';rw[eF (hi.1) (by rw[if_neg (λc=>s1 c.1.1)])]
   all_goals
    exact⟨h12,[.box rb (H8 b kx ad nd cd) 155,.hp H9],⟨_,_,rfl,⟨_,rfl,rfl,⟨[iQ op9,sv f9.1,.slice a9 n9 c9,sv fac9,.slice a8 n8 c8],rfl,hE9⟩⟩,⟨kx,rfl⟩,hR12⟩,pk [0,1,2,8]⟩
 all_goals
  refine m9 λq' hq'=>?_;have eF :∀R9,R9=(if (lo.2≠[]/\hi.2≠[])/\S7 hi.1 [59]=true/\dI hi.2*dJ lo.2 < dI lo.2*dJ hi.2 then w9 hi.1 8 else hi.1)->eQ names dims r=(s8 R9 [59],(A.2,E.2.2,lo.2,hi.2)):=by
   rintro _ rfl;unfold eQ;dsimp only;rw[<-er2,<-hA,<-er4,<-hE,<-hlo0,<-hhi0]
  refine pZ (b:=[]) ?_;refine d9 (λs1=>?_) λs1=>?_;focus
   refine pZ (b:=[]) ?_;refine d9 (λs2=>?_) λs2=>?_
   ·refine lR 2 0 ?_;refine k7 _ (λw' hm=>R1 w' (hm 1 _ rfl) (hk.trans (hm 0 _ rfl).whole) hR12) ?_;apply hq';refine v7 (λs3=>?_) λs3=>?_;focus
     have h0:hi.1.e=0:=(P5 s3).1;have gL:X4 lo.1:=by rw[hlo0];exact o7.good (o7.opt E.1 iG) gE
     have nH:H5 hi.2=0:=by
      rw[hhi0] at h0 s2 ⊢;split at h0
      ·rename_i q;rw[if_pos q];exact pG (o7.good (o7.next _) gL) h0
      ·rename_i q;rw[if_neg q] at s2;exact absurd rfl s2
     have l0:lo.1.e=0:=o7.ok (by rw[hhi0];exact o7.opt lo.1 HW) h0;have nL:H5 lo.2=0:=by
      rw[hlo0] at l0 s1 ⊢;split at l0
      ·rename_i q;rw[if_pos q];exact pG (o7.good (o7.next _) gE) l0
      ·rename_i q;rw[if_neg q] at s1;exact absurd rfl s1
     have lnL:=N8 nL;have lnH:=N8 nH;refine nQ [.hp c0,.hp h12,.box rb (H8 b (kx) ad nd cd) 155,.box b3 [.slice a n c] 28,.box b4 [zs,iQ 0,zs,zl,zs,zl,zs,zs] 74,.box b5 [iQ n] 3,.box b6 [.func (.func 173) #[] #[pQ b3]] 110,.box b7 [sv A.2,iQ op9,sv f9.1,.slice a9 n9 c9,sv fac9,.slice a8 n8 c8,sv lo.2,sv hi.2] 74,.hp H9] λq' hq'=>?_;refine call (λw' hm=>fU lo.2 om w') ?_;rintro _ _ ⟨g8,rfl,hRat1⟩;obtain⟨⟨m1,⟨p1,u1,v1⟩,⟨x1,y1,z1⟩⟩,rfl,hS1⟩:=fM hRat1 nL;intro b8;apply hq';refine nQ [.hp c0,.hp h12,.box rb (H8 b (kx) ad nd cd) 155,.box b3 [.slice a n c] 28,.box b4 [zs,iQ 0,zs,zl,zs,zl,zs,zs] 74,.box b5 [iQ n] 3,.box b6 [.func (.func 173) #[] #[pQ b3]] 110,.box b7 [sv A.2,iQ op9,sv f9.1,.slice a9 n9 c9,sv fac9,.slice a8 n8 c8,sv lo.2,sv hi.2] 74,.hp H9,.hp g8,.box b8 [.bool m1,.slice p1 u1 v1,.bool false,.slice x1 y1 z1] 141] λq' hq'=>?_;refine call (λw' hm=>fU hi.2 om w') ?_;rintro _ _ ⟨g9,rfl,hRat2⟩;obtain⟨⟨m2,⟨p2,u2,v2⟩,⟨x2,y2,z2⟩⟩,rfl,hS2⟩:=fM hRat2 nH;intro b9;obtain⟨X1,Y1,q1,q2,q3⟩:=hS1;obtain⟨X2,Y2,w1,w2,w3⟩:=hS2;apply hq';refine nQ [.hp c0,.hp h12,.box rb (H8 b (kx) ad nd cd) 155,.box b3 [.slice a n c] 28,.box b4 [zs,iQ 0,zs,zl,zs,zl,zs,zs] 74,.box b5 [iQ n] 3,.box b6 [.func (.func 173) #[] #[pQ b3]] 110,.box b7 [sv A.2,iQ op9,sv f9.1,.slice a9 n9 c9,sv fac9,.slice a8 n8 c8,sv lo.2,sv hi.2] 74,.hp H9,.hp g8,.box b8 [.bool m1,.slice p1 u1 v1,.bool false,.slice x1 y1 z1] 141,.hp g9,.box b9 [.bool m2,.slice p2 u2 v2,.bool false,.slice x2 y2 z2] 141] λq' hq'=>?_;refine k7 _ (λw' hm=>cX w' (q1.mono (hm 9 _ rfl).whole) (w1.mono (hm 11 _ rfl).whole)) ?_;rw[q2,q3,w2,w3];apply hq';refine d9 (λs4=>?_) λs4=>?_
     ·refine nQ [.hp c0,.hp h12,.box rb (H8 b (kx) ad nd cd) 155,.box b3 [.slice a n c] 28,.box b4 [zs,iQ 0,zs,zl,zs,zl,zs,zs] 74,.box b5 [iQ n] 3,.box b6 [.func (.func 173) #[] #[pQ b3]] 110,.box b7 [sv A.2,iQ op9,sv f9.1,.slice a9 n9 c9,sv fac9,.slice a8 n8 c8,sv lo.2,sv hi.2] 74,.hp H9,.hp g8,.box b8 [.bool m1,.slice p1 u1 v1,.bool false,.slice x1 y1 z1] 141,.hp g9,.box b9 [.bool m2,.slice p2 u2 v2,.bool false,.slice x2 y2 z2] 141] λq' hq'=>?_;refine lR 2 0 ?_;refine k6 (i:=1) rfl (λw0 w' hok=>F9 w' (hok.mem 1 _ rfl) (hok.kle rfl rfl hk) hR12) ?_;rintro _ h13 _ ⟨rfl,hR13⟩;have hR13:G0 k h13 b (w9 hi.1 8):=hR13;apply hq';refine nQ [.hp c0,.hp h13,.box rb (H8 b (kx) ad nd cd) 155,.box b3 [.slice a n c] 28,.box b4 [zs,iQ 0,zs,zl,zs,zl,zs,zs] 74,.box b5 [iQ n] 3,.box b6 [.func (.func 173) #[] #[pQ b3]] 110,.box b7 [sv A.2,iQ op9,sv f9.1,.slice a9 n9 c9,sv fac9,.slice a8 n8 c8,sv lo.2,sv hi.2] 74,.hp H9,.hp g8,.box b8 [.bool m1,.slice p1 u1 v1,.bool false,.slice x1 y1 z1] 141,.hp g9,.box b9 [.bool m2,.slice p2 u2 v2,.bool false,.slice x2 y2 z2] 141] λq' hq'=>?_;refine lR 2 0 ?_;refine k6 (i:=1) rfl (λw0 w' hok=>l6 w' (hok.mem 1 _ rfl) (hok.kle rfl rfl hk) hR13) ?_;rintro _ h14 _ ⟨rfl,hR14⟩;have hR14:G0 k h14 b (s8 (w9 hi.1 8) [59]):=hR14;apply hq';refine nQ [.hp c0,.hp h14,.box rb (H8 b (kx) ad nd cd) 155,.box b3 [.slice a n c] 28,.box b4 [zs,iQ 0,zs,zl,zs,zl,zs,zs] 74,.box b5 [iQ n] 3,.box b6 [.func (.func 173) #[] #[pQ b3]] 110,.box b7 [sv A.2,iQ op9,sv f9.1,.slice a9 n9 c9,sv fac9,.slice a8 n8 c8,sv lo.2,sv hi.2] 74,.hp H9,.hp g8,.box b8 [.bool m1,.slice p1 u1 v1,.bool false,.slice x1 y1 z1] 141,.hp g9,.box b9 [.bool m2,.slice p2 u2 v2,.bool false,.slice x2 y2 z2] 141] λq' hq'=>?_;apply hq';rw[eF (w9 hi.1 8) (by rw[if_pos ⟨⟨s1,s2⟩,s3,gI.1 s4⟩])];exact⟨h14,[.box rb (H8 b kx ad nd cd) 155,.hp H9],⟨_,_,rfl,⟨_,rfl,rfl,⟨[iQ op9,sv f9.1,.slice a9 n9 c9,sv fac9,.slice a8 n8 c8],rfl,hE9⟩⟩,⟨kx,rfl⟩,hR14⟩,pk [0,1,2,8]⟩
     focus
      refine nQ [.hp c0,.hp h12,.box rb (H8 b (kx) ad nd cd) 155,.box b3 [.slice a n c] 28,.box b4 [zs,iQ 0,zs,zl,zs,zl,zs,zs] 74,.box b5 [iQ n] 3,.box b6 [.func (.func 173) #[] #[pQ b3]] 110,.box b7 [sv A.2,iQ op9,sv f9.1,.slice a9 n9 c9,sv fac9,.slice a8 n8 c8,sv lo.2,sv hi.2] 74,.hp H9,.hp g8,.box b8 [.bool m1,.slice p1 u1 v1,.bool false,.slice x1 y1 z1] 141,.hp g9,.box b9 [.bool m2,.slice p2 u2 v2,.bool false,.slice x2 y2 z2] 141] λq' hq'=>?_;refine lR 2 0 ?_;refine k6 (i:=1) rfl (λw0 w' hok=>l6 w' (hok.mem 1 _ rfl) (hok.kle rfl rfl hk) hR12) ?_;rintro _ h13 _ ⟨rfl,hR13⟩;have hR13:G0 k h13 b (s8 (hi.1) [59]):=hR13;apply hq';refine nQ [.hp c0,.hp h13,.box rb (H8 b (kx) ad nd cd) 155,.box b3 [.slice a n c] 28,.box b4 [zs,iQ 0,zs,zl,zs,zl,zs,zs] 74,.box b5 [iQ n] 3,.box b6 [.func (.func 173) #[] #[pQ b3]] 110,.box b7 [sv A.2,iQ op9,sv f9.1,.slice a9 n9 c9,sv fac9,.slice a8 n8 c8,sv lo.2,sv hi.2] 74,.hp H9,.hp g8,.box b8 [.bool m1,.slice p1 u1 v1,.bool false,.slice x1 y1 z1] 141,.hp g9,.box b9 [.bool m2,.slice p2 u2 v2,.bool false,.slice x2 y2 z2] 141] λq' hq'=>?_;apply hq';rw[eF (hi.1) (by rw[if_neg (λc=>s4 (gI.2 c.2.2))])]
    rotate_left
    focus
     refine nQ [.hp c0,.hp h12,.box rb (H8 b (kx) ad nd cd) 155,.box b3 [.slice a n c] 28,.box b4 [zs,iQ 0,zs,zl,zs,zl,zs,zs] 74,.box b5 [iQ n] 3,.box b6 [.func (.func 173) #[] #[pQ b3]] 110,.box b7 [sv A.2,iQ op9,sv f9.1,.slice a9 n9 c9,sv fac9,.slice a8 n8 c8,sv lo.2,sv hi.2] 74,.hp H9] λq' hq'=>?_;refine lR 2 0 ?_;refine k6 (i:=1) rfl (λw0 w' hok=>l6 w' (hok.mem 1 _ rfl) (hok.kle rfl rfl hk) hR12) ?_;rintro _ h13 _ ⟨rfl,hR13⟩;have hR13:G0 k h13 b (s8 (hi.1) [59]):=hR13;apply hq';refine nQ [.hp c0,.hp h13,.box rb (H8 b (kx) ad nd cd) 155,.box b3 [.slice a n c] 28,.box b4 [zs,iQ 0,zs,zl,zs,zl,zs,zs] 74,.box b5 [iQ n] 3,.box b6 [.func (.func 173) #[] #[pQ b3]] 110,.box b7 [sv A.2,iQ op9,sv f9.1,.slice a9 n9 c9,sv fac9,.slice a8 n8 c8,sv lo.2,sv hi.2] 74,.hp H9] λq' hq'=>?_;apply hq';rw[eF (hi.1) (by rw[if_neg (λc=>by rw[s3] at c;cases c.2.1)])]
    all_goals
     exact⟨h13,[.box rb (H8 b kx ad nd cd) 155,.hp H9],⟨_,_,rfl,⟨_,rfl,rfl,⟨[iQ op9,sv f9.1,.slice a9 n9 c9,sv fac9,.slice a8 n8 c8],rfl,hE9⟩⟩,⟨kx,rfl⟩,hR13⟩,pk [0,1,2,8]⟩
   focus
    apply hq';refine dU rfl ?_;refine nQ [.hp c0,.hp h12,.box rb (H8 b (kx) ad nd cd) 155,.box b3 [.slice a n c] 28,.box b4 [zs,iQ 0,zs,zl,zs,zl,zs,zs] 74,.box b5 [iQ n] 3,.box b6 [.func (.func 173) #[] #[pQ b3]] 110,.box b7 [sv A.2,iQ op9,sv f9.1,.slice a9 n9 c9,sv fac9,.slice a8 n8 c8,sv lo.2,sv hi.2] 74,.hp H9] λq' hq'=>?_;refine lR 2 0 ?_;refine k6 (i:=1) rfl (λw0 w' hok=>l6 w' (hok.mem 1 _ rfl) (hok.kle rfl rfl hk) hR12) ?_;rintro _ h13 _ ⟨rfl,hR13⟩;have hR13:G0 k h13 b (s8 (hi.1) [59]):=hR13;apply hq';refine nQ [.hp c0,.hp h13,.box rb (H8 b (kx) ad nd cd) 155,.box b3 [.slice a n c] 28,.box b4 [zs,iQ 0,zs,zl,zs,zl,zs,zs] 74,.box b5 [iQ n] 3,.box b6 [.func (.func 173) #[] #[pQ b3]] 110,.box b7 [sv A.2,iQ op9,sv f9.1,.slice a9 n9 c9,sv fac9,.slice a8 n8 c8,sv lo.2,sv hi.2] 74,.hp H9] λq' hq'=>?_;apply hq';rw[eF (hi.1) (by rw[if_neg (λc=>s2 c.1.2)])]
  rotate_left
  focus
   apply hq';refine dU rfl ?_;refine nQ [.hp c0,.hp h12,.box rb (H8 b (kx) ad nd cd) 155,.box b3 [.slice a n c] 28,.box b4 [zs,iQ 0,zs,zl,zs,zl,zs,zs] 74,.box b5 [iQ n] 3,.box b6 [.func (.func 173) #[] #[pQ b3]] 110,.box b7 [sv A.2,iQ op9,sv f9.1,.slice a9 n9 c9,sv fac9,.slice a8 n8 c8,sv lo.2,sv hi.2] 74,.hp H9] λq' hq'=>?_;refine lR 2 0 ?_;refine k6 (i:=1) rfl (λw0 w' hok=>l6 w' (hok.mem 1 _ rfl) (hok.kle rfl rfl hk) hR12) ?_;rintro _ h13 _ ⟨rfl,hR13⟩;have hR13:G0 k h13 b (s8 (hi.1) [59]):=hR13;apply hq';refine nQ [.hp c0,.hp h13,.box rb (H8 b (kx) ad nd cd) 155,.box b3 [.slice a n c] 28,.box b4 [zs,iQ 0,zs,zl,zs,zl,zs,zs] 74,.box b5 [iQ n] 3,.box b6 [.func (.func 173) #[] #[pQ b3]] 110,.box b7 [sv A.2,iQ op9,sv f9.1,.slice a9 n9 c9,sv fac9,.slice a8 n8 c8,sv lo.2,sv hi.2] 74,.hp H9] λq' hq'=>?_;apply hq';rw[eF (hi.1) (by rw[if_neg (λc=>s1 c.1.1)])]
  all_goals
   exact⟨h13,[.box rb (H8 b kx ad nd cd) 155,.hp H9],⟨_,_,rfl,⟨_,rfl,rfl,⟨[iQ op9,sv f9.1,.slice a9 n9 c9,sv fac9,.slice a8 n8 c8],rfl,hE9⟩⟩,⟨kx,rfl⟩,hR13⟩,pk [0,1,2,8]⟩
end Go.Proofs.YtpjhmeicbjkcdaaGreatDoor
namespace Go.Proofs.YtpjhmeicbjkcdaaGreatDoor
open Go
theorem Fg {r:RS} {c m:Nat} (h:(H6 r c m).e=0):c < m:=by
 unfold H6 at h;split at h
 ·exact absurd h (aK r dc)
 ·omega
theorem JD (names:List d8) (r:RS):o7 (s8 (H6 r names.length 64) S9) (dM names r).1:=by
 unfold dM;dsimp only;exact (((((o7.nam _ _).trans (o7.exp _ _)).trans (o7.int _ _ _)).trans (o7.exp _ _)).trans (o7.cels _ _ _)).trans (o7.exp _ _)
theorem KB (parts names:List d8) (r:RS):o7 (s8 (H6 r names.length 12) dE) (kA parts names r).1:=by
 unfold kA;dsimp only;exact (((((((o7.nam _ _).trans (o7.exp _ _)).trans (o7.nam _ _)).trans (o7.exp _ _)).trans (o7.lst (λr=>o7.int r _ _) 4 _)).trans (o7.exp _ _)).trans (o7.lst o7.numb 3 _)).trans (o7.exp _ _)
theorem KS (names:List d8) (r:RS):o7 (s8 (H6 r names.length 64) Z8) (kI names r).1:=by
 unfold kI rL;dsimp only;have h:=(((((((o7.nam (s8 (H6 r names.length 64) Z8) (Z6 names)).trans (o7.exp _ [61])).trans (o7.int _ (-1073741824) 1073741824)).trans (o7.exp _ [91])).trans (o7.int _ (-1073741824) 1073741824)).trans (o7.exp _ [44])).trans (o7.int _ (-1073741824) 1073741824)).trans (o7.exp _ [93]);exact ((h.trans (o7.fail _ 8)).ite h).trans (o7.exp _ _)
theorem LA (names dims:List d8) (r:RS):o7 (s8 (H6 r names.length 64) Y8) (iC names dims r).1:=by
 unfold iC;dsimp only;have h:=(((o7.nam (s8 (H6 r names.length 64) Y8) (Z6 names)).trans (o7.exp _ [58])).trans (o7.for dims _)).trans (o7.exp _ [60,61]);exact (((h.trans (o7.fail _ 14)).ite h).trans (o7.next _)).trans (o7.exp _ _)
theorem IR (names dims:List d8) (r:RS):o7 (s8 (H6 r names.length 64) W7) (eQ names dims r).1:=by
 unfold eQ;dsimp only;have h:=((((o7.nam (s8 (H6 r names.length 64) W7) (Z6 names)).trans (o7.exp _ [58])).trans (o7.expr dims 8 _ 0)).trans (o7.opt _ iG)).trans (o7.opt _ HW);exact ((h.trans (o7.fail _ 8)).ite h).trans (o7.exp _ _)
structure LQ {α:Type} (w:d8) (tk:List α->RS->RS×α) (m:Nat) (tot:RS×List α) (r:RS) (out:List α):Prop where
 t :∃f,G2 r<=f/\W4 w tk f r out=tot
 l:out.length<=m+1
 k:r.e=0->out.length<=m
 g:X4 r
section
variable {α:Type} {w:d8} {tk:List α->RS->RS×α} {m:Nat} {tot:RS×List α} {r:RS} {out:List α}
theorem LQ.zero (g:X4 r):LQ w tk m (W4 w tk (G2 r) r []) r []:=⟨⟨G2 r,j8 _,rfl⟩,j0 _,λ_=>j0 _,g⟩
theorem LQ.next (ht:o7 (s8 (H6 r out.length m) w) (tk out r).1) (h:LQ w tk m tot r out) (hi:S7 r w=true):LQ w tk m tot (tk out r).1 (out++[(tk out r).2])/\G2 (tk out r).1 < G2 r:=by
 have h0:=(P5 hi).1;have hlt:G2 (tk out r).1 < G2 r:=p8 ht.rem (rK h.g.l hi);have hm:=h.k h0;obtain⟨f,hf,e⟩:=h.t;have ha:o7 r (tk out r).1:=((o7.lim r _ _).trans (o7.exp _ _)).trans ht;refine⟨⟨?_,by rw[d6];simp only[d7,i6];omega,λe0=>?_,ha.good h.g⟩,hlt⟩
 ·cases f with
  | zero=>exact absurd hf om
  | succ f=>
   refine⟨f,om,?_⟩;rw[<-e];conv=>rhs;unfold W4
   rw[if_pos hi]
 ·have:=Fg ((o7.exp _ w).ok (ht.ok e0));rw[d6];simp only[d7,i6];omega
theorem LQ.done (h:LQ w tk m tot r out) (hi:S7 r w=false):tot=(r,out):=by
 obtain⟨f,hf,e⟩:=h.t;rw[<-e];cases f with
 | zero=>rfl
 | succ f=>unfold W4;rw[if_neg (by rw[hi];decide)]
end
end Go.Proofs.YtpjhmeicbjkcdaaGreatDoor
namespace Go.Dw
open Go Go.RowKit
theorem Ok.leI {w0 w:World} {s:List Ch} (hok:Ok w0 s w) {i j:Nat} {h:Hp} {x:Ch} (hne:j≠i) (hj:l7 s j=some x) (hi:l7 s i=some (.hp h)):x.h.le ((Hp.whole w).minus h):=
 Hp.le_minus (hok.mem j _ hj).whole (hok.disj j i _ _ hne hj hi)
end Go.Dw
namespace Go.Proofs.YtpjhmeicbjkcdaaGreatDoor
open Go Go.RowKit Go.Dw
theorem NA {k h:Hp} {rb b:Nat} {r:RS} {a:Option Addr} {n c:Nat} {L:List V9} (w:World) (hin:h.In w) (hd:DR ((Hp.whole w).minus h) k h rb b r) (hL:Sl cN 3 ((Hp.whole w).minus h) a n c L) (hn:L.length < 1000000) :
  j2 Tryz.prog 80 #[pQ rb,.slice a n c] w (O3 w h λv h' cs=>∃H a9 n9 c9,cs = [.hp H]/\(v=.agg #[sv (dM (L.map λx:V9=>x.1) r).2.1,iQ (dM (L.map λx:V9=>x.1) r).2.2.1,.slice a9 n9 c9]/\Sl GW 1 H a9 n9 c9 (dM (L.map λx:V9=>x.1) r).2.2.2/\G0 k h' b (dM (L.map λx:V9=>x.1) r).1)):=by
 have h0:=JB w hin hd hL hn;refine⟨h0.1,h0.2.mono λe w' he=>?_⟩;obtain⟨v,h',cs,rfl,hok,o,H,rfl,rfl,hG,hR⟩:=he;have hdj:H.dj o.h:=hok.disj 2 3 _ _ dc rfl rfl;exact⟨_,h',[.hp (H.join o.h)],rfl,(Ok.join (hok.pick [0,2,3,1] rfl rfl)).pick [0,2,1] rfl rfl,H.join o.h,o.a,o.n,o.c,rfl,rfl,hG.sl fN dc (Hp.le_join_l _ _) (Hp.le_join_r hdj),hR⟩
def WN:kR:=⟨[],[],[],[],[],[]⟩
def jA (s:d8):kR×Int×Int×Int:=if (rG s).1.e≠0 then (WN,(rG s).1.ln,(rG s).1.co,(rG s).1.e) else ((rG s).2,0,0,0)
theorem Gv (d:Nat) (H:Hp):vX d H WN [zs,zl,zl,zl,zl,zl]:=
 ⟨⟨none,0,0,none,0,0,none,0,0,none,0,0,none,0,0,rfl,Sl.nil _ _ _ _ _,Sl.nil _ _ _ _ _,Sl.nil _ _ _ _ _,Sl.nil _ _ _ _ _,Sl.nil _ _ _ _ _⟩⟩
theorem WQ (s:d8):X4 (uA s):=X4.new (vG s).1
set_option maxHeartbeats 4000000 in
set_option maxRecDepth 10000 in
theorem sG (s:d8) (w:World) (hT:uT (Hp.whole w)) :
  j2 Tryz.prog 22 #[sv s] w (fQ w λv cs=>∃H xs,cs = [.hp H]/\v=.tuple #[.agg xs.toArray,iQ (jA s).2.1,iQ (jA s).2.2.1,iQ (jA s).2.2.2]/\xs.length=6/\vX 9 H (jA s).1 xs):=by
 refine enterZ (cx 125) [sv s] [.cell 2 30,.tmp 3,.tmp 4,.tmp 5] Tryz.func22 ?_;intro b2;refine m9 λq' hq'=>?_;apply hq';refine nQ [.hp (Hp.whole w),.box b2 [zs,zl,zl,zl,zl,zl] 30] λq' hq'=>?_;refine call (λw' hm=>ZD s w' (hT.mono (hm 0 _ rfl).whole)) ?_;rintro _ _ ⟨b,h,k,rfl,rfl,hR⟩;obtain⟨r,hr⟩ :∃r,r=uA s:=⟨_,rfl⟩
 have hg:X4 r:=by rw[hr];exact WQ s
 rw[<-hr] at hR;intro rb;apply hq';refine nQ [.hp (Hp.whole w),.box b2 [zs,zl,zl,zl,zl,zl] 30,.hp h,.hp k,.box rb [pQ b,zl,iQ 0] 155] λq' hq'=>?_;refine k6 (i:=2) rfl (λw0 w' hok=>l6 w' (hok.mem 2 _ rfl) (hok.leI (i:=2) (j:=3) dc rfl rfl) hR) ?_;rintro _ h1 _ ⟨rfl,hR1⟩;have hR1:G0 k h1 b (s8 r fY):=hR1;obtain⟨r1,er1⟩ :∃x,x=s8 r fY:=⟨_,rfl⟩
 rw[<-er1] at hR1;apply hq';refine nQ [.hp (Hp.whole w),.box b2 [zs,zl,zl,zl,zl,zl] 30,.hp h1,.hp k,.box rb [pQ b,zl,iQ 0] 155] λq' hq'=>?_;refine k6 (i:=2) rfl (λw0 w' hok=>O6 (cap:=[]) (chk:=λ_=>0) w' (hok.mem 2 _ rfl) (DR.mk (hok.leI (i:=2) (j:=3) dc rfl rfl) hR1 ((hok.leI (i:=2) (j:=4) dc rfl rfl).cell (I0 rb _ rfl))) (λw1 hi1 s _=>CS s w1)) ?_;rintro _ h2 _ ⟨rfl,rfl,hR2⟩;obtain⟨A,hA⟩ :∃x,x=L0 r1 (λ_=>0):=⟨_,rfl⟩
 rw[<-hA] at hR2 ⊢;apply hq';refine nQ [.hp (Hp.whole w),.box b2 [sv A.2,zl,zl,zl,zl,zl] 30,.hp h2,.hp k,.box rb [pQ b,zl,iQ 0] 155] λq' hq'=>?_;refine k6 (i:=2) rfl (λw0 w' hok=>l6 w' (hok.mem 2 _ rfl) (hok.leI (i:=2) (j:=3) dc rfl rfl) hR2) ?_;rintro _ h3 _ ⟨rfl,hR3⟩;have hR3:G0 k h3 b (s8 A.1 [59]):=hR3;obtain⟨r3,er3⟩ :∃x,x=s8 A.1 [59]:=⟨_,rfl⟩
 rw[<-er3] at hR3;have g3:X4 r3:=by
  rw[er3,hA,er1];exact o7.good (((o7.exp r fY).trans (o7.nam _ _)).trans (o7.exp _ _)) hg
 apply hq';obtain⟨tp,etp⟩ :∃x,x=W4 S9 (λout r=>dM (out.map (·.1)) r) (G2 r3) r3 []:=⟨_,rfl⟩
 refine z6.mkS (RS×List V9×Hp×Hp×Dw.Os) (λ_=>[(2,.bx 3 0),(6,.v (pQ rb))]) (λg=>[.hp (Hp.whole w),.hp g.2.2.1,.box rb [pQ b,zl,iQ 0] 155,.box b2 [sv A.2,g.2.2.2.2.v,zl,zl,zl,zl] 30,.hp k,.hp g.2.2.2.1,.hp g.2.2.2.2.h]) (λg=>G0 k g.2.2.1 b g.1/\LQ S9 (λout r=>dM (out.map (·.1)) r) 64 tp g.1 g.2.1/\aR cN 83 3 g.2.2.2.1 g.2.2.2.2 g.2.1) (λg=>G2 g.1) (r3,[],h3,Hp.emp,Dw.Os.nil) ⟨hR3,by rw[etp];exact LQ.zero g3,aR.nil⟩ (y6.mk (λ_ _ h=>(h.pick [0,2,4,1,3] rfl rfl).emp.emp) rfl rfl) ?_;rintro⟨rr,out,hp,HHp,op⟩ ⟨hRp,hI,hGp⟩ hsat;dsimp only at hRp hI hGp ⊢;refine m9 λq' hq'=>?_;refine lR 2 0 ?_;refine k7 _ (λw' hm=>R1 (s:=S9) w' (hm 1 _ rfl) (hm 4 _ rfl).whole hRp) ?_;apply hq';refine v7 (λg1=>?_) λg1=>?_
 ·have hlo:out.length<=64:=hI.k (P5 g1).1;obtain⟨hI2,hlt⟩:=hI.next (by have:=JD (out.map (·.1)) rr;rw[j6] at this;exact this) g1;obtain⟨B,hB⟩ :∃x,x=dM (out.map (·.1)) rr:=⟨_,rfl⟩
  try dsimp only at hI2 hlt
  rw[<-hB] at hI2 hlt;refine u6.cut (Hp×Hp×Dw.Os) (λ_=>[(2,.bx 3 0),(6,.v (pQ rb))]) (λg=>[.hp (Hp.whole w),.hp g.1,.box rb [pQ b,zl,iQ 0] 155,.box b2 [sv A.2,g.2.2.v,zl,zl,zl,zl] 30,.hp k,.hp g.2.1,.hp g.2.2.h]) (λg=>G0 k g.1 b B.1/\aR cN 83 3 g.2.1 g.2.2 (out++[B.2])) (u6.by_order0 (s0:=[.hp (Hp.whole w),.hp Hp.emp,.box rb [pQ b,zl,iQ 0] 155,.box b2 [sv A.2,op.v,zl,zl,zl,zl] 30,.hp k,.hp HHp,.hp Hp.emp]) cQ (.take 0 <| .take 1 <| .take 2 <| .take 3 <| .take 4 <| .take 5 <| .take 6 <| .run 7 <| .run 8 <| .run 9 <| .run 10 <| .run 11 <| .run 12 <| .done) kr (sK) ?_) ?_
  ·refine k6 (i:=1) rfl (λw0 w' hok=>NA (L:=out) w' (hok.mem 1 _ rfl) (DR.mk (hok.leI (i:=1) (j:=4) dc rfl rfl) hRp (hok.bx1 (j:=2) (n:=0) rfl rfl dc rfl)) (hGp.sl J0 dc (hok.leI (i:=1) (j:=5) dc rfl rfl) (hok.leI (i:=1) (j:=6) dc rfl rfl)) om) ?_;rintro _ h9 _ ⟨H9,a9,n9,c9,rfl,rfl,hC9,hR9⟩;rw[<-hB] at hC9 hR9 ⊢;refine⟨sK,?_⟩;intro b9;refine⟨sK,?_⟩;refine qM (R:=cN) (o:=op) (L:=out) (H:=HHp.join H9) cQ (e:=83) rfl (i:=6) rfl (λ_=>hGp.mono J0 (Hp.le_join_l _ _)) B.2 [sv B.2.1,iQ B.2.2.1,.slice a9 n9 c9] (j:=8) rfl rfl rfl rfl om (λhs=>?_) λo2 _ hG2=>?_
   ·obtain⟨w0,w',hok⟩:=hs;exact⟨a9,n9,c9,rfl,hC9.mono fN (Hp.le_join_r (hok.disj 5 7 _ _ dc rfl rfl))⟩
   refine⟨sK,?_⟩;exact⟨(h9,HHp.join H9,o2),⟨hR9,hG2⟩,y6.mk (λ_ _ h=>(Ok.join (h.pick [0,5,7,1,2,3,4,6] rfl rfl)).pick [0,2,3,4,5,1,6] rfl rfl) rfl rfl⟩
  rintro⟨h9,H9,o9⟩ ⟨hR9,hG9⟩ _;dsimp only at hR9 hG9 ⊢;exact⟨(B.1,out++[B.2],h9,H9,o9),⟨hR9,hI2,hG9⟩,hlt,y6.mk (λ_ _ h=>h) rfl rfl⟩
 have ep:=hI.done g1;have hlp:out.length<=65:=hI.l;have hgp:X4 rr:=hI.g;obtain⟨rp,erp⟩ :∃x,x=tp.1:=⟨_,rfl⟩
 have eop:out=tp.2:=by rw[ep]
 have ewp:rr=rp:=by rw[erp,ep]
 rw[ewp] at hRp hgp;rw[eop] at hGp hlp;clear hI ep ewp eop hsat;obtain⟨ti,eti⟩ :∃x,x=W4 dE (λout r=>kA (tp.2.map (·.1)) (out.map (·.1)) r) (G2 rp) rp []:=⟨_,rfl⟩
 refine z6.mkS (RS×List lW×Hp×Dw.Os) (λ_=>[(2,.bx 3 0),(6,.v (pQ rb))]) (λg=>[.hp (Hp.whole w),.hp g.2.2.1,.box rb [pQ b,zl,iQ 0] 155,.box b2 [sv A.2,op.v,g.2.2.2.v,zl,zl,zl] 30,.hp k,.hp HHp,.hp op.h,.hp g.2.2.2.h]) (λg=>G0 k g.2.2.1 b g.1/\LQ dE (λout r=>kA (tp.2.map (·.1)) (out.map (·.1)) r) 12 ti g.1 g.2.1/\w5 fF 93 9 g.2.2.2 g.2.1) (λg=>G2 g.1) (rp,[],hp,Dw.Os.nil) ⟨hRp,by rw[eti];exact LQ.zero hgp,w5.nil _ _ _⟩ (y6.mk (λ_ _ h=>h.emp) rfl rfl) ?_;rintro⟨rr,out,hi,oi⟩ ⟨hRi,hI,hGi⟩ hsat;dsimp only at hRi hI hGi ⊢;refine m9 λq' hq'=>?_;refine lR 2 0 ?_;refine k7 _ (λw' hm=>R1 (s:=dE) w' (hm 1 _ rfl) (hm 4 _ rfl).whole hRi) ?_;apply hq';refine v7 (λg1=>?_) λg1=>?_
 ·have hlo:out.length<=12:=hI.k (P5 g1).1;obtain⟨hI2,hlt⟩:=hI.next (by have:=KB (tp.2.map (·.1)) (out.map (·.1)) rr;rw[j6] at this;exact this) g1;obtain⟨B,hB⟩ :∃x,x=kA (tp.2.map (·.1)) (out.map (·.1)) rr:=⟨_,rfl⟩
  try dsimp only at hI2 hlt
  rw[<-hB] at hI2 hlt;refine u6.cut (Hp×Dw.Os) (λ_=>[(2,.bx 3 0),(6,.v (pQ rb))]) (λg=>[.hp (Hp.whole w),.hp g.1,.box rb [pQ b,zl,iQ 0] 155,.box b2 [sv A.2,op.v,g.2.v,zl,zl,zl] 30,.hp k,.hp HHp,.hp op.h,.hp g.2.h]) (λg=>G0 k g.1 b B.1/\w5 fF 93 9 g.2 (out++[B.2])) (u6.by_order0 (s0:=[.hp (Hp.whole w),.hp Hp.emp,.box rb [pQ b,zl,iQ 0] 155,.box b2 [sv A.2,op.v,oi.v,zl,zl,zl] 30,.hp k,.hp HHp,.hp op.h,.hp Hp.emp]) cQ (.take 0 <| .take 1 <| .take 2 <| .take 3 <| .take 4 <| .take 5 <| .run 6 <| .run 7 <| .run 8 <| .run 9 <| .run 10 <| .run 11 <| .done) kr (sK) ?_) ?_
  ·refine k6 (i:=1) rfl (λw0 w' hok=>xV (L:=out) (P:=tp.2) w' (hok.mem 1 _ rfl) (DR.mk (hok.leI (i:=1) (j:=4) dc rfl rfl) hRi (hok.bx1 (j:=2) (n:=0) rfl rfl dc rfl)) ((w5.sl (f:=fF) (λ_=>rfl) dc hGi).mono (j7 _) (hok.leI (i:=1) (j:=7) dc rfl rfl)) om (hGp.sl J0 dc (hok.leI (i:=1) (j:=5) dc rfl rfl) (hok.leI (i:=1) (j:=6) dc rfl rfl)) om) ?_;rintro _ h9 _ ⟨rfl,rfl,hR9⟩;rw[<-hB] at hR9 ⊢;refine⟨sK,?_⟩;intro b9;refine⟨sK,?_⟩;refine gZ (f:=fF) cQ (e:=93) rfl (i:=7) rfl hGi B.2 (j:=8) rfl rfl rfl rfl om λo2 hG2=>?_;refine⟨sK,?_⟩;exact⟨(h9,o2),⟨hR9,hG2⟩,y6.mk (pj [0,1,2,3,4,5,6,7]) rfl rfl⟩
  rintro⟨h9,o9⟩ ⟨hR9,hG9⟩ _;dsimp only at hR9 hG9 ⊢;exact⟨(B.1,out++[B.2],h9,o9),⟨hR9,hI2,hG9⟩,hlt,y6.mk (λ_ _ h=>h) rfl rfl⟩
 have ei:=hI.done g1;have hli:out.length<=13:=hI.l;have hgi:X4 rr:=hI.g;obtain⟨ri,eri⟩ :∃x,x=ti.1:=⟨_,rfl⟩
 have eoi:out=ti.2:=by rw[ei]
 have ewi:rr=ri:=by rw[eri,ei]
 rw[ewi] at hRi hgi;rw[eoi] at hGi hli;clear hI ei ewi eoi hsat;obtain⟨td,etd⟩ :∃x,x=W4 Z8 (λout r=>kI (out.map (·.1)) r) (G2 ri) ri []:=⟨_,rfl⟩
 refine z6.mkS (RS×List O7×Hp×Dw.Os) (λ_=>[(2,.bx 3 0),(6,.v (pQ rb))]) (λg=>[.hp (Hp.whole w),.hp g.2.2.1,.box rb [pQ b,zl,iQ 0] 155,.box b2 [sv A.2,op.v,oi.v,g.2.2.2.v,zl,zl] 30,.hp k,.hp HHp,.hp op.h,.hp oi.h,.hp g.2.2.2.h]) (λg=>G0 k g.2.2.1 b g.1/\LQ Z8 (λout r=>kI (out.map (·.1)) r) 64 td g.1 g.2.1/\w5 P2 48 4 g.2.2.2 g.2.1) (λg=>G2 g.1) (ri,[],hi,Dw.Os.nil) ⟨hRi,by rw[etd];exact LQ.zero hgi,w5.nil _ _ _⟩ (y6.mk (λ_ _ h=>h.emp) rfl rfl) ?_;rintro⟨rr,out,hd,od⟩ ⟨hRd,hI,hGd⟩ hsat;dsimp only at hRd hI hGd ⊢;refine m9 λq' hq'=>?_;refine lR 2 0 ?_;refine k7 _ (λw' hm=>R1 (s:=Z8) w' (hm 1 _ rfl) (hm 4 _ rfl).whole hRd) ?_;apply hq';refine v7 (λg1=>?_) λg1=>?_
 ·have hlo:out.length<=64:=hI.k (P5 g1).1;obtain⟨hI2,hlt⟩:=hI.next (by have:=KS (out.map (·.1)) rr;rw[j6] at this;exact this) g1;obtain⟨B,hB⟩ :∃x,x=kI (out.map (·.1)) rr:=⟨_,rfl⟩
  try dsimp only at hI2 hlt
  rw[<-hB] at hI2 hlt;refine u6.cut (Hp×Dw.Os) (λ_=>[(2,.bx 3 0),(6,.v (pQ rb))]) (λg=>[.hp (Hp.whole w),.hp g.1,.box rb [pQ b,zl,iQ 0] 155,.box b2 [sv A.2,op.v,oi.v,g.2.v,zl,zl] 30,.hp k,.hp HHp,.hp op.h,.hp oi.h,.hp g.2.h]) (λg=>G0 k g.1 b B.1/\w5 P2 48 4 g.2 (out++[B.2])) (u6.by_order0 (s0:=[.hp (Hp.whole w),.hp Hp.emp,.box rb [pQ b,zl,iQ 0] 155,.box b2 [sv A.2,op.v,oi.v,od.v,zl,zl] 30,.hp k,.hp HHp,.hp op.h,.hp oi.h,.hp Hp.emp]) cQ (.take 0 <| .take 1 <| .take 2 <| .take 3 <| .take 4 <| .run 5 <| .run 6 <| .run 7 <| .run 8 <| .run 9 <| .done) kr (sK) ?_) ?_
  ·refine k6 (i:=1) rfl (λw0 w' hok=>vP (L:=out) w' (hok.mem 1 _ rfl) (DR.mk (hok.leI (i:=1) (j:=4) dc rfl rfl) hRd (hok.bx1 (j:=2) (n:=0) rfl rfl dc rfl)) ((w5.sl (f:=P2) (λ_=>rfl) dc hGd).mono (j7 _) (hok.leI (i:=1) (j:=8) dc rfl rfl)) om) ?_;rintro _ h9 _ ⟨rfl,rfl,hR9⟩;rw[<-hB] at hR9 ⊢;refine⟨sK,?_⟩;intro b9;refine⟨sK,?_⟩;refine gZ (f:=P2) cQ (e:=48) rfl (i:=8) rfl hGd B.2 (j:=9) rfl rfl rfl rfl om λo2 hG2=>?_;refine⟨sK,?_⟩;exact⟨(h9,o2),⟨hR9,hG2⟩,y6.mk (pj [0,1,2,3,4,5,6,7,8]) rfl rfl⟩
  rintro⟨h9,o9⟩ ⟨hR9,hG9⟩ _;dsimp only at hR9 hG9 ⊢;exact⟨(B.1,out++[B.2],h9,o9),⟨hR9,hI2,hG9⟩,hlt,y6.mk (λ_ _ h=>h) rfl rfl⟩
 have ed:=hI.done g1;have hld:out.length<=65:=hI.l;have hgd:X4 rr:=hI.g;obtain⟨rd,erd⟩ :∃x,x=td.1:=⟨_,rfl⟩
 have eod:out=td.2:=by rw[ed]
 have ewd:rr=rd:=by rw[erd,ed]
 rw[ewd] at hRd hgd;rw[eod] at hGd hld;clear hI ed ewd eod hsat;refine nQ [.hp (Hp.whole w),.hp hd,.box rb [pQ b,zl,iQ 0] 155,.box b2 [sv A.2,op.v,oi.v,od.v,zl,zl] 30,.hp k,.hp HHp,.hp op.h,.hp oi.h,.hp od.h] λq' hq'=>?_;refine iW cQ (i:=2) (j:=1) rfl rfl rfl (by show 1 < 3;decide) rfl rfl ?_;apply hq';obtain⟨tc,etc⟩ :∃x,x=W4 Y8 (λout r=>iC (out.map (·.1)) (td.2.map (·.1)) r) (G2 rd) rd []:=⟨_,rfl⟩
 refine z6.mkS (RS×List kT×Hp×Hp×Dw.Os) (λ_=>[(2,.bx 3 0),(6,.v (pQ rb))]) (λg=>[.hp (Hp.whole w),.hp g.2.2.1,.box rb (H8 b 0 od.a od.n od.c) 155,.box b2 [sv A.2,op.v,oi.v,od.v,g.2.2.2.2.v,zl] 30,.hp k,.hp HHp,.hp op.h,.hp oi.h,.hp od.h,.hp g.2.2.2.1,.hp g.2.2.2.2.h]) (λg=>G0 k g.2.2.1 b g.1/\LQ Y8 (λout r=>iC (out.map (·.1)) (td.2.map (·.1)) r) 64 tc g.1 g.2.1/\aR qF 96 3 g.2.2.2.1 g.2.2.2.2 g.2.1) (λg=>G2 g.1) (rd,[],hd,Hp.emp,Dw.Os.nil) ⟨hRd,by rw[etc];exact LQ.zero hgd,aR.nil⟩ (y6.mk (λ_ _ h=>h.emp.emp) rfl rfl) ?_;rintro⟨rr,out,hc,HHc,oc⟩ ⟨hRc,hI,hGc⟩ hsat;dsimp only at hRc hI hGc ⊢;refine m9 λq' hq'=>?_;refine lR 2 0 ?_;refine k7 _ (λw' hm=>R1 (s:=Y8) w' (hm 1 _ rfl) (hm 4 _ rfl).whole hRc) ?_;apply hq';refine v7 (λg1=>?_) λg1=>?_
 ·have hlo:out.length<=64:=hI.k (P5 g1).1;obtain⟨hI2,hlt⟩:=hI.next (by have:=LA (out.map (·.1)) (td.2.map (·.1)) rr;rw[j6] at this;exact this) g1;obtain⟨B,hB⟩ :∃x,x=iC (out.map (·.1)) (td.2.map (·.1)) rr:=⟨_,rfl⟩
  try dsimp only at hI2 hlt
  rw[<-hB] at hI2 hlt;refine u6.cut (Hp×Hp×Dw.Os) (λ_=>[(2,.bx 3 0),(6,.v (pQ rb))]) (λg=>[.hp (Hp.whole w),.hp g.1,.box rb (H8 b 0 od.a od.n od.c) 155,.box b2 [sv A.2,op.v,oi.v,od.v,g.2.2.v,zl] 30,.hp k,.hp HHp,.hp op.h,.hp oi.h,.hp od.h,.hp g.2.1,.hp g.2.2.h]) (λg=>G0 k g.1 b B.1/\aR qF 96 3 g.2.1 g.2.2 (out++[B.2])) (u6.by_order0 (s0:=[.hp (Hp.whole w),.hp Hp.emp,.box rb (H8 b 0 od.a od.n od.c) 155,.box b2 [sv A.2,op.v,oi.v,od.v,oc.v,zl] 30,.hp k,.hp HHp,.hp op.h,.hp oi.h,.hp od.h,.hp HHc,.hp Hp.emp]) cQ (.take 0 <| .take 1 <| .take 2 <| .take 3 <| .take 4 <| .run 5 <| .run 6 <| .run 7 <| .run 8 <| .run 9 <| .done) kr (sK) ?_) ?_
  ·refine k6 (i:=1) rfl (λw0 w' hok=>uP (L:=out) (DD:=td.2) w' (hok.mem 1 _ rfl) (DR.mk (hok.leI (i:=1) (j:=4) dc rfl rfl) hRc (hok.bx1 (j:=2) (n:=0) rfl rfl dc rfl)) (hGc.sl V5 dc (hok.leI (i:=1) (j:=9) dc rfl rfl) (hok.leI (i:=1) (j:=10) dc rfl rfl)) om (hok.bx1 (j:=2) (n:=1) rfl rfl dc rfl) ((w5.sl (f:=P2) (λ_=>rfl) dc hGd).mono (j7 _) (hok.leI (i:=1) (j:=8) dc rfl rfl)) om) ?_;rintro _ h9 _ ⟨o9,rfl,rfl,hC9,hR9⟩;rw[<-hB] at hC9 hR9 ⊢;refine⟨sK,?_⟩;intro b9;refine⟨sK,?_⟩;refine qM (R:=qF) (o:=oc) (L:=out) (H:=HHc.join o9.h) cQ (e:=96) rfl (i:=10) rfl (λ_=>hGc.mono V5 (Hp.le_join_l _ _)) B.2 [sv B.2.1,sv B.2.2.1,o9.v] (j:=12) rfl rfl rfl rfl om (λhs=>?_) λo2 _ hG2=>?_
   ·obtain⟨w0,w',hok⟩:=hs;exact⟨o9.a,o9.n,o9.c,rfl,(w5.sl (f:=bO) (sz:=2) (λ_=>rfl) dc hC9).mono (j7 _) (Hp.le_join_r (hok.disj 9 11 _ _ dc rfl rfl))⟩
   refine⟨sK,?_⟩;exact⟨(h9,HHc.join o9.h,o2),⟨hR9,hG2⟩,y6.mk (λ_ _ h=>(Ok.join (h.pick [0,9,11,1,2,3,4,5,6,7,8,10] rfl rfl)).pick [0,2,3,4,5,6,7,8,9,1,10] rfl rfl) rfl rfl⟩
  rintro⟨h9,H9,o9⟩ ⟨hR9,hG9⟩ _;dsimp only at hR9 hG9 ⊢;exact⟨(B.1,out++[B.2],h9,H9,o9),⟨hR9,hI2,hG9⟩,hlt,y6.mk (λ_ _ h=>h) rfl rfl⟩
 have ec:=hI.done g1;have hlc:out.length<=65:=hI.l;have hgc:X4 rr:=hI.g;obtain⟨rc,erc⟩ :∃x,x=tc.1:=⟨_,rfl⟩
 have eoc:out=tc.2:=by rw[ec]
 have ewc:rr=rc:=by rw[erc,ec]
 rw[ewc] at hRc hgc;rw[eoc] at hGc hlc;clear hI ec ewc eoc hsat;obtain⟨tq,etq⟩ :∃x,x=W4 W7 (λout r=>eQ (out.map (·.1)) (td.2.map (·.1)) r) (G2 rc) rc []:=⟨_,rfl⟩
 refine z6.mkS (RS×List kP×Hp×Hp×Dw.Os×Nat) (λ_=>[(2,.bx 3 0),(6,.v (pQ rb))]) (λg=>[.hp (Hp.whole w),.hp g.2.2.1,.box rb (H8 b (g.2.2.2.2.2) od.a od.n od.c) 155,.box b2 [sv A.2,op.v,oi.v,od.v,oc.v,g.2.2.2.2.1.v] 30,.hp k,.hp HHp,.hp op.h,.hp oi.h,.hp od.h,.hp HHc,.hp oc.h,.hp g.2.2.2.1,.hp g.2.2.2.2.1.h]) (λg=>G0 k g.2.2.1 b g.1/\LQ W7 (λout r=>eQ (out.map (·.1)) (td.2.map (·.1)) r) 64 tq g.1 g.2.1/\aR (mK 9) 74 8 g.2.2.2.1 g.2.2.2.2.1 g.2.1) (λg=>G2 g.1) (rc,[],hc,Hp.emp,Dw.Os.nil,0) ⟨hRc,by rw[etq];exact LQ.zero hgc,aR.nil⟩ (y6.mk (λ_ _ h=>h.emp.emp) rfl rfl) ?_;rintro⟨rr,out,hq,HHq,oq,kq⟩ ⟨hRq,hI,hGq⟩ hsat;dsimp only at hRq hI hGq ⊢;have hsat0:=hsat;refine m9 λq' hq'=>?_;refine lR 2 0 ?_;refine k7 _ (λw' hm=>R1 (s:=W7) w' (hm 1 _ rfl) (hm 4 _ rfl).whole hRq) ?_;apply hq';refine v7 (λg1=>?_) λg1=>?_
 ·have hlo:out.length<=64:=hI.k (P5 g1).1;obtain⟨hI2,hlt⟩:=hI.next (by have:=IR (out.map (·.1)) (td.2.map (·.1)) rr;rw[j6] at this;exact this) g1;obtain⟨B,hB⟩ :∃x,x=eQ (out.map (·.1)) (td.2.map (·.1)) rr:=⟨_,rfl⟩
  try dsimp only at hI2 hlt
  rw[<-hB] at hI2 hlt;refine u6.cut (Hp×Hp×Dw.Os×Nat) (λ_=>[(2,.bx 3 0),(6,.v (pQ rb))]) (λg=>[.hp (Hp.whole w),.hp g.1,.box rb (H8 b (g.2.2.2) od.a od.n od.c) 155,.box b2 [sv A.2,op.v,oi.v,od.v,oc.v,g.2.2.1.v] 30,.hp k,.hp HHp,.hp op.h,.hp oi.h,.hp od.h,.hp HHc,.hp oc.h,.hp g.2.1,.hp g.2.2.1.h]) (λg=>G0 k g.1 b B.1/\aR (mK 9) 74 8 g.2.1 g.2.2.1 (out++[B.2])) (u6.by_order0 (s0:=[.hp (Hp.whole w),.hp Hp.emp,.hp Hp.emp,.box b2 [sv A.2,op.v,oi.v,od.v,oc.v,oq.v] 30,.hp k,.hp HHp,.hp op.h,.hp oi.h,.hp od.h,.hp HHc,.hp oc.h,.hp HHq,.hp Hp.emp]) cQ (.take 0 <| .take 1 <| .take 2 <| .take 3 <| .take 4 <| .run 5 <| .run 6 <| .run 7 <| .run 8 <| .run 9 <| .done) kr (sK) ?_) ?_
  ·refine pS (i:=2) (j:=1) dc rfl rfl (λw0 w' hok=>by exact rE (k:=k) (L:=out) (DD:=td.2) w' (hok.inJ (i:=2) (j:=1) (c:=.box rb (H8 b kq od.a od.n od.c) 155) (d:=.hp hq) rfl rfl) (hok.disj 2 1 _ _ dc rfl rfl) (hok.le2 (i:=2) (j:=1) (m:=4) (x:=.hp k) dc dc rfl rfl rfl) hRq hI.g (by exact hGq.sl (O2 9) dc (hok.le2 (i:=2) (j:=1) (m:=11) (x:=.hp HHq) dc dc rfl rfl rfl) (hok.le2 (i:=2) (j:=1) (m:=12) (x:=.hp oq.h) dc dc rfl rfl rfl)) om (by exact (w5.sl (f:=P2) (λ_=>rfl) dc hGd).mono (j7 _) (hok.le2 (i:=2) (j:=1) (m:=8) (x:=.hp od.h) dc dc rfl rfl rfl)) om) ?_;rintro _ _ h9 H9 ⟨⟨xs,rfl,hx8,hE9⟩,⟨kz,rfl⟩,hR9⟩;rw[<-hB] at hE9 hR9;have hE2:=hE9;obtain⟨y5,rfl,hY⟩:=hE2;obtain⟨Y,eY⟩ :∃Y,Y=B.2.2.1:=⟨_,rfl⟩
   rw[<-eY] at hY;obtain⟨op9,f9,fac9,args9⟩:=Y;obtain⟨a9,n9,c9,a8,n8,c8,rfl,_,_⟩:=hY;refine⟨sK,?_⟩;intro b9;refine⟨sK,?_⟩;refine qM (R:=(mK 9)) (o:=oq) (L:=out) (H:=HHq.join H9) cQ (e:=74) rfl (i:=12) rfl (λ_=>hGq.mono (O2 9) (Hp.le_join_l _ _)) B.2 [sv B.2.1,iQ op9,sv f9.1,.slice a9 n9 c9,sv fac9,.slice a8 n8 c8,sv B.2.2.2.1,sv B.2.2.2.2] (j:=14) rfl rfl rfl rfl om (λhs=>?_) λo2 _ hG2=>?_
   ·obtain⟨w0,w',hok⟩:=hs;exact O2 9 _ _ _ _ (Hp.le_join_r (hok.disj 11 13 _ _ dc rfl rfl)) hE9
   refine⟨sK,?_⟩;exact⟨(h9,HHq.join H9,o2,kz),⟨hR9,hG2⟩,y6.mk (λ_ _ h=>(Ok.join (h.pick [0,11,13,1,2,3,4,5,6,7,8,9,10,12] rfl rfl)).pick [0,2,3,4,5,6,7,8,9,10,11,1,12] rfl rfl) rfl rfl⟩
  rintro⟨h9,H9,o9,kz⟩ ⟨hR9,hG9⟩ _;dsimp only at hR9 hG9 ⊢;exact⟨(B.1,out++[B.2],h9,H9,o9,kz),⟨hR9,hI2,hG9⟩,hlt,y6.mk (λ_ _ h=>h) rfl rfl⟩
 have eq:=hI.done g1;have hlq:out.length<=65:=hI.l;have hgq:X4 rr:=hI.g;obtain⟨rq,erq⟩ :∃x,x=tq.1:=⟨_,rfl⟩
 have eoq:out=tq.2:=by rw[eq]
 have ewq:rr=rq:=by rw[erq,eq]
 rw[ewq] at hRq hgq;rw[eoq] at hGq hlq;clear hI eq ewq eoq;refine nQ [.hp (Hp.whole w),.hp hq,.box rb (H8 b kq od.a od.n od.c) 155,.box b2 [sv A.2,op.v,oi.v,od.v,oc.v,oq.v] 30,.hp k,.hp HHp,.hp op.h,.hp oi.h,.hp od.h,.hp HHc,.hp oc.h,.hp HHq,.hp oq.h] λq' hq'=>?_;refine lR 2 0 ?_;refine k6 (i:=1) rfl (λw0 w' hok=>LS w' (hok.mem 1 _ rfl) (hok.leI (i:=1) (j:=4) dc rfl rfl) hRq) ?_;rintro _ hf _ ⟨rfl,hRf⟩;have hRf:G0 k hf b (GU rq):=hRf;have eS:rG s=(GU rq,⟨A.2,tp.2,ti.2,td.2,tc.2,tq.2⟩):=by
  unfold rG CJ;dsimp only;rw[<-hr,<-er1,<-hA,<-er3,<-etp,<-erp,<-eti,<-eri,<-etd,<-erd,<-etc,<-erc,<-etq,<-erq]
 apply hq';refine nQ [.hp (Hp.whole w),.hp hf,.box rb (H8 b kq od.a od.n od.c) 155,.box b2 [sv A.2,op.v,oi.v,od.v,oc.v,oq.v] 30,.hp k,.hp HHp,.hp op.h,.hp oi.h,.hp od.h,.hp HHc,.hp oc.h,.hp HHq,.hp oq.h] λq' hq'=>?_;refine lR 2 0 ?_;refine k7 _ (λw' hm=>CB w' (hm 1 _ rfl) hRf) ?_;apply hq';refine nQ [.hp (Hp.whole w),.hp hf,.box rb (H8 b kq od.a od.n od.c) 155,.box b2 [sv A.2,op.v,oi.v,od.v,oc.v,oq.v] 30,.hp k,.hp HHp,.hp op.h,.hp oi.h,.hp od.h,.hp HHc,.hp oc.h,.hp HHq,.hp oq.h] λq' hq'=>?_;apply hq';refine d9 (λf1=>?_) λf1=>?_
 ·have eP:jA s=(WN,((GU rq).ln:Int),((GU rq).co:Int),(GU rq).e):=by
   unfold jA;rw[eS,if_pos f1]
  rw[eP,if_neg f1,if_neg f1];exact⟨[.hp Hp.emp],⟨Hp.emp,_,rfl,rfl,rfl,Gv 9 _⟩,λw' h=>(h.pick [0] rfl rfl).emp⟩
 ·have f2:(GU rq).e=0:=B9.1 f1;have eP:jA s=(⟨A.2,tp.2,ti.2,td.2,tc.2,tq.2⟩,0,0,0):=by
   unfold jA;rw[eS,if_neg (λc=>c f2)]
  rw[eP];have hdl:RB [.hp HHp,.hp op.h,.hp oi.h,.hp od.h,.hp HHc,.hp oc.h,.hp HHq,.hp oq.h]:=by
   obtain⟨w0,w1,hok⟩:=hsat0;exact (hok.pick [0,5,6,7,8,9,10,11,12] rfl rfl).djL
  refine⟨[.hp (joinL [.hp HHp,.hp op.h,.hp oi.h,.hp od.h,.hp HHc,.hp oc.h,.hp HHq,.hp oq.h])],⟨_,_,rfl,rfl,rfl,⟨op.a,op.n,op.c,oi.a,oi.n,oi.c,od.a,od.n,od.c,oc.a,oc.n,oc.c,oq.a,oq.n,oq.c,rfl,hGp.sl J0 dc (H0 hdl (i:=0) rfl) (H0 hdl (i:=1) rfl),(w5.sl (f:=fF) (λ_=>rfl) dc hGi).mono (j7 _) (H0 hdl (i:=2) rfl),(w5.sl (f:=P2) (λ_=>rfl) dc hGd).mono (j7 _) (H0 hdl (i:=3) rfl),hGc.sl V5 dc (H0 hdl (i:=4) rfl) (H0 hdl (i:=5) rfl),hGq.sl (O2 9) dc (H0 hdl (i:=6) rfl) (H0 hdl (i:=7) rfl)⟩⟩,λw' h=>(h.pick [0,5,6,7,8,9,10,11,12] rfl rfl).joinL⟩
end Go.Proofs.YtpjhmeicbjkcdaaGreatDoor
namespace Go.Proofs.YtpjhmeicbjkcdaaGreatDoor
open Go
theorem qS.rel {B:d8->Prop} {r r':d8} (hr:UU r r') :∀{I:List R0},qS B I r->qS B I r'/\UU (U6 I++r) (U6 I++r')
 | [],_=>⟨trivial,hr⟩
 | .inl x::I,h=>by
  obtain⟨h1,h2⟩:=qS.rel hr (I:=I) h.2;refine⟨⟨cB.rel h.1 h2,h1⟩,.inl ?_⟩;show ((rM x++U6 I)++r').getD 0 0=((rM x++U6 I)++r).getD 0 0
  rw[f8,f8,gS h.1.y.b.1,gS h.1.y.b.1]
 | .inr b::I,h=>by
  obtain⟨h1,h2⟩:=qS.rel hr (I:=I) h.2;refine⟨⟨h.1,h1⟩,?_⟩;show UU ((b++U6 I)++r) ((b++U6 I)++r')
  rw[f8,f8];cases b with
  | nil=>exact h2
  | cons c b=>exact .inl rfl
structure Lk (I:List R0) (k:Nat) (I1:List R0) (x:R0) (y:d8):Prop where
 i :∃I2,I=I1++x::I2
 b:(U6 I).take k=U6 I1++y
 p :∃z,iB x=y++z/\z≠[]
theorem QR :∀(I:List R0) (k:Nat),k < (U6 I).length->∃I1 x y,Lk I k I1 x y
 | [],k,h=>absurd h (M1 _)
 | x::I,k,h=>by
  by_cases hk:k < (iB x).length
  ·refine⟨[],x,(iB x).take k,⟨I,rfl⟩,?_,(iB x).drop k,(F8 k _).symm,λc=>?_⟩
   ·show (iB x++U6 I).take k = []++_
    rw[qP om];rfl
   ·have:=congrArg H4 c;rw[j9,i6] at this;omega
  ·have hl:(U6 (x::I)).length=(iB x).length+(U6 I).length:=by rw[B0,d6]
   obtain⟨I1,x',y,⟨I2,e⟩,hb,hp⟩:=QR I (k - (iB x).length) om;refine⟨x::I1,x',y,⟨I2,by rw[e];rfl⟩,?_,hp⟩;rw[B0,B0,List.take_append,o6 om,hb,f8]
def wD (y:d8) (L:List KT):Prop:=∀t∈L,t.1≠5/\(t.1≠3->(∀c∈t.2,c∈y)/\t.2.length<=y.length)
theorem VG (u:d8) (h:(A9 u).2.2.2=0):(A9 u).2.1≠5/\((A9 u).2.1≠3->(∀c∈(A9 u).2.2.1,c∈u)/\(A9 u).2.2.1.length<=u.length):=by
 have key :∀n:Nat,(∀c∈u.take n,c∈u)/\(u.take n).length<=u.length:=λn=>⟨λc hc=>A7 hc,by rw[j1];omega⟩
 rw[oZ] at h ⊢;by_cases h1:u.getD 0 0=34
 ·rw[if_pos h1];exact⟨(by decide:(3:Int)≠5),λc=>absurd rfl c⟩
 ·rw[if_neg h1] at h ⊢;by_cases h2:J4 (u.getD 0 0)=true
  ·rw[if_pos h2] at h ⊢;by_cases h3:40 < s9 G5 u
   ·rw[if_pos h3] at h;exact absurd h (show ¬ (5:Int)=0 by decide)
   ·rw[if_neg h3];exact⟨(by decide:(1:Int)≠5),λ_=>key _⟩
  ·rw[if_neg h2] at h ⊢;by_cases h4:k9 (u.getD 0 0)=true
   ·rw[if_pos h4] at h ⊢;by_cases h5:400 < (N0 u).1
    ·rw[if_pos h5] at h;exact absurd h (show ¬ (5:Int)=0 by decide)
    ·rw[if_neg h5] at h ⊢;by_cases h6:V8 (u.take (N0 u).1) (N0 u).2=true
     ·rw[if_pos h6];exact⟨(by decide:(2:Int)≠5),λ_=>key _⟩
     ·rw[if_neg h6] at h;exact absurd h (show ¬ (3:Int)=0 by decide)
   ·rw[if_neg h4] at h ⊢;by_cases h7:W3 u=0
    ·rw[if_pos h7] at h;exact absurd h (show ¬ (14:Int)=0 by decide)
    ·rw[if_neg h7];exact⟨(by decide:(4:Int)≠5),λ_=>key _⟩
theorem tK (s:d8) :∀(n k:Nat) (p:Nat×Nat) (out:List mR),s.length - k<=n->(xM s k p out).2.2.2=0->∃T L,(xM s k p out).1=out++T/\T.map XC=L++[(5,[])]/\wD (s.drop k) L
 | 0,k,p,out,hn,_=>by
  rw[PA om];exact⟨[(5,[],p.1,p.2)],[],rfl,rfl,λt ht=>by cases ht⟩
 | n+1,k,p,out,hn,he=>by
  by_cases hk:s.length<=k
  ·rw[PA hk];exact⟨[(5,[],p.1,p.2)],[],rfl,rfl,λt ht=>by cases ht⟩
  ·have hk:k < s.length:=om
   have up :∀{j:Nat} {L:List KT},k<=j->wD (s.drop j) L->wD (s.drop k) L:=by
    intro j L hj hm t ht;obtain⟨h1,h2⟩:=hm t ht;refine⟨h1,λh3=>?_⟩;obtain⟨h4,h5⟩:=h2 h3;have e:s.drop j=(s.drop k).drop (j - k):=by rw[J7,show k+(j - k)=j by omega]
    refine⟨λc hc=>?_,?_⟩
    ·have:=h4 c hc;rw[e] at this;exact A8 this
    ·rw[j9] at h5 ⊢;omega
   by_cases hb:s.getD k 0=32\/s.getD k 0=10
   ·rw[pD hk hb] at he ⊢;obtain⟨T,L,h1,h2,h3⟩:=tK s n (k+1) _ out om he;exact⟨T,L,h1,h2,up om h3⟩
   ·by_cases h35:s.getD k 0=35
    ·rw[Pu hk h35] at he ⊢;have hr:0 < s9 (λc=>!decide (c=10)) (s.drop k):=by
      rw[tM,cM,E7,j9,h35];exact⟨om,rfl⟩
     obtain⟨T,L,h1,h2,h3⟩:=tK s n _ _ out om he;exact⟨T,L,h1,h2,up om h3⟩
    ·have hB:IF (s.getD k 0):=⟨λc=>hb (.inl c),λc=>hb (.inr c),h35⟩
     rw[FO hk hB] at he ⊢;by_cases h0:(A9 (s.drop k)).2.2.2=0
     ·rw[if_neg (λc=>c h0)] at he ⊢;obtain⟨f1,f2⟩:=ZY hk hB h0;obtain⟨T,L,h1,h2,h3⟩:=tK s n _ _ _ om he;refine⟨((A9 (s.drop k)).2.1,(A9 (s.drop k)).2.2.1,p.1,p.2)::T,((A9 (s.drop k)).2.1,(A9 (s.drop k)).2.2.1)::L,?_,?_,?_⟩
      ·rw[h1,f8];rfl
      ·rw[M2,h2];rfl
      ·intro t ht;rcases p9.1 ht with rfl | ht
       ·exact VG _ h0
       ·exact up om h3 t ht
     ·rw[if_pos h0] at he;exact absurd he h0
theorem OY {s y z:d8} (h:xN s) (hl:s.length<=4096) (e:Q8 s=y++z) (hy:y≠[]) (hz:z≠[]):(A9 y).2.2.2≠0:=by
 intro h0;cases y with
 | nil=>exact hy rfl
 | cons c y=>
  have hc:c=34:=(E8 e).1.symm;have e2:F6 s++[34]=y++z:=(E8 e).2;subst hc;rw[oY (show ((34::y:d8)).getD 0 0=34 from rfl)] at h0;have h0:(J3 y 1 []).2.2=0:=h0;obtain⟨b,r,e3,e4,e5,e6⟩:=PF y 1 [] h0;have q1:=yG s 1 [] [] h;have q2:=yG b 1 [] (r++z) e5;have e7:F6 s++34::[]=F6 b++34::(r++z):=by rw[e2,e3,f8];rfl
  rw[i6] at e6;rw[e7,q2,if_neg (by rw[i6];omega),if_neg (by rw[i6];omega)] at q1;have:=congrArg Prod.fst q1;have hlen:=congrArg H4 e7;rw[d6,d6,d7,d7,d6,i6] at hlen;have hz0:=D1.2 hz;have this:1+(F6 b).length+1=1+(F6 s).length+1:=this;omega
theorem VK {s:d8} {L:List KT} (h:(dG s).2.2.2=0) (hT:(dG s).1.map XC=L++[(5,[])]):P7 (uA s) L:=⟨h,hT⟩
theorem Dn {I:List R0} {k:Nat} {I1:List R0} {x:R0} {y:d8} (hc:Lk I k I1 x y) {r:d8} (h:Z1 I r) (hl:(U6 I).length<=65536) (he:(dG ((U6 I).take k)).2.2.2=0) :
  ∃L,P7 (uA ((U6 I).take k)) (N6 I1++L)/\wD y L/\∀s,x=.inl (3,s)->xN s->s.length<=4096->y = []:=by
 obtain⟨⟨I2,e⟩,hb,z,hz,hz0⟩:=hc;subst e;have h1:=Z1.left h;have hrel:UU (U6 (x::I2)++r) y:=by
  cases y with
  | nil=>exact .inr (.inr rfl)
  | cons c y=>
   left
   show c=_
   rw[B0,hz];rfl
 have h2:=(qS.rel hrel h1).1;obtain⟨p',T,hT,e1⟩:=FQ I1 (s:=U6 I1++y) (k:=0) (h2.mono λb=>Fo.blk) rfl (1,1) [];have hle:(U6 I1++y).length<=65536:=by
  rw[<-hb,j1];omega
 have he0:=he;rw[hb,IN hle,e1,w7] at he;obtain⟨T2,L,f1,f2,f3⟩:=tK (U6 I1++y) _ (U6 I1).length p' ([]++T) (j8 _) he;rw[X7 rfl] at f3;refine⟨L,VK he0 ?_,f3,λs hs hr hl4=>?_⟩
 ·rw[hb,IN hle,e1,w7,f1,I4,E1,hT,f2,f8]
 ·refine j3 λhy=>?_;subst hs;have hz:Q8 s=y++z:=by rw[<-hz];exact (show (if (3:Int)=3 then Q8 s else s)=Q8 s from if_pos rfl).symm
  have hd:(U6 I1++y).drop (U6 I1).length=y:=X7 rfl;cases y with
  | nil=>exact hy rfl
  | cons c y=>
   have hc:c=34:=(E8 hz).1.symm;subst hc;obtain⟨hk,h34⟩:=gO hd;rw[FO hk (by rw[h34];exact⟨dc,dc,dc⟩),hd,if_pos (OY hr hl4 hz sQ hz0)] at he;exact OY hr hl4 hz sQ hz0 he
end Go.Proofs.YtpjhmeicbjkcdaaGreatDoor
namespace Go.Proofs.YtpjhmeicbjkcdaaGreatDoor
open Go
def Mw (w:d8) (x:KT):Prop:=(x.1=1\/x.1=4)/\x.2=w
def HL (w:d8) (L:List KT):Prop:=∀x∈L,¬ Mw w x
def UL (w:d8) (r:RS):Prop:=∀t∈r.ts,¬ Mw w (XC t)
theorem P7.noW {r:RS} {L:List KT} {w:d8} (h:P7 r L) (hL:HL w L):UL w r:=by
 intro t ht hb;have:XC t∈r.ts.map XC:=y7.2 ⟨t,ht,rfl⟩;rw[h.2] at this;rcases y8.1 this with h1 | h1
 ·exact hL _ h1 hb
 ·rw[v6.1 h1] at hb;rcases hb.1 with c | c <;> exact absurd c (show ¬ (5:Int)=_ by decide)
theorem UL.aft {w:d8} {r r':RS} (h:UL w r) (a:o7 r r'):UL w r':=λt ht=>h t (a.sb t ht)
theorem pO {w:d8} {r:RS} (h:UL w r):(s8 r w).e≠0:=by
 have hi:S7 r w=false:=by
  cases hh:S7 r w with
  | false=>rfl
  | true=>
   obtain⟨h0,h1,h2⟩:=P5 hh;unfold z8 at h1 h2;rw[if_neg (λc=>c h0)] at h1 h2;cases hts:r.ts with
   | nil=>rw[hts] at h1;rcases h1 with c | c <;> exact absurd c (show ¬ (0:Int)=_ by decide)
   | cons t l=>
    rw[hts] at h1 h2;exact absurd (show Mw w (XC t) from ⟨h1,h2⟩) (h t (by rw[hts];simp))
 unfold s8;rw[if_neg (by rw[hi];decide)];exact aK r dc
theorem Bn {names:List d8} {r:RS} (h:UL [125] r):(dM names r).1.e≠0:=by
 unfold dM;dsimp only;refine pO (h.aft ?_);exact ((((((o7.lim r _ _).trans (o7.exp _ _)).trans (o7.nam _ _)).trans (o7.exp _ _)).trans (o7.int _ _ _)).trans (o7.exp _ _)).trans (o7.cels _ _ _)
theorem Cq {parts names:List d8} {r:RS} (h:UL [59] r):(kA parts names r).1.e≠0:=by
 unfold kA;dsimp only;refine pO (h.aft ?_);exact ((((((((o7.lim r _ _).trans (o7.exp _ _)).trans (o7.nam _ _)).trans (o7.exp _ _)).trans (o7.nam _ _)).trans (o7.exp _ _)).trans (o7.lst (λr=>o7.int r _ _) 4 _)).trans (o7.exp _ _)).trans (o7.lst o7.numb 3 _)
theorem Di {names:List d8} {r:RS} (h:UL [59] r):(kI names r).1.e≠0:=by
 unfold kI rL;dsimp only;have a:=(((((((((o7.lim r names.length 64).trans (o7.exp _ Z8)).trans (o7.nam _ (Z6 names))).trans (o7.exp _ [61])).trans (o7.int _ (-1073741824) 1073741824)).trans (o7.exp _ [91])).trans (o7.int _ (-1073741824) 1073741824)).trans (o7.exp _ [44])).trans (o7.int _ (-1073741824) 1073741824)).trans (o7.exp _ [93]);exact pO (h.aft ((a.trans (o7.fail _ 8)).ite a))
theorem Dq {names dims:List d8} {r:RS} (h:UL [59] r):(iC names dims r).1.e≠0:=by
 unfold iC;dsimp only;have a:=(((((o7.lim r names.length 64).trans (o7.exp _ Y8)).trans (o7.nam _ (Z6 names))).trans (o7.exp _ [58])).trans (o7.for dims _)).trans (o7.exp _ [60,61]);exact pO (h.aft (((a.trans (o7.fail _ 14)).ite a).trans (o7.next _)))
theorem Au {names dims:List d8} {r:RS} (h:UL [59] r):(eQ names dims r).1.e≠0:=by
 unfold eQ;dsimp only;have a:=((((((o7.lim r names.length 64).trans (o7.exp _ W7)).trans (o7.nam _ (Z6 names))).trans (o7.exp _ [58])).trans (o7.expr dims 8 _ 0)).trans (o7.opt _ iG)).trans (o7.opt _ HW);exact pO (h.aft ((a.trans (o7.fail _ 8)).ite a))
def Bd (w c:d8) (L:List KT):Prop:=vZ w L\/HL c L
theorem BT {α:Type} {w w' c:d8} {I:α->List R0} (hI :∀x,∃T,N6 (I x)=(1,w')::T) (hw:w'≠w) {l:List α} {R:List KT} (hR:Bd w c R):Bd w c (N6 (l.flatMap I)++R):=by
 cases l with
 | nil=>exact hR
 | cons x l=>
  obtain⟨T,hT⟩:=hI x;rw[u7,G1,hT];left
  intro y hy;have e:y=(1,w'):=(M0 hy).symm;subst e;exact λc=>hw c.2
theorem PY {α:Type} {w c:d8} {tk:List α->RS->RS×α} {I:α->List R0} {xs:List α} (hI :∀x,∃T,N6 (I x)=(1,w)::T) (ha :∀o r,o7 r (tk o r).1) (hbad :∀o r,UL c r->(tk o r).1.e≠0) (h :∀i (h:i < xs.length),P3 (tk (xs.take i)) (N6 (I xs[i])) xs[i]) :
  ∀(fu k:Nat) (r:RS) (L:List KT),k+fu>=xs.length->(N6 ((xs.drop k).flatMap I)++L).length < fu->k<=xs.length->Bd w c L->P7 r (N6 ((xs.drop k).flatMap I)++L)->(W4 w tk fu r (xs.take k)).1.e≠0\/(P7 (W4 w tk fu r (xs.take k)).1 L/\(W4 w tk fu r (xs.take k)).2=xs)
 | 0,k,r,L,_,hf,_,_,_=>absurd hf (M1 _)
 | fu+1,k,r,L,hk,hf,hkl,hn,hr=>by
  unfold W4;by_cases hlt:k < xs.length
  ·rw[q6 hlt,u7,G1,f8] at hr hf;have hw:S7 r w=true:=by
    obtain⟨T,hT⟩:=hI xs[k];rw[hT] at hr;exact P7.isW hr
   have hl:0 < (N6 (I xs[k])).length:=by
    obtain⟨T,hT⟩:=hI xs[k];rw[hT];exact E3 _
   rw[d6] at hf;rw[if_pos hw];obtain⟨u1,u2⟩:=h k hlt r _ hr;rw[u2];have ht:xs.take k++[xs[k]]=xs.take (k+1):=by rw[yU,i7 hlt];rfl
   rw[ht];exact PY hI ha hbad h fu (k+1) _ L om om om hn u1
  ·have:k=xs.length:=om
   subst this;rw[oW] at hr;have hr:P7 r L:=hr;rw[q8];cases hi:S7 r w with
   | false=>rw[if_neg dc];exact .inr ⟨hr,rfl⟩
   | true=>
    rw[if_pos rfl];left
    rcases hn with hn | hn
    ·rw[hr.notB hn] at hi;cases hi
    ·exact (o7.its w ha fu _ _).bad (hbad _ r (hr.noW hn))
theorem nY {α:Type} {w c:d8} {tk:List α->RS->RS×α} {I:α->List R0} {xs:List α} (hI :∀x,∃T,N6 (I x)=(1,w)::T) (ha :∀o r,o7 r (tk o r).1) (hbad :∀o r,UL c r->(tk o r).1.e≠0) (h :∀i (h:i < xs.length),P3 (tk (xs.take i)) (N6 (I xs[i])) xs[i]) {r:RS} {L:List KT} (hn:Bd w c L) (hr:P7 r (N6 (xs.flatMap I)++L)) :
  (W4 w tk (G2 r) r []).1.e≠0\/(P7 (W4 w tk (G2 r) r []).1 L/\(W4 w tk (G2 r) r []).2=xs):=by
 have hl:xs.length<=(N6 (xs.flatMap I)++L).length:=by
  rw[d6];have:=pJ (g:=I) (λv=>by obtain⟨T,hT⟩:=hI v;rw[hT];exact E3 _) xs;omega
 have hrem:=hr.rem;exact PY hI ha hbad h (G2 r) 0 r L om (by rw[hrem];exact Iq _) (j0 _) hn hr
structure Oq (R:List KT):Prop where
 p:Bd S9 [125] R
 i:Bd dE [59] R
 d:Bd Z8 [59] R
 c:Bd Y8 [59] R
 q:Bd W7 [59] R
structure Lf (p q:kR):Prop where
 g:vY p
 nm:q.nm=p.nm
 sp :∃k,q.parts=p.parts.take k
 si :∃k,q.insts=p.insts.take k/\(0 < q.insts.length->q.parts=p.parts)
 sd :∃k,q.dims=p.dims.take k
 sc :∃k,q.cons=p.cons.take k/\(0 < q.cons.length->q.dims=p.dims)
 sq :∃k,q.reqs=p.reqs.take k/\(0 < q.reqs.length->q.dims=p.dims)
theorem nC {α:Type} {l:List α} {k i:Nat} (h:i < (l.take k).length) :∃h':i < l.length,(l.take k)[i]=l[i]/\(l.take k).take i=l.take i:=by
 rw[j1] at h;refine⟨om,List.getElem_take,?_⟩;rw[Ny,T6 om]
theorem VN {p q:kR} (s:Lf p q) {R:List KT} (hR:Oq R) {r:RS} (h:P7 r ((1,fY)::([rJ q.nm]++((4,[59])::(N6 (q.parts.flatMap tN)++(N6 (q.insts.flatMap rO)++(N6 (q.dims.flatMap qI)++(N6 (q.cons.flatMap (oM p.dims))++(N6 (q.reqs.flatMap (mF p.dims))++R))))))))) :
  (CJ r).1.e≠0\/(CJ r).2=q:=by
 have g:=s.g;have gn:=g.nms;have hD:=TN p.dims;have hlen:((p.dims.map (·.1)).length:Int)=p.dims.length:=by rw[j6]
 obtain⟨a1,a2⟩:=P3.nam (by rw[s.nm];exact g.gn) (chk:=λ_=>0) rfl _ _ h.expW;have a3:=a1.expS;have hp :∀i (hi:i < q.parts.length),P3 ((λ(out:List V9) r=>dM (out.map (·.1)) r) (q.parts.take i)) (N6 (tN q.parts[i])) q.parts[i]:=λi hi=>by
  obtain⟨k,e⟩:=s.sp;have hi':=hi;rw[e] at hi';obtain⟨h1,h2,h3⟩:=nC hi';have e1:q.parts[i]=p.parts[i]:=by rw[<-h2];congr 1
  have e2:q.parts.take i=p.parts.take i:=by rw[e];exact h3
  rw[e1,e2];exact P3.par (g.gp.2 i h1).1 (fZ h1 g.gp.1) (g.gp.2 i h1).2
 have hi :∀i (hi:i < q.insts.length),P3 ((λ(out:List lW) r=>kA (q.parts.map (·.1)) (out.map (·.1)) r) (q.insts.take i)) (N6 (rO q.insts[i])) q.insts[i]:=λi hi=>by
  obtain⟨k,e,hq⟩:=s.si;have hi':=hi;rw[e] at hi';obtain⟨h1,h2,h3⟩:=nC hi';have e1:q.insts[i]=p.insts[i]:=by rw[<-h2];congr 1
  have e2:q.insts.take i=p.insts.take i:=by rw[e];exact h3
  rw[e1,e2,hq om];exact P3.ins g.pnm (g.gi.2 i h1).1 (fZ h1 g.gi.1) (g.gi.2 i h1).2
 have hd :∀i (hi:i < q.dims.length),P3 ((λ(out:List O7) r=>kI (out.map (·.1)) r) (q.dims.take i)) (N6 (qI q.dims[i])) q.dims[i]:=λi hi=>by
  obtain⟨k,e⟩:=s.sd;have hi':=hi;rw[e] at hi';obtain⟨h1,h2,h3⟩:=nC hi';have e1:q.dims[i]=p.dims[i]:=by rw[<-h2];congr 1
  have e2:q.dims.take i=p.dims.take i:=by rw[e];exact h3
  rw[e1,e2];exact P3.dim (g.gd.2 i h1).1 (fZ h1 g.gd.1) (g.gd.2 i h1).2
 have hc :∀i (hi:i < q.cons.length),P3 ((λ(out:List kT) r=>iC (out.map (·.1)) (q.dims.map (·.1)) r) (q.cons.take i)) (N6 (oM p.dims q.cons[i])) q.cons[i]:=λi hi=>by
  obtain⟨k,e,hq⟩:=s.sc;have hi':=hi;rw[e] at hi';obtain⟨h1,h2,h3⟩:=nC hi';have e1:q.cons[i]=p.cons[i]:=by rw[<-h2];congr 1
  have e2:q.cons.take i=p.cons.take i:=by rw[e];exact h3
  rw[e1,e2,hq om];exact P3.con gn (g.gc.2 i h1).1.1 (by rw[hlen];exact (g.gc.2 i h1).1.2) (fZ h1 g.gc.1) (g.gc.2 i h1).2 hD
 have hq :∀i (hi:i < q.reqs.length),P3 ((λ(out:List kP) r=>eQ (out.map (·.1)) (q.dims.map (·.1)) r) (q.reqs.take i)) (N6 (mF p.dims q.reqs[i])) q.reqs[i]:=λi hi=>by
  obtain⟨k,e,hq⟩:=s.sq;have hi':=hi;rw[e] at hi';obtain⟨h1,h2,h3⟩:=nC hi';have e1:q.reqs[i]=p.reqs[i]:=by rw[<-h2];congr 1
  have e2:q.reqs.take i=p.reqs.take i:=by rw[e];exact h3
  rw[e1,e2,hq om];exact P3.req gn (by rw[hlen];exact (g.gr.2 i h1).1) (fZ h1 g.gr.1) (g.gr.2 i h1).2 hD
 have bC :∀w,W7≠w->Bd w [59] R->Bd w [59] (N6 (q.reqs.flatMap (mF p.dims))++R):=λw h1 h=>BT (Hu p.dims) h1 h;have bD :∀w,W7≠w->Y8≠w->Bd w [59] R->Bd w [59] (N6 (q.cons.flatMap (oM p.dims))++(N6 (q.reqs.flatMap (mF p.dims))++R)):=λw h1 h2 h=>BT (Hw p.dims) h2 (bC w h1 h);have bI :∀w,W7≠w->Y8≠w->Z8≠w->Bd w [59] R->Bd w [59] (N6 (q.dims.flatMap qI)++(N6 (q.cons.flatMap (oM p.dims))++(N6 (q.reqs.flatMap (mF p.dims))++R))):=λw h1 h2 h3 h=>BT Hv h3 (bD w h1 h2 h);have bP:Bd S9 [125] (N6 (q.insts.flatMap rO)++(N6 (q.dims.flatMap qI)++(N6 (q.cons.flatMap (oM p.dims))++(N6 (q.reqs.flatMap (mF p.dims))++R)))):=BT Kl dc (BT Hv dc (BT (Hw p.dims) dc (BT (Hu p.dims) dc hR.p)));unfold CJ;dsimp only at a1 a2 a3 ⊢;rw[a2];obtain⟨r1,hr1⟩ :∃x,x=W4 S9 (λout r=>dM (out.map (·.1)) r) (G2 (s8 (L0 (s8 r fY) (λ_=>0)).1 [59])) (s8 (L0 (s8 r fY) (λ_=>0)).1 [59]) []:=⟨_,rfl⟩
 rw[<-hr1];obtain⟨r2,hr2⟩ :∃x,x=W4 dE (λout r=>kA (r1.2.map (·.1)) (out.map (·.1)) r) (G2 r1.1) r1.1 []:=⟨_,rfl⟩
 rw[<-hr2];obtain⟨r3,hr3⟩ :∃x,x=W4 Z8 (λout r=>kI (out.map (·.1)) r) (G2 r2.1) r2.1 []:=⟨_,rfl⟩
 rw[<-hr3];obtain⟨r4,hr4⟩ :∃x,x=W4 Y8 (λout r=>iC (out.map (·.1)) (r3.2.map (·.1)) r) (G2 r3.1) r3.1 []:=⟨_,rfl⟩
 rw[<-hr4];obtain⟨r5,hr5⟩ :∃x,x=W4 W7 (λout r=>eQ (out.map (·.1)) (r3.2.map (·.1)) r) (G2 r4.1) r4.1 []:=⟨_,rfl⟩
 rw[<-hr5];have f5:r5.1.e≠0->(GU r5.1).e≠0:=λc=>(o7.fin _).bad c;have f4:r4.1.e≠0->r5.1.e≠0:=λc=>by rw[hr5];exact (o7.its _ (λo r=>o7.req _ _ r) _ _ _).bad c
 have f3:r3.1.e≠0->r4.1.e≠0:=λc=>by rw[hr4];exact (o7.its _ (λo r=>o7.con _ _ r) _ _ _).bad c
 have f2:r2.1.e≠0->r3.1.e≠0:=λc=>by rw[hr3];exact (o7.its _ (λo r=>o7.dim _ r) _ _ _).bad c
 have f1:r1.1.e≠0->r2.1.e≠0:=λc=>by rw[hr2];exact (o7.its _ (λo r=>o7.ins _ _ r) _ _ _).bad c
 rcases nY (α:=V9) (w:=S9) (c:=[125]) (tk:=λout r=>dM (out.map (·.1)) r) (I:=tN) (xs:=q.parts) Mx (λo r=>o7.par _ r) (λo r=>Bn) (by intro i h;exact hp i h) bP a3 with c | ⟨p1,p2⟩
 ·rw[<-hr1] at c;exact .inl (f5 (f4 (f3 (f2 (f1 c)))))
 rw[<-hr1] at p1 p2;rcases nY (α:=lW) (w:=dE) (c:=[59]) (tk:=λout r=>kA (q.parts.map (·.1)) (out.map (·.1)) r) (I:=rO) (xs:=q.insts) Kl (λo r=>o7.ins _ _ r) (λo r=>Cq) (by intro i h;exact hi i h) (bI _ dc dc dc hR.i) p1 with c | ⟨i1,i2⟩
 ·rw[<-p2,<-hr2] at c;exact .inl (f5 (f4 (f3 (f2 c))))
 rw[<-p2,<-hr2] at i1 i2;rcases nY (α:=O7) (w:=Z8) (c:=[59]) (tk:=λout r=>kI (out.map (·.1)) r) (I:=qI) (xs:=q.dims) Hv (λo r=>o7.dim _ r) (λo r=>Di) (by intro i h;exact hd i h) (bD _ dc dc hR.d) i1 with c | ⟨d1,d2⟩
 ·rw[<-hr3] at c;exact .inl (f5 (f4 (f3 c)))
 rw[<-hr3] at d1 d2;rcases nY (α:=kT) (w:=Y8) (c:=[59]) (tk:=λout r=>iC (out.map (·.1)) (q.dims.map (·.1)) r) (I:=oM p.dims) (xs:=q.cons) (Hw p.dims) (λo r=>o7.con _ _ r) (λo r=>Dq) (by intro i h;exact hc i h) (bC _ dc hR.c) d1 with c | ⟨c1,c2⟩
 ·rw[<-d2,<-hr4] at c;exact .inl (f5 (f4 c))
 rw[<-d2,<-hr4] at c1 c2;rcases nY (α:=kP) (w:=W7) (c:=[59]) (tk:=λout r=>eQ (out.map (·.1)) (q.dims.map (·.1)) r) (I:=mF p.dims) (xs:=q.reqs) (Hu p.dims) (λo r=>o7.req _ _ r) (λo r=>Au) (by intro i h;exact hq i h) hR.q c1 with c | ⟨q1,q2⟩
 ·rw[<-d2,<-hr5] at c;exact .inl (f5 c)
 rw[<-d2,<-hr5] at q1 q2;right
 rw[p2,i2,d2,c2,q2]
end Go.Proofs.YtpjhmeicbjkcdaaGreatDoor
namespace Go.Proofs.YtpjhmeicbjkcdaaGreatDoor
open Go
theorem VJ {x:KT} {r:d8} (h:kO x r) (h3:x.1=3):xN x.2/\x.2.length<=4096:=by
 have ht:=h.t;obtain⟨k,s⟩:=x;dsimp only at h3 ht ⊢;subst h3;have e:rM (3,s)=Q8 s:=show (if (3:Int)=3 then Q8 s else s)=Q8 s from if_pos rfl
 rw[e] at ht;have hq:(Q8 s++r).getD 0 0=34:=rfl;rw[oY hq] at ht;have h0:(J3 ((Q8 s++r).drop 1) 1 []).2.2=0:=congrArg (λq=>q.2.2.2) ht;have h1:(J3 ((Q8 s++r).drop 1) 1 []).2.1=s:=congrArg (λq=>q.2.2.1) ht;obtain⟨b,r',_,e2,e3,e4⟩:=PF _ _ _ h0;rw[e2] at h1;have h1:[]++b=s:=h1;rw[I4] at h1;subst h1;rw[i6,w7] at e4;exact⟨e3,e4⟩
theorem DW (u:d8) :∀c∈u.take (N0 u).1,k9 c=true\/c=47:=by
 rw[GD];split
 ·rename_i hc
  dsimp only;intro c hm;rw[UW,yU] at hm;rcases y8.1 hm with hm | hm
  ·rcases y8.1 hm with hm | hm
   ·exact .inl (s7.1 (bJ k9 u) c hm)
   ·right
    have:=hc.1;rw[e8] at this;cases hu:u[s9 k9 u]? with
    | none=>rw[hu] at hm;simp at hm
    | some d=>
     rw[hu] at hm this;have e:d=47:=this;rw[e] at hm;simpa using hm
  ·exact .inl (s7.1 (bJ k9 (u.drop (s9 k9 u+1))) c hm)
 ·dsimp only;exact λc hm=>.inl (s7.1 (bJ k9 u) c hm)
theorem zP {x:KT} {r:d8} (h:kO x r) (h3:x.1≠3):(x.1=1->x.2.all G5=true)/\(x.2.length<=1\/((59:UInt8)∉x.2/\(125:UInt8)∉x.2))/\rM x=x.2:=by
 have ht:=h.t;have e:rM x=x.2:=if_neg h3;refine⟨λh1=>?_,?_,e⟩ <;> rw[oZ] at ht
 ·generalize rM x++r=u at ht;by_cases g1:u.getD 0 0=34
  ·rw[if_pos g1] at ht;exact absurd (congrArg (λq=>q.2.1) ht).symm h3
  ·rw[if_neg g1] at ht;by_cases g2:J4 (u.getD 0 0)=true
   ·rw[if_pos g2] at ht;by_cases g3:40 < s9 G5 u
    ·rw[if_pos g3] at ht;exact absurd (congrArg (λq=>q.2.2.2) ht) (show ¬ (5:Int)=0 by decide)
    ·rw[if_neg g3] at ht;have:u.take (s9 G5 u)=x.2:=congrArg (λq=>q.2.2.1) ht;rw[<-this];exact bJ G5 u
   ·rw[if_neg g2] at ht;exfalso
    by_cases g3:k9 (u.getD 0 0)=true
    ·rw[if_pos g3] at ht;have h2:(2:Int)=x.1:=by
      split at ht
      ·exact congrArg (λq=>q.2.1) ht
      ·split at ht
       ·exact congrArg (λq=>q.2.1) ht
       ·exact congrArg (λq=>q.2.1) ht
     rw[h1] at h2;exact absurd h2 dc
    ·rw[if_neg g3] at ht;have h2:(4:Int)=x.1:=by
      split at ht
      ·exact congrArg (λq=>q.2.1) ht
      ·exact congrArg (λq=>q.2.1) ht
     rw[h1] at h2;exact absurd h2 dc
 ·generalize rM x++r=u at ht;by_cases g1:u.getD 0 0=34
  ·rw[if_pos g1] at ht;exact absurd (congrArg (λq=>q.2.1) ht).symm h3
  ·rw[if_neg g1] at ht;by_cases g2:J4 (u.getD 0 0)=true
   ·rw[if_pos g2] at ht;by_cases g3:40 < s9 G5 u
    ·rw[if_pos g3] at ht;exact absurd (congrArg (λq=>q.2.2.2) ht) (show ¬ (5:Int)=0 by decide)
    ·rw[if_neg g3] at ht;have:u.take (s9 G5 u)=x.2:=congrArg (λq=>q.2.2.1) ht;right
     rw[<-this];exact⟨λc=>absurd (s7.1 (bJ G5 u) _ c) dc,λc=>absurd (s7.1 (bJ G5 u) _ c) dc⟩
   ·rw[if_neg g2] at ht;by_cases g3:k9 (u.getD 0 0)=true
    ·rw[if_pos g3] at ht;right
     split at ht
     ·exact absurd (congrArg (λq=>q.2.2.2) ht) (show ¬ (5:Int)=0 by decide)
     ·split at ht
      ·have:u.take (N0 u).1=x.2:=congrArg (λq=>q.2.2.1) ht;rw[<-this];exact⟨λc=>(DW u _ c).elim (λg=>absurd g dc) (λg=>absurd g dc),λc=>(DW u _ c).elim (λg=>absurd g dc) (λg=>absurd g dc)⟩
      ·exact absurd (congrArg (λq=>q.2.2.2) ht) (show ¬ (3:Int)=0 by decide)
    ·rw[if_neg g3] at ht;split at ht
     ·exact absurd (congrArg (λq=>q.2.2.2) ht) (show ¬ (14:Int)=0 by decide)
     ·have:u.take (W3 u)=x.2:=congrArg (λq=>q.2.2.1) ht;rw[<-this,FF];split
      ·rename_i g4
       right
       obtain⟨d,hd,g5⟩:=E5.1 g4;rw[of_decide_eq_true g5];have :∀d∈Z4,(59:UInt8)∉d/\(125:UInt8)∉d:=dc
       exact this d hd
      ·left
       rw[j1];split <;> omega
theorem JO {x:R0} {y:d8} {L:List KT} {r:d8} (hx:(∃t,x=.inl t/\kO t r)\/∃b,x=.inr b/\Fo b) (hp :∃z,iB x=y++z/\z≠[]) (hm:wD y L) (hs :∀s,x=.inl (3,s)->xN s->s.length<=4096->y = []) {c:UInt8} (hc:c=59\/c=125):HL [c] L:=by
 obtain⟨z,hz,hz0⟩:=hp;have hy:c∉y:=by
  intro hcy;rcases hx with ⟨t,rfl,ht⟩ | ⟨b,rfl,hb⟩
  ·by_cases h3:t.1=3
   ·obtain⟨g1,g2⟩:=VJ ht h3;have:y = []:=hs t.2 (by rw[<-h3]) g1 g2;rw[this] at hcy;cases hcy
   ·obtain⟨_,g1,g2⟩:=zP ht h3;have hz:t.2=y++z:=by rw[<-g2];exact hz
    rcases g1 with g1 | ⟨g1,g3⟩
    ·rw[hz,d6] at g1;have:=D1.2 hz0;have:y.length=0:=om
     rw[F7.1 this] at hcy;cases hcy
    ·have hcx:c∈t.2:=by rw[hz];exact L7 _ hcy
     rcases hc with rfl | rfl
     ·exact g1 hcx
     ·exact g3 hcx
  ·have hz:b=y++z:=hz;have hcb:c∈b:=by rw[hz];exact L7 _ hcy
   rcases hb with rfl | rfl <;> rw[v6.1 hcb] at hc <;> rcases hc with hc | hc <;> exact absurd hc dc
 intro t ht hb;have h3:t.1≠3:=by rcases hb.1 with c | c <;> rw[c] <;> decide
 have:=((hm t ht).2 h3).1 c (by rw[hb.2];simp);exact hy this
theorem DZ {y:d8} {L:List KT} {w w':d8} (hm:wD y L) (hy :∀c∈y,c∈w') (hw :∃c∈w,c∉w'):HL w L:=by
 intro t ht hb;have h3:t.1≠3:=by rcases hb.1 with c | c <;> rw[c] <;> decide
 obtain⟨c,h1,h2⟩:=hw;exact h2 (hy c (((hm t ht).2 h3).1 c (by rw[hb.2];exact h1)))
def mE (c:UInt8) (I:List R0):Prop:=kS c∉I
theorem mE.app {c:UInt8} {A B:List R0} (h1:mE c A) (h2:mE c B):mE c (A++B):=λh=>(y8.1 h).elim h1 h2
theorem mE.cons {c:UInt8} {x:R0} {B:List R0} (h1:x≠kS c) (h2:mE c B):mE c (x::B):=λh=>(p9.1 h).elim (λe=>h1 e.symm) h2
theorem mE.nil {c:UInt8}:mE c []:=λh=>by cases h
theorem mE.fm {α:Type} {c:UInt8} {g:α->List R0} {l:List α} (h :∀x∈l,mE c (g x)):mE c (l.flatMap g):=λhm=>by
 obtain⟨x,hx,h1⟩:=Is.1 hm;exact h x hx h1
theorem qC {k:Int} {x:d8} {c:UInt8} (h:k≠4):(Sum.inl (k,x):R0)≠kS c:=λe=>h (congrArg Prod.fst (Sum.inl.inj e))
theorem eZ {d c:UInt8} (h:d≠c):kS d≠kS c:=λe=>h (E8 (congrArg Prod.snd (Sum.inl.inj e))).1
theorem T4 {b:d8} {c:UInt8}:(Sum.inr b:R0)≠kS c:=λe=>by cases e
theorem AO {s:d8} {c:UInt8}:GG s≠kS c:=λe=>by
 have h:=congrArg Prod.fst (Sum.inl.inj e);rcases (yK s).1 with g | g <;> rw[g] at h <;> exact absurd h (show ¬ _=(4:Int) by decide)
theorem PS {c:UInt8} (h44:(44:UInt8)≠c) :∀{L:List (List R0)},(∀x∈L,mE c x)->mE c (gW L)
 | [],_=>mE.nil
 | _::L,h=>by
  rw[vT];exact (h _ sQ).app (mE.fm λy hy=>.cons (eZ h44) (.cons T4 (h y (by simp[hy]))))
theorem JJ {c:UInt8} (h45:(45:UInt8)≠c) (z:Int):mE c (zI z):=by
 unfold zI;split
 ·exact .cons (eZ h45) (.cons (qC dc) .nil)
 ·exact .cons (qC dc) .nil
theorem DX {c:UInt8} (h45:(45:UInt8)≠c) (x:d8):mE c (nI x):=by
 unfold nI;split
 ·exact .cons (eZ h45) (.cons (qC dc) .nil)
 ·exact .cons (qC dc) .nil
structure vA (c:UInt8):Prop where
 h:c=59\/c=125
theorem vA.ne {c:UInt8} (e:vA c):(44:UInt8)≠c/\(45:UInt8)≠c/\(40:UInt8)≠c/\(41:UInt8)≠c/\(91:UInt8)≠c/\(93:UInt8)≠c/\(43:UInt8)≠c/\(42:UInt8)≠c/\(58:UInt8)≠c/\(61:UInt8)≠c/\(123:UInt8)≠c:=by
 rcases e.h with rfl | rfl <;> decide
theorem JK {c:UInt8} (e:vA c) (l:List Int):mE c (uD l):=by
 obtain⟨e44,e45,e40,e41,_⟩:=e.ne;refine .cons (eZ e40) ((PS e44 λx hx=>?_).app (.cons (eZ e41) .nil));obtain⟨z,_,rfl⟩:=y7.1 hx;exact JJ e45 z
theorem PQ {c:UInt8} (e:vA c) {nm:Int->KT} (hn :∀i,(nm i).1≠4) (f:uZ):mE c (uG nm f):=by
 obtain⟨_,e45,_,_,e91,e93,e43,e42,_⟩:=e.ne;refine .cons (eZ e91) ((DX e45 _).app ((mE.fm λt _=>?_).app (.cons (eZ e93) .nil)));refine .cons T4 (.cons ?_ (.cons T4 (.cons (qC dc) (.cons T4 (.cons (eZ e42) (.cons T4 (.cons (λh=>hn t.1 (congrArg Prod.fst (Sum.inl.inj h))) .nil)))))));split
 ·exact eZ e45
 ·exact eZ e43
theorem PR {c:UInt8} (e:vA c) {nm:Int->KT} (hn :∀i,(nm i).1≠4) :∀(d:Nat) (x:Ex),mE c (kG nm d x)
 | 0,_=>.nil
 | d+1,.mk op f fac args=>by
  obtain⟨e44,e45,e40,e41,_⟩:=e.ne;show mE c (if op=0 then uG nm f else _)
  by_cases h0:op=0
  ·rw[if_pos h0];exact PQ e hn f
  ·rw[if_neg h0];refine .cons (qC dc) (mE.app ?_ (.cons (eZ e40) ((PS e44 λx hx=>?_).app (.cons (eZ e41) .nil))))
   ·split
    ·exact .cons T4 ((DX e45 _).app (.cons T4 .nil))
    ·exact .nil
   ·obtain⟨y,_,rfl⟩:=y7.1 hx;exact PR e hn d y
theorem QN (D:List O7) (i:Int):(qH D i).1≠4:=by
 unfold qH;rcases (yK (D.getD i.toNat ([],0,0,0)).1).1 with g | g <;> rw[g] <;> decide
theorem PP {c:UInt8} (e:vA c) (w x:d8):mE c (mH w x):=by
 obtain⟨_,e45,_⟩:=e.ne;unfold mH;split
 ·exact .nil
 ·exact .cons T4 (.cons (qC dc) (.cons T4 (DX e45 _)))
structure Eh (I:List R0) (w:d8) (c:UInt8) (s0:List R0):Prop where
 e:I=kW w::(s0++[kS c,jJ])
 n:mE 125 s0
 m:c=59->mE 59 s0
theorem Ah (p:V9) :∃s0,Eh (tN p) S9 125 s0:=by
 have e:vA 125:=⟨.inr rfl⟩
 obtain⟨_,e45,_,_,_,_,_,_,_,_,e123⟩:=e.ne;refine⟨Q1::GG p.1::Q1::kW zF::Q1::(zI p.2.1++(Q1::kS 123::jJ::p.2.2.flatMap CR)),by unfold tN;simp,?_,λh=>absurd h dc⟩;exact .cons T4 (.cons AO (.cons T4 (.cons (qC dc) (.cons T4 ((JJ e45 _).app (.cons T4 (.cons (eZ e123) (.cons T4 (mE.fm λc _=>.cons T4 (.cons T4 (.cons (qC dc) ((mE.fm λv _=>.cons T4 (JK e _)).app (.cons (eZ dc) (.cons T4 .nil))))))))))))))
theorem Ai (x:lW) :∃s0,Eh (rO x) dE 59 s0:=by
 have key :∀c,vA c->mE c (Q1::GG x.1::Q1::kW Fw::Q1::GG x.2.1::Q1::kW zE::Q1::(uD [x.2.2.1.1,x.2.2.1.2.1,x.2.2.1.2.2.1,x.2.2.1.2.2.2] ++
   (Q1::kW wO::Q1::kS 40::(nI x.2.2.2.1++(kS 44::Q1::(nI x.2.2.2.2.1++(kS 44::Q1::(nI x.2.2.2.2.2++[kS 41])))))))):=λc e=>by
  obtain⟨e44,e45,e40,e41,_⟩:=e.ne;exact .cons T4 (.cons AO (.cons T4 (.cons (qC dc) (.cons T4 (.cons AO (.cons T4 (.cons (qC dc) (.cons T4 ((JK e _).app (.cons T4 (.cons (qC dc) (.cons T4 (.cons (eZ e40) ((DX e45 _).app (.cons (eZ e44) (.cons T4 ((DX e45 _).app (.cons (eZ e44) (.cons T4 ((DX e45 _).app (.cons (eZ e41) .nil)))))))))))))))))))))
 exact⟨_,by unfold rO;simp,key 125 ⟨.inr rfl⟩,λ_=>key 59 ⟨.inl rfl⟩⟩
theorem Aj (d:O7) :∃s0,Eh (qI d) Z8 59 s0:=by
 have key :∀c,vA c->mE c (Q1::GG d.1::Q1::kS 61::Q1::(zI d.2.1++(Q1::kS 91::(zI d.2.2.1++(kS 44::Q1::(zI d.2.2.2++[kS 93])))))):=λc e=>by
  obtain⟨e44,e45,_,_,e91,e93,_,_,_,e61,_⟩:=e.ne;exact .cons T4 (.cons AO (.cons T4 (.cons (eZ e61) (.cons T4 ((JJ e45 _).app (.cons T4 (.cons (eZ e91) ((JJ e45 _).app (.cons (eZ e44) (.cons T4 ((JJ e45 _).app (.cons (eZ e93) .nil))))))))))))
 exact⟨_,by unfold qI;simp,key 125 ⟨.inr rfl⟩,λ_=>key 59 ⟨.inl rfl⟩⟩
theorem Ak (D:List O7) (x:kT) :∃s0,Eh (oM D x) Y8 59 s0:=by
 have key :∀c,vA c->mE c (Q1::GG x.1::kS 58::Q1::(uG (qH D) x.2++[Q1,.inl (4,[60,61]),Q1,kN [48]])):=λc e=>by
  obtain⟨_,_,_,_,_,_,_,_,e58,_⟩:=e.ne;exact .cons T4 (.cons AO (.cons (eZ e58) (.cons T4 ((PQ e (QN D) _).app (.cons T4 (.cons (λh=>by cases (E8 (congrArg Prod.snd (Sum.inl.inj h))).2) (.cons T4 (.cons (qC dc) .nil))))))))
 exact⟨_,by unfold oM;simp,key 125 ⟨.inr rfl⟩,λ_=>key 59 ⟨.inl rfl⟩⟩
theorem Ag (D:List O7) (x:kP) :∃s0,Eh (mF D x) W7 59 s0:=by
 have key :∀c,vA c->mE c (Q1::GG x.1::kS 58::Q1::(kG (qH D) 8 x.2.1++(mH iG x.2.2.1++mH HW x.2.2.2))):=λc e=>by
  obtain⟨_,_,_,_,_,_,_,_,e58,_⟩:=e.ne;exact .cons T4 (.cons AO (.cons (eZ e58) (.cons T4 ((PR e (QN D) _ _).app ((PP e _ _).app (PP e _ _))))))
 exact⟨_,by unfold mF;simp,key 125 ⟨.inr rfl⟩,λ_=>key 59 ⟨.inl rfl⟩⟩
end Go.Proofs.YtpjhmeicbjkcdaaGreatDoor
namespace Go.Proofs.YtpjhmeicbjkcdaaGreatDoor
open Go
def qJ (p:kR):Nat:=p.parts.length+p.insts.length+p.dims.length+p.cons.length+p.reqs.length
def rA (p:kR):List (List R0):=p.parts.map tN++(p.insts.map rO++(p.dims.map qI++(p.cons.map (oM p.dims)++p.reqs.map (mF p.dims))))
def FM (s:List R0):List R0:=jJ::s.dropLast
def Cr (nm:d8):List R0:=[kW fY,Q1,GG nm,kS 59]
theorem DJ :∀S:List (List R0),(∀s∈S,∃a,s=a++[jJ])->jJ::S.flatten=S.flatMap FM++[jJ]
 | [],_=>rfl
 | s::S,h=>by
  obtain⟨a,e⟩:=h s sQ;have ih:=DJ S λt ht=>h t (by simp[ht]);rw[s6,u7,f8,<-ih];subst e;unfold FM;rw[List.dropLast_concat,f8];rfl
theorem tD {I:List R0} {w:d8} {c:UInt8} {s0:List R0} (h:Eh I w c s0):I=(kW w::(s0++[kS c]))++[jJ]:=by rw[h.e];simp
theorem OZ {I:List R0} {w:d8} {c:UInt8} {s0:List R0} (h:Eh I w c s0):FM I=(jJ::kW w::s0)++[kS c]:=by
 unfold FM;rw[tD h,List.dropLast_concat];rfl
theorem FG {p:kR} {s:List R0} (h:s∈rA p):(∃s0,Eh s S9 125 s0)\/∃w s0,Eh s w 59 s0:=by
 unfold rA at h;simp only[y8,y7] at h;rcases h with ⟨x,_,rfl⟩ | ⟨x,_,rfl⟩ | ⟨x,_,rfl⟩ | ⟨x,_,rfl⟩ | ⟨x,_,rfl⟩
 ·exact .inl (Ah x)
 ·exact .inr ⟨_,Ai x⟩
 ·exact .inr ⟨_,Aj x⟩
 ·exact .inr ⟨_,Ak p.dims x⟩
 ·exact .inr ⟨_,Ag p.dims x⟩
theorem WK (p:kR):SC p=(Cr p.nm++(rA p).flatMap FM)++[jJ]:=by
 have h:=DJ (rA p) λs hs=>by
  rcases FG hs with ⟨s0,hh⟩ | ⟨w,s0,hh⟩
  ·exact⟨_,tD hh⟩
  ·exact⟨_,tD hh⟩
 have e:SC p=Cr p.nm++(jJ::(rA p).flatten):=by
  unfold SC rA Cs Cr;simp only[UO,oU];rfl
 rw[e,h,f8]
theorem HD {α:Type} {A B I1 I2:List α} {x:α} (h:A++B=I1++x::I2):(∃I,A=I1++x::I)\/∃I,I1=A++I/\B=I++x::I2:=by
 rcases List.append_eq_append_iff.1 h with ⟨a,h1,h2⟩ | ⟨a,h1,h2⟩
 ·exact .inr ⟨a,h1,h2⟩
 ·cases a with
  | nil=>exact .inr ⟨[],by simpa using h1.symm,by simpa using h2.symm⟩
  | cons y a=>
   have:=(E8 h2).1;subst this;exact .inl ⟨a,h1⟩
theorem XT {g:List R0->List R0} :∀{S:List (List R0)} {I1 I2:List R0} {x:R0},S.flatMap g=I1++x::I2->∃pre s post I I',S=pre++s::post/\I1=pre.flatMap g++I/\g s=I++x::I'
 | [],I1,I2,x,h=>by
  have:=congrArg H4 h;simp at this
 | s::S,I1,I2,x,h=>by
  rw[u7] at h;rcases HD h with ⟨I,e⟩ | ⟨I,e1,e2⟩
  ·exact⟨[],s,S,I1,I,rfl,rfl,e⟩
  ·obtain⟨pre,t,post,K,K',h1,h2,h3⟩:=XT e2;exact⟨s::pre,t,post,K,K',by rw[h1];rfl,by rw[e1,h2,u7,f8],h3⟩
theorem MY {α:Type} {A I1 I2:List α} {x z:α} (h:A++[z]=I1++x::I2) :∃B,A=I1++B:=by
 rcases HD h with ⟨I,e⟩ | ⟨I,e1,e2⟩
 ·exact⟨_,e⟩
 ·cases I with
  | nil=>exact⟨[],by rw[e1];simp⟩
  | cons a I=>
   have:=congrArg H4 e2;simp at this
theorem HE {B:d8->Prop} {r:d8} :∀{I:List R0},qS B I r->∀x∈I,(∃t,x=.inl t/\∃r',kO t r')\/∃b,x=.inr b/\B b
 | [],_,x,hx=>by cases hx
 | .inl t::I,h,x,hx=>by
  rcases p9.1 hx with rfl | hx
  ·exact .inl ⟨t,rfl,_,h.1.y⟩
  ·exact HE (I:=I) h.2 x hx
 | .inr b::I,h,x,hx=>by
  rcases p9.1 hx with rfl | hx
  ·exact .inr ⟨b,rfl,h.1⟩
  ·exact HE (I:=I) h.2 x hx
theorem GF {c:UInt8} (e:vA c) {I:List R0} (hn:mE c I) (hy :∀t,Sum.inl t∈I->∃r,kO t r):HL [c] (N6 I):=by
 intro t ht hb;unfold N6 at ht;obtain⟨x,hx,h1⟩:=Is.1 ht;cases x with
 | inr b=>cases h1
 | inl u=>
  have e1:t=u:=v6.1 h1;subst e1;obtain⟨r,hr⟩:=hy t hx;rcases hb.1 with h1 | h4
  ·have:=(zP hr (by rw[h1];decide)).1 h1;rw[hb.2] at this;rcases e.h with rfl | rfl <;> exact absurd this dc
  ·refine hn ?_;have:t=(4,[c]):=Prod.ext h4 hb.2;rw[this] at hx;exact hx
theorem HL.app {w:d8} {A B:List KT} (h1:HL w A) (h2:HL w B):HL w (A++B):=λx hx=>(y8.1 hx).elim (h1 x) (h2 x)
theorem HL.head {w:d8} {A:List KT} (h:HL w A):vZ w A:=λx hx=>h x (by
 cases A with
 | nil=>cases hx
 | cons a A=>rw[<-M0 hx];simp)
theorem o7.prd (r:RS):o7 r (CJ r).1:=by
 unfold CJ;dsimp only;exact ((((((((o7.exp r _).trans (o7.nam _ _)).trans (o7.exp _ _)).trans (o7.its _ (λo r=>o7.par _ r) _ _ _)).trans (o7.its _ (λo r=>o7.ins _ _ r) _ _ _)).trans (o7.its _ (λo r=>o7.dim _ r) _ _ _)).trans (o7.its _ (λo r=>o7.con _ _ r) _ _ _)).trans (o7.its _ (λo r=>o7.req _ _ r) _ _ _)).trans (o7.fin _)
theorem Bj {r:RS} (h:UL [59] r):(CJ r).1.e≠0:=by
 unfold CJ;dsimp only;have h1:(s8 (L0 (s8 r fY) (λ_=>0)).1 [59]).e≠0:=pO (h.aft ((o7.exp r _).trans (o7.nam _ _)));exact (((((o7.its _ (λo r=>o7.par _ r) _ _ _).trans (o7.its _ (λo r=>o7.ins _ _ r) _ _ _)).trans (o7.its _ (λo r=>o7.dim _ r) _ _ _)).trans (o7.its _ (λo r=>o7.con _ _ r) _ _ _)).trans (o7.its _ (λo r=>o7.req _ _ r) _ _ _)).trans (o7.fin _) |>.bad h1
def mM (p:kR) (j:Nat):kR:=⟨p.nm,p.parts.take j,p.insts.take (j - p.parts.length),p.dims.take (j - p.parts.length - p.insts.length),p.cons.take (j - p.parts.length - p.insts.length - p.dims.length),p.reqs.take (j - p.parts.length - p.insts.length - p.dims.length - p.cons.length)⟩
theorem Dm {p:kR} (g:vY p) (j:Nat):Lf p (mM p j):=by
 refine⟨g,rfl,⟨_,rfl⟩,⟨_,rfl,λh=>?_⟩,⟨_,rfl⟩,⟨_,rfl,λh=>?_⟩,⟨_,rfl,λh=>?_⟩⟩
 ·simp only[mM,j1] at h ⊢;exact o6 om
 ·simp only[mM,j1] at h ⊢;exact o6 om
 ·simp only[mM,j1] at h ⊢;exact o6 om
theorem Do {p:kR} {j:Nat} (h:j < qJ p):qJ (mM p j) < qJ p:=by
 unfold qJ at h ⊢;simp only[mM,j1];omega
theorem YP (p:kR) (j:Nat):((rA p).take j).flatten=(mM p j).parts.flatMap tN++((mM p j).insts.flatMap rO++((mM p j).dims.flatMap qI++((mM p j).cons.flatMap (oM p.dims)++(mM p j).reqs.flatMap (mF p.dims)))):=by
 unfold rA mM;simp only[List.take_append,UO,j6,<-List.map_take,oU]
theorem Ad (p:kR):(rA p).length=qJ p:=by
 unfold rA qJ;simp only[d6,j6];omega
theorem JW :∀S:List (List R0),(∀s∈S,∃a,s=a++[jJ])->N6 (S.flatMap FM)=N6 S.flatten
 | [],_=>rfl
 | s::S,h=>by
  obtain⟨a,e⟩:=h s sQ;rw[u7,s6,G1,G1,JW S λt ht=>h t (by simp[ht])];subst e;unfold FM;rw[List.dropLast_concat,G1];show N6 a++_=(N6 a++[])++_
  rw[k8]
theorem UD {p:kR} (g:vY p) (hl:(gH p).length<=65536) {k:Nat} (hk:k+1 < (gH p).length):(rG ((gH p).take k)).1.e≠0\/qJ (rG ((gH p).take k)).2 < qJ p:=by
 have hb:=Cj g;have hseg:=WK p;obtain⟨J,hJ⟩ :∃J,J=Cr p.nm++(rA p).flatMap FM:=⟨_,rfl⟩
 rw[<-hJ] at hseg;have hB:gH p=U6 J++[10]:=by rw[<-hb,hseg,M7];rfl
 have hkJ:k < (U6 J).length:=by rw[hB,d6,p7] at hk;omega
 have htk:(gH p).take k=(U6 J).take k:=by rw[hB,qP om]
 rw[htk];have hadj:Z1 J (U6 [jJ]++[]):=Z1.left (by rw[<-hseg];exact Ed g []);by_cases he:(dG ((U6 J).take k)).2.2.2=0
 ·obtain⟨I1,x,y,hc⟩:=QR J k hkJ;obtain⟨L,h1,h2,h3⟩:=Dn hc hadj (by rw[hB,d6] at hl;omega) he;obtain⟨⟨I2,hI⟩,_,hp⟩:=hc;have hmem:=HE hadj;have hx:(∃t,x=.inl t/\∃r,kO t r)\/∃b,x=.inr b/\Fo b:=hmem x (by rw[hI];simp);have hend :∀c,vA c->HL [c] L:=λc e=>by
   rcases hx with ⟨t,e1,r,e2⟩ | h
   ·exact JO (r:=r) (.inl ⟨t,e1,e2⟩) hp h2 h3 e.h
   ·exact JO (r:=[]) (.inr h) hp h2 h3 e.h
  rw[hJ] at hI;rcases HD hI with ⟨I,e⟩ | ⟨I,e1,e2⟩
  ·left
   have e:[kW fY,Q1,GG p.nm]++[kS 59]=I1++x::I:=e;obtain⟨K,hK⟩:=MY e;refine Bj (h1.noW (HL.app (GF ⟨.inl rfl⟩ ?_ ?_) (hend 59 ⟨.inl rfl⟩)))
   ·intro hm;have:kS 59∈[kW fY,Q1,GG p.nm]:=by rw[hK];exact L7 _ hm
    exact (show mE 59 [kW fY,Q1,GG p.nm] from .cons (qC dc) (.cons T4 (.cons AO .nil))) this
   ·intro t ht;have:Sum.inl t∈J:=by rw[hJ,hI];exact L7 _ ht
    rcases hmem _ this with ⟨u,e,h⟩ | ⟨b,e,_⟩
    ·cases e;exact h
    ·cases e
  ·obtain⟨pre,s,post,K,K',f1,f2,f3⟩:=XT e2;have hs:s∈rA p:=by rw[f1];simp
   have hpre:pre=(rA p).take pre.length:=by rw[f1,X6 rfl]
   have hends :∀t∈pre,∃a,t=a++[jJ]:=λt ht=>by
    have ht:t∈rA p:=by rw[f1];exact L7 _ ht
    rcases FG ht with ⟨s0,hh⟩ | ⟨w,s0,hh⟩
    ·exact⟨_,tD hh⟩
    ·exact⟨_,tD hh⟩
   have hjl:pre.length < qJ p:=by
    rw[<-Ad,f1,d6,d7];omega
   have hKJ :∀t,Sum.inl t∈K->∃r,kO t r:=λt ht=>by
    have:Sum.inl t∈J:=by rw[hJ,hI,e1,f2];simp[ht]
    rcases hmem _ this with ⟨u,e,h⟩ | ⟨b,e,_⟩
    ·cases e;exact h
    ·cases e
   have hR:Oq (N6 K++L):=by
    rcases FG hs with ⟨s0,hh⟩ | ⟨w,s0,hh⟩
    ·rw[OZ hh] at f3;obtain⟨K2,hK2⟩:=MY f3;have n125:HL [125] (N6 K++L):=by
      refine HL.app (GF ⟨.inr rfl⟩ (λhm=>?_) hKJ) (hend 125 ⟨.inr rfl⟩);have:kS 125∈jJ::kW S9::s0:=by rw[hK2];exact L7 _ hm
      exact (show mE 125 (jJ::kW S9::s0) from .cons T4 (.cons (qC dc) hh.n)) this
     have hw :∀w,S9≠w->(∃c∈w,c∉S9)->(∃c,c∈w)->vZ w (N6 K++L):=by
      intro w hw h4 h5;match K,hK2,f3 with
      | [],_,f3=>
       have hxx:x=jJ:=(E8 f3).1.symm;have hy:y = []:=by
        obtain⟨z,hz,hz0⟩:=hp;rw[hxx] at hz;cases y with
        | nil=>rfl
        | cons c y=>
         have hz:[10]=c::(y++z):=hz;exact absurd (List.append_eq_nil_iff.1 (E8 hz).2.symm).2 hz0
       rw[hy] at h2;obtain⟨c,hc⟩:=h5;exact HL.head (DZ (w':=[]) h2 (λc hc=>by cases hc) ⟨c,hc,sQ⟩)
      | [a],hK2,f3=>
       have hxx:x=kW S9:=(E8 (E8 f3).2).1.symm;have ha:a=jJ:=(E8 hK2).1.symm;subst ha;obtain⟨z,hz,_⟩:=hp;rw[hxx,xY] at hz;exact HL.head (DZ (w':=S9) h2 (λc hc=>by rw[hz];exact L7 _ hc) h4)
      | a::b::K,hK2,_=>
       have ha:a=jJ:=(E8 hK2).1.symm;have hb:b=kW S9:=(E8 (E8 hK2).2).1.symm;subst ha;subst hb;intro t ht;have e:t=(1,S9):=(M0 ht).symm;subst e;exact λc=>hw c.2
     exact⟨.inr n125,.inl (hw _ dc ⟨105,dc,dc⟩ ⟨105,dc⟩),.inl (hw _ dc ⟨100,dc,dc⟩ ⟨100,dc⟩),.inl (hw _ dc ⟨99,dc,dc⟩ ⟨99,dc⟩),.inl (hw _ dc ⟨113,dc,dc⟩ ⟨113,dc⟩)⟩
    ·rw[OZ hh] at f3;obtain⟨K2,hK2⟩:=MY f3;have nn :∀c,vA c->mE c s0->HL [c] (N6 K++L):=λc e h=>by
      refine HL.app (GF e (λhm=>?_) hKJ) (hend c e);have:kS c∈jJ::kW w::s0:=by rw[hK2];exact L7 _ hm
      exact (show mE c (jJ::kW w::s0) from .cons T4 (.cons (qC dc) h)) this
     have n59:=nn 59 ⟨.inl rfl⟩ (hh.m rfl);exact⟨.inr (nn 125 ⟨.inr rfl⟩ hh.n),.inr n59,.inr n59,.inr n59,.inr n59⟩
   have htok:N6 I1++L=(1,fY)::([rJ (mM p pre.length).nm]++((4,[59])::(N6 ((mM p pre.length).parts.flatMap tN)++(N6 ((mM p pre.length).insts.flatMap rO)++(N6 ((mM p pre.length).dims.flatMap qI)++(N6 ((mM p pre.length).cons.flatMap (oM p.dims))++(N6 ((mM p pre.length).reqs.flatMap (mF p.dims))++(N6 K++L)))))))):=by
    have e3:N6 (pre.flatMap FM)=N6 (((rA p).take pre.length).flatten):=by rw[JW pre hends,<-hpre]
    rw[e1,f2,G1,G1,e3,YP,G1,G1,G1,G1];simp only[f8];rfl
   rw[htok] at h1;rcases VN (Dm g pre.length) hR h1 with h | h
   ·exact .inl h
   ·right
    show qJ (CJ (uA _)).2 < _
    rw[h];exact Do hjl
 ·left
  exact (o7.prd _).bad he
end Go.Proofs.YtpjhmeicbjkcdaaGreatDoor
namespace Go.Proofs.YtpjhmeicbjkcdaaGreatDoor
open Go Go.RowKit Go.Dw
theorem Jp {α:Type} {R:yV α} {sz b T:Nat} {x y:α} {c d:List Value} {h:Hp} (hh:(Ch.box b (c++d) T).h.le h) (hc:c.length=sz) (hd:d.length=sz) (hx:R h x c) (hy:R h y d):Sl R sz h (some ⟨b,0,none⟩) 2 2 [x,y]:=by
 refine⟨rfl,j8 _,λi hi=>?_⟩;match i,hi with
 | 0,_=>
  refine⟨b,0,c,rfl,hc,hx,λj v hj=>hh.cell (I0 b T ?_)⟩;have hl:=(p6.1 hj).1;rw[show 0+0*sz+j=j by omega,X3 hl];exact hj
 | 1,_=>
  refine⟨b,0,d,rfl,hd,hy,λj v hj=>hh.cell (I0 b T ?_)⟩;rw[show 0+1*sz+j=c.length+j by omega,L8 om,CY];exact hj
theorem tO {d:Nat} {H:Hp} {p:kR} {xs:List Value} (h:vX d H p xs) :∃a1 n1 c1 a2 n2 c2 a3 n3 c3 a4 n4 c4 a5 n5 c5,xs = [sv p.nm,.slice a1 n1 c1,.slice a2 n2 c2,.slice a3 n3 c3,.slice a4 n4 c4,.slice a5 n5 c5]/\n1=p.parts.length/\n2=p.insts.length/\n3=p.dims.length/\n4=p.cons.length/\n5=p.reqs.length:=by
 obtain⟨a1,n1,c1,a2,n2,c2,a3,n3,c3,a4,n4,c4,a5,n5,c5,e,h1,h2,h3,h4,h5⟩:=h.ex;exact⟨a1,n1,c1,a2,n2,c2,a3,n3,c3,a4,n4,c4,a5,n5,c5,e,h1.len,h2.len,h3.len,h4.len,h5.len⟩
theorem WM (s:d8) (h:s.length < 1000000):Ek ⟨s,[],[],[],[],[]⟩:=⟨h,sQ,sQ,sQ,sQ,sQ,nofun,nofun,nofun,nofun⟩
theorem Cc (w:World) (hP:dY (Hp.whole w)):j2 Tryz.prog 13 #[.agg #[sv [112],zl,zl,zl,zl,zl]] w (v8 w (.tuple #[sv [112,114,111,100,117,99,116,32,112,59,10],iQ 0])):=by
 have h:=BW (d:=0) (p:=⟨[112],[],[],[],[],[]⟩) (cs:=[sv [112],zl,zl,zl,zl,zl]) w ⟨⟨none,0,0,none,0,0,none,0,0,none,0,0,none,0,0,rfl,Sl.nil _ _ _ _ _,Sl.nil _ _ _ _ _,Sl.nil _ _ _ _ _,Sl.nil _ _ _ _ _,Sl.nil _ _ _ _ _⟩⟩ (WM [112] dc) hP;rw[Hn] at h;exact h
theorem Mj:jA Kg=(WN,1,36,8):=by
 have h:=Hq;simp only[Prod.mk.injEq] at h;unfold jA;rw[if_pos (by rw[h.2.2];decide),h.1,h.2.1,h.2.2];rfl
theorem Jy:(jA Ja).1=WN/\(jA Ja).2.2.2=14:=by
 have h:=Ho;unfold jA;rw[if_pos (by rw[h];decide),h];exact⟨rfl,rfl⟩
theorem Cb {b1 b2 b3 T1 T2 T3:Nat} (w:World) (h1:(Ch.box b1 [sv [97],iQ 0,iQ 0,iQ 0] T1).h.In w) (h2:(Ch.box b2 [iQ 0,sv [49]] T2).h.In w)
  (h3:(Ch.box b3 [iQ 0,sv [48],.slice (some ⟨b2,0,none⟩) 1 1,zs,zl,iQ 0,sv [53],zl,zs,zl] T3).h.In w) :
  j2 Tryz.prog 19 #[.slice (some ⟨b1,0,none⟩) 1 1,.agg #[iQ 4,zs,zl,zs,.slice (some ⟨b3,0,none⟩) 2 2]] w (v8 w (.tuple #[sv [109,97,120,40,91,48,32,43,32,49,32,42,32,97,93,44,32,91,53,93,41],iQ 0])):=by
 have hD:Sl (E0 P2) 4 (Hp.whole w) (some ⟨b1,0,none⟩) 1 1 [([97],0,0,0)]:=Sl.box (f:=P2) (sz:=4) (λ_=>rfl) dc h1 [([97],0,0,0)] rfl rfl dc;have hT:Sl (E0 bO) 2 (Hp.whole w) (some ⟨b2,0,none⟩) 1 1 [(0,[49])]:=Sl.box (f:=bO) (sz:=2) (λ_=>rfl) dc h2 [(0,[49])] rfl rfl dc;have hA:Sl (bE 1) 5 (Hp.whole w) (some ⟨b3,0,none⟩) 2 2 [.mk 0 ([48],[(0,[49])]) [] [],.mk 0 ([53],[]) [] []]:=
  Jp (x:=Ex.mk 0 ([48],[(0,[49])]) [] []) (y:=Ex.mk 0 ([53],[]) [] []) (c:=[iQ 0,sv [48],.slice (some ⟨b2,0,none⟩) 1 1,zs,zl]) (d:=[iQ 0,sv [53],zl,zs,zl]) h3.whole rfl rfl
   ⟨_,_,_,none,0,0,rfl,hT,Sl.nil _ _ _ _ _⟩ ⟨none,0,0,none,0,0,rfl,Sl.nil _ _ _ _ _,Sl.nil _ _ _ _ _⟩
 have hx:RA Mu:=.mk ⟨dc,dc,nofun⟩ dc dc (by
  intro y hy;rcases p9.1 hy with rfl | hy
  ·exact .mk ⟨dc,dc,by intro t ht;rcases p9.1 ht with rfl | ht;decide;cases ht⟩ dc dc nofun
  ·rcases p9.1 hy with rfl | hy
   ·exact .mk ⟨dc,dc,nofun⟩ dc dc nofun
   ·cases hy)
 have h:=BX (e:=2) (D:=[([97],0,0,0)]) (x:=Mu) (cs:=[iQ 4,zs,zl,zs,.slice (some ⟨b3,0,none⟩) 2 2]) w hD ⟨none,0,0,_,_,_,rfl,Sl.nil _ _ _ _ _,hA⟩ hx dc (by intro d hd;rcases p9.1 hd with rfl | hd;decide;cases hd) (by decide +kernel);rw[Hm] at h;exact h
set_option maxRecDepth 10000 in
theorem GO (w:World) (hT:uT (Hp.whole w)) (hP:dY (Hp.whole w)):j2 Tryz.prog 9 #[] w (v8 w (.bool true)):=by
 have hA:=λ(w':World) (hm:(Hp.whole w).In w')=>sG Kg w' (hT.mono hm.whole);have hB:=λ(w':World) (hm:(Hp.whole w).In w')=>sG Ja w' (hT.mono hm.whole);rw[Mj] at hA;rw[Jy.1,Jy.2] at hB;generalize (jA Ja).2.1=z1 at hB;generalize (jA Ja).2.2.1=z2 at hB;refine enterZ (cx 79) [] [.tmp 0] Tryz.func9 ?_;refine m9 (λ_ kz=>kz _ _ ?_);refine m9 λq' hq'=>?_;refine k7 _ (λw' hm=>Cc w' (hP.mono (hm 0 _ rfl).whole)) ?_;apply hq';refine m9 λq' hq'=>?_;refine call (λw' hm=>hA w' (hm 0 _ rfl)) ?_;rintro _ _ ⟨H1,xs,rfl,rfl,_,hp1⟩;obtain⟨a1,n1,c1,a2,n2,c2,a3,n3,c3,a4,n4,c4,a5,n5,c5,rfl,_⟩:=tO hp1;intro b3;apply hq';refine m9 λq' hq'=>?_;refine call (λw' hm=>hB w' (hm 0 _ rfl)) ?_;rintro _ _ ⟨H2,ys,rfl,rfl,_,hp2⟩;obtain⟨u1,m1,e1,u2,m2,e2,u3,m3,e3,u4,m4,e4,u5,m5,e5,rfl,_⟩:=tO hp2;intro b7;apply hq';refine nQ [.hp (Hp.whole w),.hp H1,.box b3 [zs,.slice a1 n1 c1,.slice a2 n2 c2,.slice a3 n3 c3,.slice a4 n4 c4,.slice a5 n5 c5] 30,.hp H2,.box b7 [zs,.slice u1 m1 e1,.slice u2 m2 e2,.slice u3 m3 e3,.slice u4 m4 e4,.slice u5 m5 e5] 30] λq' hq'=>?_;intro b32 b34 b39;refine k7 _ (λw' hm=>Cb (b1:=b32) (b2:=b34) (b3:=b39) w' (hm 5 _ rfl) (hm 6 _ rfl) (hm 7 _ rfl)) ?_;apply hq';show Q7 _ _ _ _ _ _
 (iterate 3 refine w1j λK hK=>?_;apply hK);refine wGYj λK hK=>?_;apply hK;refine wGYj λK hK=>?_;refine dL (b:=[112,114,111,100,117,99,116,32,112,59,10]) ?_;(iterate 2 apply hK;refine w1j λK hK=>?_);(iterate 2 apply hK;refine wGYj λK hK=>?_);(iterate 2 apply hK;refine w1j λK hK=>?_);(iterate 2 apply hK;refine wGYj λK hK=>?_);(iterate 2 apply hK;refine w1j λK hK=>?_);(iterate 2 apply hK;refine wGYj λK hK=>?_);(iterate 2 apply hK;refine w1j λK hK=>?_);(iterate 2 apply hK;refine wGYj λK hK=>?_);(iterate 2 apply hK;refine w1j λK hK=>?_);(iterate 3 apply hK;refine wGYj λK hK=>?_);refine dL (b:=[]) ?_;(iterate 2 apply hK;refine w1j λK hK=>?_);(iterate 2 apply hK;refine wGYj λK hK=>?_);(iterate 2 apply hK;refine w1j λK hK=>?_);(iterate 2 apply hK;refine wGYj λK hK=>?_);refine dL (b:=[109,97,120,40,91,48,32,43,32,49,32,42,32,97,93,44,32,91,53,93,41]) ?_;(iterate 2 apply hK;refine w1j λK hK=>?_);apply hK;refine qX ?_;exact⟨[],⟨rfl,rfl⟩,pk [0]⟩
theorem uO {d:Nat} {p:kR} {cs:List Value} (w:World) (hp:vX d (Hp.whole w) p cs) (h1:p.parts.length < 1000000) (h2:p.insts.length < 1000000) (h3:p.dims.length < 1000000) (h4:p.cons.length < 1000000) (h5:p.reqs.length < 1000000) :
  j2 Tryz.prog 23 #[.agg cs.toArray] w (v8 w (iQ (qJ p))):=by
 obtain⟨a1,n1,c1,a2,n2,c2,a3,n3,c3,a4,n4,c4,a5,n5,c5,rfl,l1,l2,l3,l4,l5⟩:=tO hp;refine enterZ (cx 24) [.agg #[sv p.nm,.slice a1 n1 c1,.slice a2 n2 c2,.slice a3 n3 c3,.slice a4 n4 c4,.slice a5 n5 c5]] [.tmp 2] Tryz.func23 ?_;intro b1;(iterate 4 refine nwo ?_);refine⟨[],⟨congrArg (Value.int .i64) ?_,rfl⟩,pk [0]⟩;unfold qJ;omega
end Go.Proofs.YtpjhmeicbjkcdaaGreatDoor
namespace Go.Proofs.YtpjhmeicbjkcdaaGreatDoor
open Go Go.RowKit Go.Dw
def BO (G:List d8):d8:=G.reverse.flatten
theorem aZ (G:List d8) (x:d8):BO (G++[x])=x++BO G:=by unfold BO;simp
theorem EC :∀L:List d8,Lib.join L []=L.flatten
 | []=>rfl
 | [x]=>by show oT [] [x]=_;simp[oT]
 | x::y::r=>by
  have ih:=EC (y::r);unfold Lib.join oT at ih ⊢;rw[List.intersperse_cons_cons,s6,s6,ih];rfl
theorem TP (k:Nat):P6 (m6 k 48)=0:=by
 unfold P6;rw[uN];intro d hd;obtain⟨c,hc,rfl⟩:=y7.1 hd;rw[(List.mem_replicate.1 hc).2];rfl
def Ix (m:Nat) (L:d8):Prop:=L.all k9=true/\aM L=true/\P6 L=m
def Iw (M m':Nat) (G:List d8):Prop:=(BO G).all k9=true/\(0 < m'->M=m'*10 ^ (9*G.length)+P6 (BO G)/\(BO G).length=9*G.length)/\(m'=0->0 < G.length/\Ix M (BO G)/\(BO G).length<=9*G.length)
theorem XO {M m':Nat} {G:List d8} (h:Iw M m' G) (h0:0 < m'):Iw M (m' / 1000000000) (G++[if 0 < m' / 1000000000 then m6 (9 - (Lib.decDigits (m' % 1000000000)).length) 48++Lib.decDigits (m' % 1000000000) else Lib.decDigits (m' % 1000000000)]):=by
 obtain⟨h1,h2,_⟩:=h;obtain⟨e1,e2⟩:=h2 h0;obtain⟨d1,d2,d3,d4,d5⟩:=bS (m' % 1000000000);have hlen:=d5 9 dc (A6 _ dc);have hdm:=sJ m' 1000000000;by_cases hq:0 < m' / 1000000000
 ·rw[if_pos hq];have hl:(m6 (9 - (Lib.decDigits (m' % 1000000000)).length) 48++Lib.decDigits (m' % 1000000000)).length=9:=by rw[d6,O1];omega
  refine⟨?_,λ_=>⟨?_,?_⟩,λh=>by omega⟩
  ·rw[aZ,sL,sL,d1,h1,CD,CD];exact s7.2 λc hc=>by rw[(List.mem_replicate.1 hc).2];rfl
  ·rw[aZ,aL,aL,TP,d2,d6,p7,e2,bV,w7,e1];have:10 ^ (9*(G.length+1))=1000000000*10 ^ (9*G.length):=by rw[B7,jR,m8]
   rw[this,<-A0,<-BZ,<-D2];congr 2
   omega
  ·rw[aZ,d6,hl,e2,d6,p7];omega
 ·rw[if_neg hq];have hm:m' % 1000000000=m':=C7 om;rw[hm];clear d1 d2 d3 d4 d5 hlen hdm;obtain⟨d1,d2,d3,d4,d5⟩:=bS m';have hlen:=d5 9 dc om;refine⟨?_,λh=>by omega,λ_=>⟨sQ,⟨?_,?_,?_⟩,?_⟩⟩
  ·rw[aZ,sL,d1,h1];rfl
  ·rw[aZ,sL,d1,h1];rfl
  ·rw[aZ];have:=d4 h0;unfold aM;rw[j4,Q3,decide_eq_true_eq,decide_eq_true_eq];refine⟨by rw[d6];omega,.inr ?_⟩;cases hd:Lib.decDigits m' with
   | nil=>rw[hd] at d3;cases d3
   | cons c r=>
    rw[hd] at this;show (!decide (c=48))=true
    have h48:c≠48:=this;rw[decide_eq_false h48];rfl
  ·rw[aZ,aL,d2,e2,e1]
  ·rw[aZ,d6,e2,d6,p7];omega
theorem RN {a:Option Addr} {n c m:Nat} (w:World) (by':Nat) (hM:cA (Hp.whole w) (.slice a n c) m) (h0:0 < by') (hb:by' < Bs) :
  j2 Tryz.prog 198 #[.slice a n c,.int .u32 by'] w (fQ w λv cs=>∃g a' n' c',cs = [.hp g]/\v=.tuple #[.slice a' n' c',.int .u32 ((m % by':Nat):Int)]/\cA g (.slice a' n' c') (m / by')):=by
 obtain⟨aa,nn,cc,L,e,hs,hc,hl⟩:=hM;cases e;have hcon:=zV w by' hs hc.l om h0 hb
 rw[hc.v] at hcon;refine⟨hcon.1,hcon.2.mono ?_⟩;rintro e w' ⟨v,cs,rfl,hk,g,a',n',c',L',rfl,rfl,hs',hc'⟩;exact⟨_,_,rfl,hk,g,a',n',c',rfl,rfl,⟨_,_,_,L',rfl,hs',hc',by have:=hc'.le_len hc (D0 m by');omega⟩⟩
set_option maxRecDepth 20000 in
set_option maxHeartbeats 2000000 in
theorem CI (g0:Bool) {a:Option Addr} {n c M:Nat} (w:World) (hM:cA (Hp.whole w) (.slice a n c) M) (hg0:g0=true->0 < M) (hm:M < 100000000000000000000) (hP:dY (Hp.whole w)) :
  j2 Tryz.prog 150 #[T8 g0 a n c] w (fQ w λv cs=>cs = []/\∃L,v=sv (if g0=true then 45::L else L)/\Ix M L/\L.length<=27):=by
 have hn0:=hM.len;unfold T8;refine enterZ (cx 49) [.agg #[.bool g0,.slice a n c]] [.tmp 2] Tryz.func150 ?_;intro b1;refine d9 (λh1=>?_) λh1=>?_
 ·have h1:M=0:=hn0.1 om;have hgf:g0=false:=by cases g0 with | false=>rfl | true=>exact absurd (hg0 rfl) om
  subst hgf;exact⟨[],⟨rfl,[48],rfl,⟨rfl,rfl,by rw[h1];rfl⟩,dc⟩,pk [0]⟩
 ·have hM0:0 < M:=E4 λe=>h1 (by have:=hn0.2 e;omega);refine z6.mkS (Dw.Os×List d8×(Option Addr×Nat×Nat)×Hp×Nat) (λg=>[(1,.bx 1 0),(3,.v g.1.v),(4,.v (.slice g.2.2.1.1 g.2.2.1.2.1 g.2.2.1.2.2))]) (λg=>[.hp (Hp.whole w),.box b1 [.bool g0,.slice a n c] 139,.hp g.1.h,.hp g.2.2.2.1])
   (λg=>w5 fS 9 1 g.1 g.2.1/\Nv (Hp.whole w) g.2.2.2.1 g.2.2.1 g.2.2.2.2/\Iw M g.2.2.2.2 g.2.1/\g.2.1.length<=3/\g.2.2.2.2*10 ^ (9*g.2.1.length)<=M) (λg=>g.2.2.2.2)
   (Os.nil,[],(a,n,c),Hp.emp,M) ⟨w5.nil _ _ _,λk l1 _=>hM.mono l1,⟨rfl,λ_=>⟨by show M=M*10 ^ 0+0;simp,rfl⟩,λh=>by dsimp only at h;omega⟩,j0 _,by show M*10 ^ 0<=M;simp⟩ (y6.mk (λ_ _ h=>(h.emp).emp.pick [0,1,2,3] rfl rfl) rfl rfl) ?_
  rintro⟨o,G,⟨a2,n2,c2⟩,gh,m'⟩ ⟨hO,hRd,hG,hGl,hle⟩ hsat;dsimp only at *;have hRd' :∀k,(Hp.whole w).le k->gh.le k->cA k (.slice a2 n2 c2) m':=hRd;have hl:=(hRd' ((Hp.whole w).join gh) (Hp.le_left _ _) (hsat.leR 0 3 rfl rfl)).len;clear hsat;have hm':m'<=M:=q9 (Nat.le_mul_of_pos_right m' (E4 λe=>by have:=Nat.pow_eq_zero.1 e;omega)) hle;refine d9 (λh2=>?_) λh2=>?_
  ·have h0:0 < m':=E4 λe=>by have:=hl.2 e;omega
   have hst:=XO hG h0;obtain⟨d1,d2,d3,d4,d5⟩:=bS (m' % 1000000000);have hlen:=d5 9 dc (A6 _ dc);have hrm:m' % 1000000000 < 1000000000:=A6 _ dc;have hG2:G.length<=2:=by
    refine j3 λg=>?_;have e3:G.length=3:=om
    rw[e3] at hle;have:1*10 ^ 27<=m'*10 ^ 27:=y9 _ h0;have e4:(10:Nat) ^ 27=1000000000000000000000000000:=dc
    rw[show 9*3=27 from rfl] at hle;omega
   have hle2:m' / 1000000000*10 ^ (9*(G.length+1))<=M:=by
    have e3:10 ^ (9*(G.length+1))=1000000000*10 ^ (9*G.length):=by rw[B7,jR,m8]
    rw[e3,<-A0];exact q9 (y9 _ (Nat.div_mul_le_self _ _)) hle
   have hlt:m' / 1000000000 < m':=Nat.div_lt_self h0 dc;refine EO (λw' hm=>RN w' 1000000000 (hRd' _ (hm 0 _ rfl).whole (hm 3 _ rfl).whole) dc dc) ?_;rintro _ _ ⟨g,a3,n3,c3,rfl,rfl,hM3⟩ _;have hl3:=hM3.len;obtain⟨r,hr⟩ :∃r,r=m' % 1000000000:=⟨_,rfl⟩
   obtain⟨m3,hm3⟩ :∃m3,m3=m' / 1000000000:=⟨_,rfl⟩
   rw[<-hr];rw[<-hr,<-hm3] at hst;rw[<-hm3] at hM3 hl3;rw[<-hr] at hlen d3 hrm;rw[<-hm3] at hle2 hlt;clear hr hm3;refine nwo ?_;refine k7 _ (λw' hm=>SS r om w' (hP.mono (hm 0 _ rfl).whole)) ?_;refine d9 (λh3=>?_) λh3=>?_;focus
    rw[if_pos (show 0 < m3 from E4 λe=>by have:=hl3.2 e;omega)] at hst;refine AK (y:=((9 - (Lib.decDigits r).length:Nat):Int)) (by rw[C8];omega) om om ?_;refine k7 _ (λw' hm=>FT (9 - (Lib.decDigits r).length) om w') ?_;refine gG (ty:=9) (by rw[O1];omega) ?_;intro b37;refine gZ (f:=fS) cQ (e:=9) rfl (i:=2) rfl hO (j:=5) (m6 (9 - (Lib.decDigits r).length) 48++Lib.decDigits r) rfl rfl rfl rfl om λo2 ho2=>?_
   rotate_left
   focus
    have h30:m3=0:=hl3.1 om;rw[if_neg om] at hst;intro b37;refine gZ (f:=fS) cQ (e:=9) rfl (i:=2) rfl hO (j:=5) (Lib.decDigits r) rfl rfl rfl rfl om λo2 ho2=>?_
   all_goals
    exact⟨(o2,_,(a3,n3,c3),g,m3),⟨ho2,λk _ l2=>hM3.mono l2,hst,by dsimp only;rw[d6,p7];omega,by dsimp only;rw[d6,p7];exact hle2⟩,hlt,y6.mk (pj [0,1,2,4]) rfl rfl⟩
  ·have hm0:m'=0:=hl.1 om;obtain⟨hG0,hD,hDl⟩:=hG.2.2 hm0;refine k6 (i:=2) rfl (λw0 w' hok=>xO w' (hok.mem 2 _ rfl) hO om) ?_;rintro _ h' _ ⟨rfl,rfl,hO2⟩;have ej:Lib.join G.reverse []=BO G:=EC _;refine k7 _ (λw' hm=>AV (o:=⟨o.a,o.n,o.c,h'⟩) w' [] (hm 2 _ rfl) hO2 (by rw[List.length_reverse];exact hG0) (by rw[List.length_reverse];omega) (by rw[ej];omega)) ?_;rw[ej];refine v7 (λhg=>?_) λhg=>?_
   ·subst hg;refine gG (a:=[45]) (ty:=9) (by simp only[d7,i6];omega) ?_;exact⟨[],⟨rfl,BO G,rfl,hD,om⟩,pk [0]⟩
   ·subst hg;exact⟨[],⟨rfl,BO G,rfl,hD,om⟩,pk [0]⟩
end Go.Proofs.YtpjhmeicbjkcdaaGreatDoor
namespace Go.Proofs.YtpjhmeicbjkcdaaGreatDoor
open Go Go.RowKit Go.Dw
theorem YO :∀(n:Nat) (L:d8),L.length=n->L.all k9=true->aM L=true->Lib.decDigits (P6 L)=L:=by
 intro n;induction n with
 | zero=>
  intro L hl _ hc;rw[F7] at hl;subst hl;cases hc
 | succ n ih=>
  intro L hl hd hc;obtain⟨A,c,rfl⟩ :∃A c,L=A++[c]:=⟨L.dropLast,L.getLast (by intro e;rw[e] at hl;cases hl),(List.dropLast_concat_getLast _).symm⟩
  rw[d6] at hl;have hl:A.length=n:=by simpa using hl
  rw[sL,j4] at hd;have hcd:k9 c=true:=by simpa using hd.2
  unfold k9 at hcd;rw[j4,decide_eq_true_eq,decide_eq_true_eq] at hcd;have e48:(48:UInt8).toNat=48:=rfl;have hv:P6 [c]=c.toNat - 48:=by show 10*0+(c.toNat - 48)=_;omega
  have hof:UInt8.ofNat (48+(c.toNat - 48))=c:=by
   rw[show 48+(c.toNat - 48)=c.toNat by omega];exact UInt8.ofNat_toNat
  rw[aL,hv];show Lib.decDigits (P6 A*10 ^ 1+_)=_
  rw[Nat.pow_one];cases A with
  | nil=>
   show Lib.decDigits (0*10+_)=_
   rw[bV,w7,Lib.decDigits_one om,hof];rfl
  | cons a A=>
   have h0:a≠48:=by
    unfold aM at hc;rw[j4,Q3,decide_eq_true_eq,decide_eq_true_eq] at hc;rcases hc.2 with h | h
    ·rw[d6] at h;simp at h
    ·intro e;subst e;cases h
   have hp:0 < P6 (a::A):=QO hd.1 sQ h0;have hcA:aM (a::A)=true:=by
    unfold aM;rw[j4,Q3,decide_eq_true_eq];refine⟨sQ,.inr ?_⟩;show (!decide (a=48))=true
    rw[decide_eq_false h0];rfl
   rw[KW om,show (P6 (a::A)*10+(c.toNat - 48)) / 10=P6 (a::A) by omega,show (P6 (a::A)*10+(c.toNat - 48)) % 10=c.toNat - 48 by omega,ih _ hl hd.1 hcA,hof]
theorem Dl {M:Nat} {L:d8} (h:Ix M L):L=Lib.decDigits M:=by rw[<-h.2.2];exact (YO _ L rfl h.1 h.2.1).symm
theorem qZ {z:Int} {a:Option Addr} {n c:Nat} (w:World) (hM:cA (Hp.whole w) (.slice a n c) z.natAbs) (hm:z.natAbs < 100000000000000000000) (hP:dY (Hp.whole w)) :
  j2 Tryz.prog 150 #[T8 (decide (z < 0)) a n c] w (v8 w (sv (zT z))):=by
 have h:=CI (decide (z < 0)) w hM (λg=>by have:=of_decide_eq_true g;omega) hm hP;refine⟨h.1,h.2.mono ?_⟩;rintro e w' ⟨v,cs,rfl,hok,rfl,L,rfl,hL,_⟩;refine⟨_,[],rfl,hok,?_,rfl⟩;rw[Dl hL];unfold zT;by_cases g:z < 0
 ·rw[decide_eq_true g,if_pos rfl,if_pos g]
 ·rw[decide_eq_false g,if_neg dc,if_neg g]
theorem Dt {L:List Nat} {x:Nat} (h:fX L x):LV L=L/\trN L=L.length:=by
 have h1:=U7 h.l;rw[h.v] at h1;have e:=h1.uniq h;exact⟨e,by rw[<-iH,e]⟩
theorem tH (neg:Bool) {a:Option Addr} {n c x:Nat} (w:World) (hM:cA (Hp.whole w) (.slice a n c) x):j2 Tryz.prog 197 #[.bool neg,.slice a n c] w (v8 w (T8 (neg && decide (0 < x)) a n c)):=by
 obtain⟨_,_,_,L,e,hs,hc,hl⟩:=hM;cases e;have h:=aU neg w hs om;have e2:=(Dt hc).2;rw[e2,<-hs.len] at h;have e3:decide (0 < n)=decide (0 < x):=by
  rw[decide_eq_decide,hs.len];have:=hc.zero;rw[<-F7] at this;omega
 rw[e3] at h;exact h
set_option maxRecDepth 10000 in
theorem uM {g1 g2:Bool} {a1 a2:Option Addr} {n1 c1 n2 c2 x y:Nat} (w:World) (ha:cA (Hp.whole w) (.slice a1 n1 c1) x) (hb:cA (Hp.whole w) (.slice a2 n2 c2) y) (hy:0 < y) (hd:x % y=0) :
  j2 Tryz.prog 196 #[T8 g1 a1 n1 c1,T8 g2 a2 n2 c2] w (fQ w λv cs=>∃g a n c rv,cs = [.hp g]/\v=.tuple #[T8 ((!(g1==g2)) && decide (0 < x / y)) a n c,rv,iQ 0]/\cA g (.slice a n c) (x / y)):=by
 unfold T8;refine enterZ (cx 51) [.agg #[.bool g1,.slice a1 n1 c1],.agg #[.bool g2,.slice a2 n2 c2]] [.cell 4 139,.cell 5 139,.tmp 6] Tryz.func196 ?_;intro b2 b3 b4 b5;refine m9 (λ_ kz=>kz _ _ ?_);refine nQ [.hp (Hp.whole w),.box b2 [.bool g1,.slice a1 n1 c1] 139,.box b3 [.bool g2,.slice a2 n2 c2] 139,.box b4 [.bool false,zl] 139,.box b5 [.bool false,zl] 139] λq' hq'=>?_;refine k7 _ (λw' hm=>by
  have h:=cG (neg:=g2) w' (hb.mono (hm 0 _ rfl).whole);rw[if_neg (show y≠0 by omega)] at h;exact h) ?_
 apply hq';refine K9 (by rfl) (λh1=>absurd (of_decide_eq_true h1) (by cases g2 <;> decide)) λ_=>?_;refine nQ [.hp (Hp.whole w),.box b2 [.bool g1,.slice a1 n1 c1] 139,.box b3 [.bool g2,.slice a2 n2 c2] 139,.box b4 [.bool false,zl] 139,.box b5 [.bool false,zl] 139] λq' hq'=>?_;refine call (λw' hm=>xF w' (ha.mono (hm 0 _ rfl).whole) (hb.mono (hm 0 _ rfl).whole) hy) ?_;rintro _ _ ⟨gd,vq,vr,rfl,rfl,hq,hr⟩;obtain⟨aq,nq,cq,Lq,rfl,sq,cq9,lq⟩:=hq;have hq:cA gd (.slice aq nq cq) (x / y):=⟨aq,nq,cq,Lq,rfl,sq,cq9,lq⟩
 obtain⟨ar,nr,cr,rfl,hR⟩ :∃a n c,vr=.slice a n c/\∀W,(Hp.whole w).le W->gd.le W->cA W (.slice a n c) 0:=by
  rcases hr with ⟨rfl,h⟩ | h
  ·refine⟨a1,n1,c1,rfl,λW l1 _=>?_⟩;have e:x=0:=by rw[C7 h] at hd;exact hd
   rw[e] at ha;exact ha.mono l1
  ·obtain⟨ar,nr,cr,Lr,rfl,h2⟩:=h;rw[hd] at h2;exact⟨ar,nr,cr,rfl,λW _ l2=>cA.mono l2 ⟨ar,nr,cr,Lr,rfl,h2⟩⟩
 clear hr;apply hq';refine u6.cut Unit (λ_=>[(2,.bx 1 0),(3,.bx 2 0),(4,.bx 3 0),(5,.bx 4 0)]) (λ_=>[.hp (Hp.whole w),.box b2 [.bool g1,.slice a1 n1 c1] 139,.box b3 [.bool g2,.slice a2 n2 c2] 139,.box b4 [.bool ((!(g1==g2)) && decide (0 < x / y)),.slice aq nq cq] 139,.box b5 [.bool false,.slice ar nr cr] 139,.hp gd]) (λ_=>True) (u6.by_order0 (s0:=[.hp (Hp.whole w),.box b2 [.bool g1,.slice a1 n1 c1] 139,.box b3 [.bool g2,.slice a2 n2 c2] 139,.hp Hp.emp,.hp Hp.emp,.hp gd]) cQ (.take 0 <| .take 1 <| .take 2 <| .take 3 <| .take 4 <| .take 5 <| .take 7 <| .take 8 <| .take 9 <| .run 6 <| .run 10 <| .run 11 <| .run 12 <| .done) kr (sK) ?_) ?_
 ·refine Gs ?_;refine k7 _ (λw' hm=>tH (!(g1==g2)) w' (hq.mono (hm 5 _ rfl).whole)) ?_;refine⟨sK,?_⟩;refine k7 _ (λw' hm=>by
   have h:=tH g1 w' (hR _ (hm 0 _ rfl).whole (hm 5 _ rfl).whole);rw[show decide (0 < 0)=false from rfl,Bool.and_false] at h;exact h) ?_
  (iterate 2 refine⟨sK,?_⟩);exact⟨(),trivial,y6.mk (pj [0,1,2,3,4,5]) rfl rfl⟩
 intro _ _ _;dsimp only;refine nQ [.hp (Hp.whole w),.box b2 [.bool g1,.slice a1 n1 c1] 139,.box b3 [.bool g2,.slice a2 n2 c2] 139,.box b4 [.bool ((!(g1==g2)) && decide (0 < x / y)),.slice aq nq cq] 139,.box b5 [.bool false,.slice ar nr cr] 139,.hp gd] λq' hq'=>?_;refine k7 _ (λw' hm=>by
  have h:=cG (neg:=false) w' (hR _ (hm 0 _ rfl).whole (hm 5 _ rfl).whole);rw[if_pos rfl] at h;exact h) ?_
 apply hq';refine dU rfl ?_;refine u6.cut Unit (λ_=>[(4,.bx 3 0),(5,.bx 4 0),(6,.v (iQ 0))]) (λ_=>[.hp (Hp.whole w),.box b2 [.bool g1,.slice a1 n1 c1] 139,.box b3 [.bool g2,.slice a2 n2 c2] 139,.box b4 [.bool ((!(g1==g2)) && decide (0 < x / y)),.slice aq nq cq] 139,.box b5 [.bool false,.slice ar nr cr] 139,.hp gd]) (λ_=>True) (u6.by_order cQ (.take 0 <| .take 1 <| .run 2 <| .run 3 <| .run 4 <| .done) kr ?_) ?_
 ·first
  | exact⟨sK,sK,sK,(),trivial,y6.mk (pj [0,1,2,3,4,5]) rfl rfl⟩
  | exact⟨sK,sK,(),trivial,y6.mk (pj [0,1,2,3,4,5]) rfl rfl⟩
  | exact⟨sK,(),trivial,y6.mk (pj [0,1,2,3,4,5]) rfl rfl⟩
  | exact⟨(),trivial,y6.mk (pj [0,1,2,3,4,5]) rfl rfl⟩
 intro _ _ _;exact⟨[.hp gd],⟨gd,aq,nq,cq,_,rfl,rfl,hq⟩,pk [0,5]⟩
theorem gcd_div {x y:Nat} (hy:0 < y):0 < G8 x y/\x % G8 x y=0/\y % G8 x y=0:=
 ⟨iD _ hy,Nat.mod_eq_zero_of_dvd (CX _ _),Nat.mod_eq_zero_of_dvd (Nat.gcd_dvd_right _ _)⟩
set_option maxRecDepth 10000 in
theorem FV {g1:Bool} {a1 a2:Option Addr} {n1 c1 n2 c2 x y:Nat} {h1 h2:Hp} (w:World) (hin1:h1.In w) (hin2:h2.In w) (ha:cA h1 (.slice a1 n1 c1) x) (hb:cA h2 (.slice a2 n2 c2) y) (hy:0 < y) (hg:g1=true->0 < x) :
  j2 Tryz.prog 145 #[T8 g1 a1 n1 c1,T8 false a2 n2 c2] w (fQ w λv cs=>∃g b1 k1 e1 b2 k2 e2,cs = [.hp g]/\v=cI g1 b1 k1 e1 false b2 k2 e2/\∀W,h1.le W->h2.le W->g.le W->cA W (.slice b1 k1 e1) (x / G8 x y)/\cA W (.slice b2 k2 e2) (y / G8 x y)):=by
 have hW1:h1.le (Hp.whole w):=hin1.whole;have hW2:h2.le (Hp.whole w):=hin2.whole;obtain⟨q1,q2,q3⟩:=gcd_div (x:=x) hy;have hxd:decide (0 < x / G8 x y)=decide (0 < x):=by
  rw[decide_eq_decide];refine⟨λh=>?_,λh=>Nat.div_pos (UV h (CX _ _)) q1⟩;refine E4 λe=>?_;rw[e,Nat.zero_div] at h;omega
 obtain⟨G,hGd⟩ :∃G,G=G8 x y:=⟨_,rfl⟩
 rw[<-hGd] at q1 q2 q3 hxd ⊢;unfold T8;refine enterZ (cx 37) [.agg #[.bool g1,.slice a1 n1 c1],.agg #[.bool false,.slice a2 n2 c2]] [.cell 4 141] Tryz.func145 ?_;intro b2 b3 b4;refine m9 (λ_ kz=>kz _ _ ?_);refine nQ [.hp (Hp.whole w),.box b2 [.bool g1,.slice a1 n1 c1] 139,.box b3 [.bool false,.slice a2 n2 c2] 139,.box b4 [.bool false,zl,.bool false,zl] 141] λq' hq'=>?_;refine k7 _ (λw' hm=>by
  have h:=cG (neg:=false) w' ((hb.mono hW2).mono (hm 0 _ rfl).whole);rw[if_neg (show y≠0 by omega),if_neg dc] at h;exact h) ?_
 apply hq';refine dU rfl ?_;refine nQ [.hp (Hp.whole w),.box b2 [.bool g1,.slice a1 n1 c1] 139,.box b3 [.bool false,.slice a2 n2 c2] 139,.box b4 [.bool false,zl,.bool false,zl] 141] λq' hq'=>?_;refine call (λw' hm=>KI w' (hm 0 _ rfl) (ha.mono hW1) (hb.mono hW2)) ?_;rintro _ _ ⟨gg,a5,n5,c5,rfl,rfl,hG⟩;rw[<-hGd] at hG;intro b5;apply hq';refine u6.cut Unit (λ_=>[(2,.bx 1 0),(3,.bx 2 0),(4,.bx 3 0),(5,.bx 5 0),(19,.v (.bool (decide (jB (aE false G) (aE false 1)≠0))))]) (λ_=>[.hp (Hp.whole w),.box b2 [.bool g1,.slice a1 n1 c1] 139,.box b3 [.bool false,.slice a2 n2 c2] 139,.box b4 [.bool false,zl,.bool false,zl] 141,.hp gg,.box b5 [.bool false,.slice a5 n5 c5] 139]) (λ_=>True) (u6.by_order cQ (.take 0 <| .run 1 <| .run 2 <| .take 3 <| .done) kr ?_) ?_
 ·refine call (λw' hm=>tX w') ?_;rintro _ _ ⟨g6,a6,n6,c6,rfl,rfl,h6⟩;refine⟨sK,?_⟩;refine k7 _ (λw' hm=>dA w' (hG _ (hm 0 _ rfl).whole (hm 4 _ rfl).whole) (h6.mono (hm 6 _ rfl).whole) nofun nofun) ?_;refine⟨sK,?_⟩;exact⟨(),trivial,y6.mk (pj [0,1,2,3,4,5]) rfl rfl⟩
 intro _ _ _;dsimp only;refine K9 (by rfl) (λh1=>?_) λh1=>?_
 ·refine nQ [.hp (Hp.whole w),.box b2 [.bool g1,.slice a1 n1 c1] 139,.box b3 [.bool false,.slice a2 n2 c2] 139,.box b4 [.bool false,zl,.bool false,zl] 141,.hp gg,.box b5 [.bool false,.slice a5 n5 c5] 139] λq' hq'=>?_;refine call (λw' hm=>uM (g1:=g1) (g2:=false) w' ((ha.mono hW1).mono (hm 0 _ rfl).whole) (hG _ (hm 0 _ rfl).whole (hm 4 _ rfl).whole) q1 q2) ?_;rintro _ _ ⟨g7,a7,n7,c7,r7,rfl,rfl,h7⟩;have e7:((!(g1==false)) && decide (0 < x / G))=g1:=by
   rw[hxd];cases g1 with
   | false=>rfl
   | true=>rw[decide_eq_true (hg rfl)];rfl
  rw[e7];apply hq';refine nQ [.hp (Hp.whole w),.box b2 [.bool g1,.slice a7 n7 c7] 139,.box b3 [.bool false,.slice a2 n2 c2] 139,.box b4 [.bool false,zl,.bool false,zl] 141,.hp gg,.box b5 [.bool false,.slice a5 n5 c5] 139,.hp g7] λq' hq'=>?_;refine EO (λw' hm=>uM (g1:=false) (g2:=false) w' ((hb.mono hW2).mono (hm 0 _ rfl).whole) (hG _ (hm 0 _ rfl).whole (hm 4 _ rfl).whole) q1 q3) ?_;rintro _ _ ⟨g8,a8,n8,c8,r8,rfl,rfl,h8⟩ hsat;have hdj:g7.dj g8:=by
   obtain⟨w0,w1,hok⟩:=hsat;exact hok.disj 6 7 _ _ dc rfl rfl
  rw[show ((!(false==false)) && decide (0 < y / G))=false from rfl];apply hq';refine nQ [.hp (Hp.whole w),.box b2 [.bool g1,.slice a7 n7 c7] 139,.box b3 [.bool false,.slice a8 n8 c8] 139,.box b4 [.bool false,zl,.bool false,zl] 141,.hp gg,.box b5 [.bool false,.slice a5 n5 c5] 139,.hp g7,.hp g8] λq' hq'=>?_;apply hq';exact⟨[.hp (g7.join g8)],⟨_,_,_,_,_,_,_,rfl,rfl,λW _ _ l2=>⟨h7.mono ((Hp.le_join_l _ _).trans l2),h8.mono ((Hp.le_join_r hdj).trans l2)⟩⟩,λw' h=>(Ok.join (h.pick [0,6,7] rfl rfl)).pick [0,1] rfl rfl⟩
 ·have hG1:G=1:=by
   have h2 : ¬ jB (aE false G) (aE false 1)≠0:=of_decide_eq_false h1;rw[GQ,GQ] at h2;refine j3 λc=>h2 ?_;unfold jB;split
   ·decide
   ·split
    ·decide
    ·omega
  refine m9 λq' hq'=>?_;apply hq';refine⟨[.hp Hp.emp],⟨_,_,_,_,_,_,_,rfl,rfl,λW l1 l2 _=>?_⟩,λw' h=>(h.pick [0] rfl rfl).emp⟩;rw[hG1,Nat.div_one,Nat.div_one];exact⟨ha.mono l1,hb.mono l2⟩
end Go.Proofs.YtpjhmeicbjkcdaaGreatDoor
namespace Go.Proofs.YtpjhmeicbjkcdaaGreatDoor
open Go Go.RowKit Go.Dw
theorem Hx {a:Int} {g:Nat} (hg:0 < g) (hd:g∣a.natAbs):(a / (g:Int)).natAbs=a.natAbs / g/\(a / (g:Int) < 0↔a < 0):=by
 obtain⟨c,hc⟩:=hd;have h2:a=(g:Int)*c\/a=(g:Int) * -(c:Int):=by
  rcases Int.natAbs_eq a with h | h
  ·left;rw[h,hc];push_cast;rfl
  ·right;rw[h,hc];push_cast;rw[Int.mul_neg]
 rw[hc,Po _ hg];have hg':(0:Int) < g:=om
 rcases h2 with h2 | h2
 ·rw[h2,Pm _ om];refine⟨om,⟨λh=>by omega,λh=>?_⟩⟩;have:(0:Int)<=(g:Int)*c:=Int.mul_nonneg om om;omega
 ·rw[h2,Pm _ om];refine⟨om,⟨λh=>?_,λh=>?_⟩⟩
  ·rw[Int.mul_neg];have:(0:Int) < (g:Int)*c:=Int.mul_pos hg' om;omega
  ·rcases u9 c with e | e
   ·subst e;simp at h
   ·omega
theorem S5 (x:Int) (hx1 : -9223372036854775808<=x) (hx2:x<=9223372036854775807) (w:World) :
  j2 Tryz.prog 71 #[iQ x] w (fQ w λv cs=>∃g a n c,cs = [.hp g]/\v=cI (decide (x < 0)) a n c false none 0 0/\qO g a n c x.natAbs):=by
 refine enterZ (cx 6) [iQ x] [.cell 2 141] Tryz.func71 ?_;intro b2;refine call (λw' hm=>vN x hx1 hx2 w') ?_;rintro _ _ ⟨g,a,n,c,L,rfl,rfl,hs,hc⟩;have hM:qO g a n c x.natAbs:=GL (h:=g) (m:=19) ⟨a,n,c,L,rfl,hs,hc,by
  refine Nat.le_of_not_lt λh=>?_;have h1:=hc.ge om;have h2:Bs ^ 2<=Bs ^ (L.length - 1):=E9 (by unfold Bs;omega) om;unfold Bs at *;omega⟩ om dc
 exact⟨[.hp g],⟨g,a,n,c,rfl,rfl,hM⟩,pk [0,2]⟩
theorem BV {n1:Bool} {a1 a2:Option Addr} {k1 c1 k2 c2 x:Nat} (w:World) (hM:cA (Hp.whole w) (.slice a1 k1 c1) x) :
  j2 Tryz.prog 144 #[cI n1 a1 k1 c1 false a2 k2 c2] w (v8 w (iQ (if x=0 then 0 else if n1=true then -1 else 1))):=by
 unfold cI;refine enterZ (cx 6) [.agg #[.bool n1,.slice a1 k1 c1,.bool false,.slice a2 k2 c2]] [.tmp 2] Tryz.func144 ?_;intro b1;refine k7 _ (λw' hm=>cG w' (hM.mono (hm 0 _ rfl).whole)) ?_;exact⟨[],⟨rfl,rfl⟩,pk [0]⟩
theorem uU {z:Int} {m:Nat} {a1 a2:Option Addr} {k1 c1 k2 c2:Nat} (w:World) (h1:cA (Hp.whole w) (.slice a1 k1 c1) z.natAbs) (h2:cA (Hp.whole w) (.slice a2 k2 c2) m) (hz:z.natAbs < 100000000000000000000) (hm:m < 100000000000000000000) (hP:dY (Hp.whole w)) :
  j2 Tryz.prog 72 #[cI (decide (z < 0)) a1 k1 c1 false a2 k2 c2] w (v8 w (sv (if m=0\/m=1 then zT z else zT z++47::Lib.decDigits m))):=by
 have hzl:=mW (z:=z) (k:=20) dc hz;have hml:=yS (k:=20) (n:=m) dc hm;have hden:=λ(w':World) (hl:(Hp.whole w).le (Hp.whole w'))=>qZ (z:=(m:Int)) w' (a:=a2) (n:=k2) (c:=c2) (by rw[Int.natAbs_natCast];exact h2.mono hl) om (hP.mono hl);have ez:zT (m:Int)=Lib.decDigits m:=by unfold zT;rw[if_neg om,Int.natAbs_natCast]
 have en:decide ((m:Int) < 0)=false:=decide_eq_false om;rw[ez,en] at hden;unfold cI;refine enterZ (cx 16) [.agg #[.bool (decide (z < 0)),.slice a1 k1 c1,.bool false,.slice a2 k2 c2]] [.tmp 2] Tryz.func72 ?_;intro b1;refine m9 (λ_ kz=>kz _ _ ?_);refine m9 λq' hq'=>?_;refine k7 _ (λw' hm=>by
  have:=sT (n1:=decide (z < 0)) (a1:=a1) (k1:=k1) (c1:=c1) w' (h2.mono (hm 0 _ rfl).whole);unfold cI at this;exact this) ?_
 apply hq';refine K9 (by rfl) (λg=>?_) λg=>?_
 ·rw[if_pos (of_decide_eq_true g)];refine k7 _ (λw' hm=>qZ w' (h1.mono (hm 0 _ rfl).whole) hz (hP.mono (hm 0 _ rfl).whole)) ?_;exact⟨[],⟨rfl,rfl⟩,pk [0]⟩
 ·rw[if_neg (of_decide_eq_false g)];refine u6.cut Unit (λ_=>[(2,.v (sv (zT z++47::Lib.decDigits m)))]) (λ_=>[.hp (Hp.whole w)]) (λ_=>True) (u6.by_order cQ (.take 0 <| .take 1 <| .take 4 <| .take 5 <| .run 2 <| .take 3 <| .run 6 <| .take 7 <| .take 8 <| .done) kr ?_) ?_
  ·refine k7 _ (λw' hm=>qZ w' (h1.mono (hm 0 _ rfl).whole) hz (hP.mono (hm 0 _ rfl).whole)) ?_;refine⟨sK,?_⟩;refine gG (ty:=9) (a:=zT z) (b:=[47]) (by simp only[d7,i6];omega) ?_;refine k7 _ (λw' hm=>hden w' (hm 0 _ rfl).whole) ?_;refine⟨sK,?_⟩;refine gG (ty:=9) (a:=zT z++[47]) (b:=Lib.decDigits m) (by simp only[d6,d7,i6];omega) ?_;refine⟨(),trivial,y6.mk (pj [0]) ?_ rfl⟩;rw[f8];rfl
  intro _ _ _;exact⟨[],⟨rfl,rfl⟩,pk [0]⟩
theorem AQ (h:Hp):qO h none 0 0 0:=⟨[],Sl.nil _ _ _ _ _,fX.nil,dc⟩
set_option maxRecDepth 10000 in
theorem pW {z:Int} {m:Nat} {a1 a2:Option Addr} {n1 c1 n2 c2:Nat} (w:World) (h1:qO (Hp.whole w) a1 n1 c1 z.natAbs) (h2:qO (Hp.whole w) a2 n2 c2 m) (hm:0 < m) :
  j2 Tryz.prog 70 #[cI (decide (z < 0)) a1 n1 c1 false none 0 0,cI false a2 n2 c2 false none 0 0] w (fQ w λv cs=>∃g b1 k1 e1 b2 k2 e2,cs = [.hp g]/\v=.tuple #[cI (decide (z < 0)) b1 k1 e1 false b2 k2 e2,iQ 0]/\cA g (.slice b1 k1 e1) (z.natAbs / G8 z.natAbs m)/\cA g (.slice b2 k2 e2) (m / G8 z.natAbs m)):=by
 unfold cI;refine enterZ (cx 21) [.agg #[.bool (decide (z < 0)),.slice a1 n1 c1,.bool false,zl],.agg #[.bool false,.slice a2 n2 c2,.bool false,zl]] [.cell 4 141,.tmp 5] Tryz.func70 ?_;intro b2 b3 b4;refine m9 (λ_ kz=>kz _ _ ?_);refine nQ [.hp (Hp.whole w),.box b2 [.bool (decide (z < 0)),.slice a1 n1 c1,.bool false,zl] 141,.box b3 [.bool false,.slice a2 n2 c2,.bool false,zl] 141,.box b4 [.bool false,zl,.bool false,zl] 141] λq' hq'=>?_;refine k7 _ (λw' hm2=>by
  have h:=BV (n1:=false) (a2:=none) (k2:=0) (c2:=0) w' (h2.mag.mono (hm2 0 _ rfl).whole);rw[if_neg (show m≠0 by omega),if_neg dc] at h;unfold cI at h;exact h) ?_
 apply hq';refine dU rfl ?_;refine u6.cut (Hp×Hp×Hp×Hp×Hp×(Option Addr×Nat×Nat)×(Option Addr×Nat×Nat)) (λg=>[(4,.bx 3 0),(5,.v (iQ 0))]) (λg=>[.hp (Hp.whole w),.box b2 [.bool (decide (z < 0)),.slice a1 n1 c1,.bool false,zl] 141,.box b3 [.bool false,.slice a2 n2 c2,.bool false,zl] 141,.box b4 [.bool (decide (z < 0)),.slice g.2.2.2.2.2.1.1 g.2.2.2.2.2.1.2.1 g.2.2.2.2.2.1.2.2,.bool false,.slice g.2.2.2.2.2.2.1 g.2.2.2.2.2.2.2.1 g.2.2.2.2.2.2.2.2] 141,.hp g.1,.hp g.2.1,.hp g.2.2.1,.hp g.2.2.2.1,.hp g.2.2.2.2.1])
  (λg=>∀W,g.2.1.le W->g.2.2.2.1.le W->g.2.2.2.2.1.le W->cA W (.slice g.2.2.2.2.2.1.1 g.2.2.2.2.2.1.2.1 g.2.2.2.2.2.1.2.2) (z.natAbs / G8 z.natAbs m)/\cA W (.slice g.2.2.2.2.2.2.1 g.2.2.2.2.2.2.2.1 g.2.2.2.2.2.2.2.2) (m / G8 z.natAbs m)) (u6.by_order0 (s0:=[.hp (Hp.whole w),.box b2 [.bool (decide (z < 0)),.slice a1 n1 c1,.bool false,zl] 141,.box b3 [.bool false,.slice a2 n2 c2,.bool false,zl] 141,.hp Hp.emp]) cQ (.take 0 <| .take 1 <| .take 2 <| .take 5 <| .take 7 <| .take 8 <| .run 3 <| .run 4 <| .run 6 <| .run 9 <| .run 10 <| .run 11 <| .run 12 <| .done) kr (sK) ?_) ?_
 ·refine call (λw' hm2=>by
   have h:=vB (h0:=Hp.whole w) (n1:=false) (x:=m) (y:=0) w' (hm2 0 _ rfl) ⟨h2,AQ _,nofun⟩;unfold cI at h;exact h) ?_
  rintro _ _ ⟨g1,p1,q1,r1,rfl,rfl,hd1⟩;refine⟨sK,?_⟩;obtain⟨Lz,sz,cz,lz⟩:=h1;refine call (λw' hm2=>by
   obtain⟨Ld,sd,cd,ld⟩:=hd1 (Hp.whole w') (hm2 0 _ rfl).whole (hm2 4 _ rfl).whole;exact uX (g1:=decide (z < 0)) (g2:=false) w' (sz.mono (j7 _) (hm2 0 _ rfl).whole) sd cz cd lz ld) ?_
  rintro _ _ ⟨g2,p2,q2,r2,rfl,rfl,hd2⟩;rw[show ((!(decide (z < 0)==false)) && decide (0 < z.natAbs*jL 0))=decide (z < 0) by
   by_cases g:z < 0
   ·rw[decide_eq_true g,decide_eq_true (show 0 < z.natAbs*jL 0 by rw[show jL 0=1 from rfl];omega)];rfl
   ·rw[decide_eq_false g];rfl]
  refine⟨sK,?_⟩;refine call (λw' hm2=>by
   have h:=vB (h0:=Hp.whole w) (n1:=decide (z < 0)) (x:=z.natAbs) (y:=0) w' (hm2 0 _ rfl) ⟨⟨Lz,sz,cz,lz⟩,AQ _,λg=>by have:=of_decide_eq_true g;omega⟩;unfold cI at h;exact h) ?_
  rintro _ _ ⟨g3,p3,q3,r3,rfl,rfl,hd3⟩;refine⟨sK,?_⟩;obtain⟨Lm,sm,cm,lm⟩:=h2;refine call (λw' hm2=>by
   obtain⟨Ld,sd,cd,ld⟩:=hd3 (Hp.whole w') (hm2 0 _ rfl).whole (hm2 6 _ rfl).whole;exact uX (g1:=false) (g2:=false) w' sd (sm.mono (j7 _) (hm2 0 _ rfl).whole) cd cm ld lm) ?_
  rintro _ _ ⟨g4,p4,q4,r4,rfl,rfl,hd4⟩;refine⟨sK,?_⟩;rw[show ((!(false==false)) && decide (0 < jL 0*m))=false from rfl];have eD:jL 0=1:=rfl;rw[eD,D7] at hd2;rw[eD,O8] at hd4;refine call (λw' hm2=>FV (g1:=decide (z < 0)) w' (hm2 5 _ rfl) (hm2 7 _ rfl) hd2 hd4 hm (λg=>by have:=of_decide_eq_true g;omega)) ?_;rintro _ _ ⟨g5,b1,k1,e1,b2',k2,e2,rfl,rfl,hd5⟩;refine⟨sK,?_⟩;first
  | exact⟨sK,sK,(g1,g2,g3,g4,g5,(b1,k1,e1),(b2',k2,e2)),λW l1 l2 l3=>hd5 W l1 l2 l3,y6.mk (pj [0,1,2,3,4,5,6,7,8]) rfl rfl⟩
  | exact⟨sK,(g1,g2,g3,g4,g5,(b1,k1,e1),(b2',k2,e2)),λW l1 l2 l3=>hd5 W l1 l2 l3,y6.mk (pj [0,1,2,3,4,5,6,7,8]) rfl rfl⟩
  | exact⟨(g1,g2,g3,g4,g5,(b1,k1,e1),(b2',k2,e2)),λW l1 l2 l3=>hd5 W l1 l2 l3,y6.mk (pj [0,1,2,3,4,5,6,7,8]) rfl rfl⟩
 rintro⟨g1,g2,g3,g4,g5,⟨b1,k1,e1⟩,⟨b2',k2,e2⟩⟩ hM hsat;dsimp only at hM ⊢;have hdl:RB [.hp g2,.hp g4,.hp g5]:=by
  obtain⟨w0,w1,hok⟩:=hsat;exact (hok.pick [0,5,7,8] rfl rfl).djL
 exact⟨[.hp (joinL [.hp g2,.hp g4,.hp g5])],⟨_,b1,k1,e1,b2',k2,e2,rfl,rfl,hM _ (H0 hdl (i:=0) rfl) (H0 hdl (i:=1) rfl) (H0 hdl (i:=2) rfl)⟩,λw' h=>(h.pick [0,5,7,8] rfl rfl).joinL⟩
end Go.Proofs.YtpjhmeicbjkcdaaGreatDoor
namespace Go.Dw
open Go Go.RowKit
theorem wN {P:Program} {ops:Array Oper} {Q:Exit->Act->World->Prop} {md:Region.Mode} {S S':World->Prop} {N:Nat->Prop} (hS :∀w,S w->S' w) :∀(fuel:Nat) (listed:Array Bool) (a:Act) (w:World),W6 P md ops Q S N fuel listed a w->W6 P md ops Q S' N fuel listed a w
 | 0,_,_,_,h=>h
 | fuel+1,_,_,_,h=>⟨h.1,λi hi=>wpOp_mono (λa' w' h'=>⟨λhn=>hS _ (h'.1 hn),wN hS fuel _ a' w' h'.2⟩) (h.2 i hi)⟩
theorem Bw {s0 s:List Ch} (hs:W9 s0 s) {w:World} (h:iE s w):iE s0 w:=λi c e=>by
 rcases T0 hs i c e with h' | rfl
 ·exact h i c h'
 ·exact Hp.emp_in _
inductive DU where
 | done
 | take (i:Nat) (k:DU)
 | run (i:Nat) (k:DU)
 | two (i:Nat) (k:DU) (j:Nat) (k':DU)
 | three (i:Nat) (k:DU) (j:Nat) (k':DU) (l:Nat) (k'':DU)
 | reb (k:DU)
def DU.takes:DU->List Nat
 | .done=>[]
 | .take i k=>i::k.takes
 | .run _ k=>k.takes
 | .two _ k _ k'=>k.takes++k'.takes
 | .three _ k _ k' _ k''=>k.takes++k'.takes++k''.takes
 | .reb k=>k.takes
def DU.steps:DU->Nat
 | .done=>0
 | .take _ k=>k.steps+1
 | .run _ k=>k.steps+1
 | .two _ k _ k'=>uW k.steps k'.steps+1
 | .three _ k _ k' _ k''=>uW (uW k.steps k'.steps) k''.steps+1
 | .reb k=>k.steps
def DU.ok (ops:Array Oper):DU->Array Bool->Bool
 | .done,l=>(Region.ready .any ops l).isEmpty
 | .take i k,l=>(Region.ready .any ops l).contains i && Region.free .any ops l i && k.ok ops (l.setIfInBounds i true)
 | .run i k,l=>decide (Region.ready .any ops l = [i]) && k.ok ops (l.setIfInBounds i true)
 | .two i k j k',l=>decide (Region.ready .any ops l = [i,j]) && k.ok ops (l.setIfInBounds i true) && k'.ok ops (l.setIfInBounds j true)
 | .three i k j k' m k'',l=>decide (Region.ready .any ops l = [i,j,m]) && k.ok ops (l.setIfInBounds i true) && k'.ok ops (l.setIfInBounds j true) && k''.ok ops (l.setIfInBounds m true)
 | .reb k,l=>k.ok ops l
def DU.fine (ops:List Oper) (d:DU):Bool:=Region.noSelect ops.toArray && P9 d.steps ops.length && d.ok ops.toArray (Array.replicate ops.length false)
def jE (ops:List Oper) (takes:List Nat) (i:Nat) (k:DU):Bool:=match S1 ops takes i with | true=>true | false=>(match k.takes with | []=>false | _=>true)
def wJ (X:Q2) (ops:List Oper) (i:Nat) (need:Bool) (s0:List Ch) (cont:Tm->List Ch->Prop) (t:Tm) (s:List Ch):Prop:=match jX ops i with
 | some o=>aH ops o t
   (λt=>HT X s t o λtv s'=>putk X.n t o.dst tv λt'=>match need with | true=>W9 s0 s'/\cont t' s' | false=>cont t' s')
   (λt=>putk X.n t o.dst (.v undef) λt'=>match need with | true=>W9 s0 s/\cont t' s | false=>cont t' s)
 | none=>False
def V7 (X:Q2) (ops:List Oper) (takes:List Nat):DU->List Ch->(Tm->List Ch->Prop)->Tm->List Ch->Prop
 | .done,_,Q,t,s=>Q t s
 | .take i k,s0,Q,t,s=>match jX ops i with
  | some o=>match UT o.op with
   | true=>aH ops o t
    (λt=>wq X s0 t o.op λtv=>putk X.n t o.dst tv λt'=>V7 X ops takes k s0 Q t' s)
    (λt=>putk X.n t o.dst (.v undef) λt'=>V7 X ops takes k s0 Q t' s)
   | false=>False
  | none=>False
 | .run i k,s0,Q,t,s=>wJ X ops i (jE ops takes i k) s0 (λt s=>V7 X ops takes k s0 Q t s) t s
 | .two i k j k',s0,Q,t,s=>wJ X ops i (jE ops takes i k) s0 (λt s=>V7 X ops takes k s0 Q t s) t s/\wJ X ops j (jE ops takes j k') s0 (λt s=>V7 X ops takes k' s0 Q t s) t s
 | .three i k j k' m k'',s0,Q,t,s=>wJ X ops i (jE ops takes i k) s0 (λt s=>V7 X ops takes k s0 Q t s) t s/\wJ X ops j (jE ops takes j k') s0 (λt s=>V7 X ops takes k' s0 Q t s) t s/\wJ X ops m (jE ops takes m k'') s0 (λt s=>V7 X ops takes k'' s0 Q t s) t s
 | .reb k,s0,Q,t,s=>W9 s0 s/\V7 X ops takes k s Q t s
section
variable {X:Q2} {n:Nat} {t:Tm} {s:List Ch} {a:Act}
theorem RD (hX:X.Good) {ops:List Oper} {takes:List Nat} {w0:World} {Q:Exit->Act->World->Prop} {q:Tm->List Ch->Prop}
  (hQ :∀t s a w,Fr X.n t s a->Ok w0 s w->q t s->Q .normal a w) (hP :∀c a w,¬ Q (.panic c) a w) (hsel:Region.noSelect ops.toArray=true) :
  ∀(d:DU) (s0:List Ch) (fuel:Nat) (listed:Array Bool) (t:Tm) (s:List Ch) (a:Act) (w:World),d.steps<=fuel->d.ok ops.toArray listed=true->(∀i∈d.takes,i∈takes)->
   V7 X ops takes d s0 q t s->Fr X.n t s a->Ok w0 s w->(d.takes≠[]->W9 s0 s)->
   W6 X.P .any ops.toArray Q (iE s0) (λj=>S1 ops takes j=true) fuel listed a w:=by
 have hP' :∀(oi:Oper) (v:Value) c a w,Q (.panic c) (a.put oi.dst v) w->Q (.panic c) a w:=λ_ _ c _ w h=>absurd h (hP c _ w);have subval :∀{s s':List Ch},W9 s s'->∀tv v,TV.val s tv=some v->TV.val s' tv=some v:=by
  intro s s' hs tv v hv;cases tv with
  | v x=>exact hv
  | bx i off=>
   obtain⟨b,cs,T,h1,h2⟩:=sX hv;simp[TV.val,(T0 hs i _ h1).resolve_right (λe=>by cases e),h2]
  | bs i n=>
   obtain⟨b,cs,T,h1,h2⟩:=OV hv;simp[TV.val,(T0 hs i _ h1).resolve_right (λe=>by cases e),h2]
 have sub_mem :∀{s0 s:List Ch} {w:World},W9 s0 s->Ok w0 s w->iE s0 w:=λhs hok i c e=>by
  rcases T0 hs i c e with h | rfl
  ·exact hok.mem i c h
  ·exact Hp.emp_in _
 have runc :∀(s0:List Ch) (i:Nat) (k:DU) (fuel:Nat) (listed:Array Bool) (t:Tm) (s:List Ch) (a:Act) (w:World),
   (∀(t:Tm) (s:List Ch) (a:Act) (w:World),V7 X ops takes k s0 q t s->Fr X.n t s a->Ok w0 s w->(k.takes≠[]->W9 s0 s)->
    W6 X.P .any ops.toArray Q (iE s0) (λj=>S1 ops takes j=true) fuel (listed.setIfInBounds i true) a w)->
   wJ X ops i (jE ops takes i k) s0 (λt s=>V7 X ops takes k s0 q t s) t s->Fr X.n t s a->Ok w0 s w->
   wpOp X.P ops.toArray Q i (λa' w'=>(S1 ops takes i=true->iE s0 w')/\W6 X.P .any ops.toArray Q (iE s0) (λj=>S1 ops takes j=true) fuel (listed.setIfInBounds i true) a' w') a w:=by
  intro s0 i k fuel listed t s a w ih h hf hok;unfold wJ at h;rw[Q9] at h;cases ho:ops[i]? with
  | none=>simp[ho] at h
  | some o=>
   simp only[ho] at h;have fin :∀{t':Tm} {s':List Ch} {a':Act} {w':World},(match jE ops takes i k with | true=>W9 s0 s'/\V7 X ops takes k s0 q t' s' | false=>V7 X ops takes k s0 q t' s')->
     Fr X.n t' s' a'->Ok w0 s' w'->(S1 ops takes i=true->iE s0 w')/\W6 X.P .any ops.toArray Q (iE s0) (λj=>S1 ops takes j=true) fuel (listed.setIfInBounds i true) a' w':=by
    intro t' s' a' w' hm hf' hok';cases hn:jE ops takes i k with
    | true=>
     simp only[hn] at hm;exact⟨λ_=>sub_mem hm.1 hok',ih t' s' a' w' hm.2 hf' hok' λ_=>hm.1⟩
    | false=>
     simp only[hn] at hm;unfold jE at hn;cases hs:S1 ops takes i with
     | true=>simp[hs] at hn
     | false=>
      simp only[hs] at hn;refine⟨(λh=>by cases h),ih t' s' a' w' hm hf' hok' λhk=>?_⟩;cases hkk:k.takes with
      | nil=>exact absurd hkk hk
      | cons x xs=>simp[hkk] at hn
   unfold wpOp;have ho':ops.toArray[i]?=some o:=by simpa using ho
   simp only[ho'];rcases R8 hf h with ⟨hw,t',hf',hy⟩ | ⟨hw,t',hf',hn⟩
   ·rw[if_pos hw];refine .inl (EY hX hf' hy w0 w hok _ Q λtv v s' w' hok' hk hv hp=>?_);obtain⟨t'',h1,h2⟩:=(hf'.keep hk).putk hv hp;exact fin h1 h2 hok'
   ·rw[if_neg (by rw[hw];simp)];obtain⟨t'',h1,h2⟩:=hf'.putk (tv:=.v undef) rfl hn;exact fin h1 h2 hok
 intro d;induction d with
 | done=>
  intro s0 fuel listed t s a w _ hok _ h hf hw _;exact wM (by simpa [DU.ok] using hok) (hQ t s a w hf hw h) fuel
 | take i k ih=>
  intro s0 fuel listed t s a w hst hok htk h hf hw hsub;have hs0:W9 s0 s:=hsub (by simp[DU.takes]);cases fuel with
  | zero=>simp[DU.steps] at hst
  | succ fuel=>
   simp only[DU.ok,j4] at hok;obtain⟨⟨hr,hfree⟩,hk⟩:=hok;simp only[V7] at h;rw[Q9] at h;cases ho:ops[i]? with
   | none=>simp[ho] at h
   | some o=>
    simp only[ho] at h;have ho':ops.toArray[i]?=some o:=by simpa using ho
    cases hq:UT o.op with
    | false=>simp[hq] at h
    | true=>
     simp only[hq] at h;have main :∀(v:Value) (t'':Tm),YieldsIf X.P ops.toArray (iE s0) o v a->Fr X.n t'' s (a.put o.dst v)->V7 X ops takes k s0 q t'' s->
       W6 X.P .any ops.toArray Q (iE s0) (λj=>S1 ops takes j=true) (fuel+1) listed a w:=by
      intro v t'' hy hf'' hd;refine sP ho' (Region.noSelect_spec hsel) (hP' o v) (λj oj hj hno=>?_) fuel listed a w (Region.free_spec ho' hfree) (by simpa using hr) hy (sub_mem hs0 hw)
       (ih s0 fuel _ t'' s _ w (by simp[DU.steps] at hst;omega) hk (λj hj=>htk j (by simp[DU.takes,hj])) hd hf'' hw λ_=>hs0)
      unfold S1;refine E5.2 ⟨i,htk i (by simp[DU.takes]),?_⟩;rw[Q9];have hj':ops[j]?=some oj:=by simpa using hj
      simp only[hj',yW,K8,j4,not_and];intro e he hb heq;exact hno e (Array.mem_toList_iff.1 he) hb (I3 heq)
     rcases R8 hf h with ⟨hwt,t',hf',hy⟩ | ⟨hwt,t',hf',hn⟩
     ·have hfw:CF t' s0 a:=λj tv v h1 h2=>hf'.w j tv v h1 (subval hs0 tv v h2);obtain⟨tv,v,h1,h2,h3⟩:=OQ hX hfw hq hy;obtain⟨t'',h4,h5⟩:=hf'.putk (subval hs0 tv v h1) h2;exact main v t'' (.inl ⟨hwt,h3⟩) h5 h4
     ·obtain⟨t'',h4,h5⟩:=hf'.putk (tv:=.v undef) rfl hn;exact main undef t'' (.inr ⟨hwt,rfl⟩) h5 h4
 | run i k ih=>
  intro s0 fuel listed t s a w hst hok htk h hf hw hsub;cases fuel with
  | zero=>simp[DU.steps] at hst
  | succ fuel=>
   simp only[DU.ok,j4,decide_eq_true_eq] at hok;refine⟨(λh0=>by rw[hok.1] at h0;cases h0),λi' hi'=>?_⟩;rw[hok.1] at hi';have:i'=i:=by simpa using hi'
   subst this;exact runc s0 i' k fuel listed t s a w (λt s a w h hf hw hs=>ih s0 fuel _ t s a w (by simp[DU.steps] at hst;omega) hok.2 (λj hj=>htk j (by simpa [DU.takes] using hj)) h hf hw hs) h hf hw
 | two i k j k' ih ih'=>
  intro s0 fuel listed t s a w hst hok htk h hf hw hsub;cases fuel with
  | zero=>simp[DU.steps] at hst
  | succ fuel=>
   simp only[DU.ok,j4,decide_eq_true_eq] at hok;simp only[DU.steps] at hst;have hm:=X5 k.steps k'.steps;have hm':=U8 k.steps k'.steps;refine⟨(λh0=>by rw[hok.1.1] at h0;cases h0),λi' hi'=>?_⟩;rw[hok.1.1] at hi';rcases (by simpa using hi':i'=i\/i'=j) with rfl | rfl
   ·exact runc s0 i' k fuel listed t s a w (λt s a w h hf hw hs=>ih s0 fuel _ t s a w (q9 hm (D5 hst)) hok.1.2 (λj hj=>htk j (by simp[DU.takes,hj])) h hf hw hs) h.1 hf hw
   ·exact runc s0 i' k' fuel listed t s a w (λt s a w h hf hw hs=>ih' s0 fuel _ t s a w (q9 hm' (D5 hst)) hok.2 (λj hj=>htk j (by simp[DU.takes,hj])) h hf hw hs) h.2 hf hw
 | three i k j k' m k'' ih ih' ih''=>
  intro s0 fuel listed t s a w hst hok htk h hf hw hsub;cases fuel with
  | zero=>simp[DU.steps] at hst
  | succ fuel=>
   simp only[DU.ok,j4,decide_eq_true_eq] at hok;simp only[DU.steps] at hst;have hm0:=X5 (uW k.steps k'.steps) k''.steps;have hm:=q9 (X5 k.steps k'.steps) hm0;have hm':=q9 (U8 k.steps k'.steps) hm0;have hm'':=U8 (uW k.steps k'.steps) k''.steps;refine⟨(λh0=>by rw[hok.1.1.1] at h0;cases h0),λi' hi'=>?_⟩;rw[hok.1.1.1] at hi';rcases (by simpa using hi':i'=i\/i'=j\/i'=m) with rfl | rfl | rfl
   ·exact runc s0 i' k fuel listed t s a w (λt s a w h hf hw hs=>ih s0 fuel _ t s a w (q9 hm (D5 hst)) hok.1.1.2 (λj hj=>htk j (by simp[DU.takes,hj])) h hf hw hs) h.1 hf hw
   ·exact runc s0 i' k' fuel listed t s a w (λt s a w h hf hw hs=>ih' s0 fuel _ t s a w (q9 hm' (D5 hst)) hok.1.2 (λj hj=>htk j (by simp[DU.takes,hj])) h hf hw hs) h.2.1 hf hw
   ·exact runc s0 i' k'' fuel listed t s a w (λt s a w h hf hw hs=>ih'' s0 fuel _ t s a w (q9 hm'' (D5 hst)) hok.2 (λj hj=>htk j (by simp[DU.takes,hj])) h hf hw hs) h.2.2 hf hw
 | reb k ih=>
  intro s0 fuel listed t s a w hst hok htk h hf hw hsub;have h1:=ih s fuel listed t s a w hst hok htk h.2 hf hw (λ_=>fK s);exact wN (λw' hm=>Bw h.1 hm) fuel listed a w h1
theorem u6.by_orderU0 {X:Q2} (hX:X.Good) {ops:List Oper} {Q:Tm->List Ch->Prop} {t:Tm} {s s0:List Ch} (d:DU) (hd:d.fine ops=true) (hs:W9 s0 s) (h:V7 X ops d.takes d s0 Q t s):u6 X ops Q t s:=by
 refine⟨λw0 w a Q' hok hf hQ hP=>?_⟩;unfold DU.fine at hd;simp only[j4] at hd;obtain⟨⟨h1,h2⟩,h3⟩:=hd;have hlen:ops.toArray.size=ops.length:=sQ
 rw[hlen];exact qW _ _ _ _ (RD hX (λt s a w hf hok hq=>hQ t s a w hok hf hq) hP h1 d s0 ops.length _ t s a _ (D3 h2) h3 (λi hi=>hi) h hf hok.drew λ_=>hs)
theorem u6.by_orderU {X:Q2} (hX:X.Good) {ops:List Oper} {Q:Tm->List Ch->Prop} {t:Tm} {s:List Ch} (d:DU) (hd:d.fine ops=true) (h:V7 X ops d.takes d s Q t s):u6 X ops Q t s:=
 u6.by_orderU0 hX d hd (fK s) h
end
end Go.Dw
namespace Go.Dw
open Go Go.RowKit
section
variable {P:Program} {s:List Ch} {xo yo:Operand} {ty:Nat} {q:TV->Prop}
theorem Je {z:Nat} (h:z < 9223372036854775808):IntKind.i64.wrap (z:Int)=z:=by rw[IntKind.wrap_i64];omega
theorem Kz (a b:Nat) (ha:a < 9223372036854775808) (hb:b < 9223372036854775808):bits .and .i64 (a:Int) (b:Int)=((a &&& b:Nat):Int):=by
 have hx:a &&& b < 2 ^ 63:=Nat.and_lt_two_pow _ om;have h1:(BitVec.ofInt 64 (a:Int)).toNat=a:=by
  rw[BitVec.ofInt_natCast,BitVec.toNat_ofNat];exact C7 om
 have h2:(BitVec.ofInt 64 (b:Int)).toNat=b:=by
  rw[BitVec.ofInt_natCast,BitVec.toNat_ofNat];exact C7 om
 show IntKind.i64.wrap ((BitVec.ofInt 64 (a:Int) &&& BitVec.ofInt 64 (b:Int)).toNat:Int)=_
 rw[BitVec.toNat_and,h1,h2];exact Je hx
theorem Fc (a:Nat) (ha:a < 9223372036854775808) (h:q (.v (iQ ((a % 4:Nat):Int)))):C9 P s (binOp .and ty (iQ a) (iQ 3)) q:=by
 refine⟨_,λw _=>by show Result.ok (Value.int .i64 (bits .and .i64 a ((3:Nat):Int))) w=_;rw[Kz a 3 ha dc,show a &&& 3=a % 4 from Nat.and_two_pow_sub_one_eq_mod a 2],h⟩
theorem Ey (a n:Nat) {k:IntKind} {y:Int} (hy:y=n) (hn:n < 64) (h:q (.v (iQ ((a / 2 ^ n:Nat):Int)))):C9 P s (binOp .shr ty (iQ a) (.int k y)) q:=by
 subst hy;refine⟨_,λw _=>?_,h⟩;show (Op.shift .shr .i64 a k n).run P w=_
 have h0 : ¬ (n:Int) < 0:=om
 have hm:min (n:Int).toNat IntKind.i64.bits=n:=by show min n 64=n;omega
 unfold Op.shift;rw[if_neg h0];dsimp only;rw[hm,Oc _ (by have:=cC n;simp only[Int.pow_nonneg (by decide:(0:Int)<=2)])];have e:((2:Int) ^ n)=((2 ^ n:Nat):Int):=sQ
 rw[e];rfl
theorem DN (a n:Nat) {k:IntKind} {y:Int} (hy:y=n) (hn:n < 64) (h:q (.v (iQ ((a / 2 ^ n:Nat):Int)))):C9 P s (do eqGuard .shr ty xo yo (iQ a) (.int k y);binOp .shr ty (iQ a) (.int k y)) q:=by
 obtain⟨v,h1,h2⟩:=Ey (P:=P) (s:=s) (ty:=ty) a n hy hn h;refine⟨v,λw hm=>?_,h2⟩;have h3:(eqGuard .shr ty xo yo (iQ a) (.int k y)).run P w=.ok () w:=by simp[eqGuard]
 rw[Sem.run_bind,h3,Result.andThen_ok];exact h1 w hm
end
end Go.Dw
namespace Go.Proofs.YtpjhmeicbjkcdaaGreatDoor
open Go Go.RowKit Go.Dw
theorem IW {s:List Ch} {i b T:Nat} {c:UInt8} (hi:l7 s i=some (.box b [.int .u8 c.toNat] T)) {q:TV->Prop} (h:q (.v (sv [c]))):C9 Tryz.prog s (convert 68 9 (.slice (some ⟨b,0,none⟩) 1 1)) q:=by
 refine⟨_,λw hm=>?_,h⟩;rw[run_convert_bytes_arg w 68 5 Tryz.underlying68 Tryz.underlying5 b 0 1 1 [(c.toNat:Int)] rfl (λj hj=>?_) 9 Tryz.underlying9]
 ·congr 2
  unfold strOfNums bs;congr 2
  show [UInt8.ofNat ((c.toNat:Int)).toNat] = [c]
  rw[Int.toNat_natCast,UInt8.ofNat_toNat]
 ·have:j=0:=om
  subst this;exact pU hi rfl hm
theorem Kd {a b c d:d8} {j:Nat} (hj:j < 4):[Value.string (bs a),sv b,sv c,sv d][j]?=some (sv (([a,b,c,d]:List d8).getD j [])):=by
 match j,hj with
 | 0,_=>rfl
 | 1,_=>rfl
 | 2,_=>rfl
 | 3,_=>rfl
theorem JT {a b c d:d8} {j:Nat} (ha:a.length < 10) (hb:b.length < 10) (hc:c.length < 10) (hd:d.length < 10) (hj:j < 4):(([a,b,c,d]:List d8).getD j []).length < 10:=by
 match j,hj with
 | 0,_=>exact ha
 | 1,_=>exact hb
 | 2,_=>exact hc
 | 3,_=>exact hd
theorem gJ {x y:Int} {q:Int->Prop} (h:x % 256=y) (hq:q y):bU .u8 x q:=⟨y,by rw[show IntKind.u8.wrap x=x % 256 by simp[IntKind.wrap,IntKind.bits,IntKind.signed],h],hq⟩
set_option maxRecDepth 10000 in
theorem P1 (kind:UInt8) (i how:Nat) (_hi:i < 1000) (hh:how < 256) (w:World) :
  j2 Tryz.prog 69 #[sv [kind],iQ i,iQ how] w (v8 w (sv (gP kind i how))):=by
 have h1:how % 4 < 4:=A6 _ dc;have h2:how / 4 % 4 < 4:=A6 _ dc;obtain⟨A,hA⟩ :∃A,A=([[],[65],[57],[45]]:List d8).getD (how % 4) []:=⟨_,rfl⟩
 obtain⟨B,hB⟩ :∃B,B=([[],[34],[95,49],[92]]:List d8).getD (how / 4 % 4) []:=⟨_,rfl⟩
 have lA:A.length < 10:=by rw[hA];exact JT dc dc dc dc h1
 have lB:B.length < 10:=by rw[hB];exact JT dc dc dc dc h2
 have gA:=Kd (a:=[]) (b:=[65]) (c:=[57]) (d:=[45]) h1;have gB:=Kd (a:=[]) (b:=[34]) (c:=[95,49]) (d:=[92]) h2;rw[<-hA] at gA;rw[<-hB] at gB;obtain⟨c,hc⟩ :∃c,c=UInt8.ofNat (97+i % 26):=⟨_,rfl⟩
 have hcn:(97+(i % 26:Nat):Int) % 256=(c.toNat:Int):=by
  rw[hc,UInt8.toNat_ofNat'];have:i % 26 < 26:=A6 _ dc;omega
 have eL:gP kind i how=A++[kind]++[c]++B:=by
  unfold gP;rw[<-hA,<-hB,<-hc];simp
 rw[eL];clear eL hA hB hc;refine enterZ (cx 28) [sv [kind],iQ i,iQ how] [.tmp 6] Tryz.func69 ?_;refine u6.cut Unit (λ_=>[(6,.v (sv (A++[kind]++[c]++B)))]) (λ_=>[.hp (Hp.whole w)]) (λ_=>True) (u6.by_orderU cQ (.take 1 <| .take 2 <| .take 5 <| .take 7 <| .take 8 <| .take 9 <| .take 10 <| .take 15 <| .take 16 <| .take 17 <| .three 0 (.reb <| .take 3 <| .take 4 <| .take 6 <| .two 11 (.reb <| .take 12 <| .take 13 <| .run 14 <| .reb <| .take 18 <| .take 19 <| .take 20 <| .take 21 <| .done) 14 (.reb <| .take 18 <| .take 19 <| .run 11 <| .reb <| .take 12 <| .take 13 <| .take 20 <| .take 21 <| .done)) 11 (.reb <| .take 12 <| .two 0 (.reb <| .take 3 <| .take 4 <| .take 6 <| .take 13 <| .run 14 <| .reb <| .take 18 <| .take 19 <| .take 20 <| .take 21 <| .done) 14 (.reb <| .take 18 <| .take 19 <| .run 0 <| .reb <| .take 3 <| .take 4 <| .take 6 <| .take 13 <| .take 20 <| .take 21 <| .done)) 14 (.reb <| .take 18 <| .take 19 <| .two 0 (.reb <| .take 3 <| .take 4 <| .take 6 <| .run 11 <| .reb <| .take 12 <| .take 13 <| .take 20 <| .take 21 <| .done) 11 (.reb <| .take 12 <| .run 0 <| .reb <| .take 3 <| .take 4 <| .take 6 <| .take 13 <| .take 20 <| .take 21 <| .done))) kr ?_) ?_
 ·refine Fc how om ?_;refine gF i 26 (i % 26) rfl rfl dc rfl ?_;refine gJ (y:=((i % 26:Nat):Int)) (by have:i % 26 < 26:=A6 _ dc;omega) ?_;refine gJ hcn ?_;first | refine Ey how 2 rfl dc ?_ | refine DN how 2 rfl dc ?_
  refine Fc (how / 4) om ?_;refine⟨?_,?_,?_⟩
  ·intro b0;(iterate 2 refine⟨sK,?_⟩);refine dC cQ (e:=9) rfl rfl (how % 4) (how % 4) rfl h1 om ?_;refine xU cQ (i:=1) rfl gA rfl ?_;refine gG (ty:=9) (a:=A) (b:=[kind]) (by simp only[d7,i6];omega) ?_;refine⟨?_,?_⟩;focus
    intro b11;(iterate 2 refine⟨sK,?_⟩);refine IW (i:=2) rfl ?_;refine gG (ty:=9) (a:=A++[kind]) (b:=[c]) (by simp only[d6,d7,i6];omega) ?_;intro b14;(iterate 2 refine⟨sK,?_⟩);refine dC cQ (e:=9) rfl rfl (how / 4 % 4) (how / 4 % 4) rfl h2 om ?_;refine xU cQ (i:=3) rfl gB rfl ?_
   rotate_left
   focus
    intro b14;(iterate 2 refine⟨sK,?_⟩);refine dC cQ (e:=9) rfl rfl (how / 4 % 4) (how / 4 % 4) rfl h2 om ?_;refine xU cQ (i:=2) rfl gB rfl ?_;intro b11;(iterate 2 refine⟨sK,?_⟩);refine IW (i:=3) rfl ?_;refine gG (ty:=9) (a:=A++[kind]) (b:=[c]) (by simp only[d6,d7,i6];omega) ?_
   all_goals
    refine gG (ty:=9) (a:=A++[kind]++[c]) (b:=B) (by simp only[d6,d7,i6];omega) ?_;exact⟨(),trivial,y6.mk (pj [0]) rfl rfl⟩
  ·intro b11;(iterate 2 refine⟨sK,?_⟩);refine IW (i:=1) rfl ?_;refine⟨?_,?_⟩;focus
    intro b0;(iterate 2 refine⟨sK,?_⟩);refine dC cQ (e:=9) rfl rfl (how % 4) (how % 4) rfl h1 om ?_;refine xU cQ (i:=2) rfl gA rfl ?_;refine gG (ty:=9) (a:=A) (b:=[kind]) (by simp only[d7,i6];omega) ?_;refine gG (ty:=9) (a:=A++[kind]) (b:=[c]) (by simp only[d6,d7,i6];omega) ?_;intro b14;(iterate 2 refine⟨sK,?_⟩);refine dC cQ (e:=9) rfl rfl (how / 4 % 4) (how / 4 % 4) rfl h2 om ?_;refine xU cQ (i:=3) rfl gB rfl ?_
   rotate_left
   focus
    intro b14;(iterate 2 refine⟨sK,?_⟩);refine dC cQ (e:=9) rfl rfl (how / 4 % 4) (how / 4 % 4) rfl h2 om ?_;refine xU cQ (i:=2) rfl gB rfl ?_;intro b0;(iterate 2 refine⟨sK,?_⟩);refine dC cQ (e:=9) rfl rfl (how % 4) (how % 4) rfl h1 om ?_;refine xU cQ (i:=3) rfl gA rfl ?_;refine gG (ty:=9) (a:=A) (b:=[kind]) (by simp only[d7,i6];omega) ?_;refine gG (ty:=9) (a:=A++[kind]) (b:=[c]) (by simp only[d6,d7,i6];omega) ?_
   all_goals
    refine gG (ty:=9) (a:=A++[kind]++[c]) (b:=B) (by simp only[d6,d7,i6];omega) ?_;exact⟨(),trivial,y6.mk (pj [0]) rfl rfl⟩
  ·intro b14;(iterate 2 refine⟨sK,?_⟩);refine dC cQ (e:=9) rfl rfl (how / 4 % 4) (how / 4 % 4) rfl h2 om ?_;refine xU cQ (i:=1) rfl gB rfl ?_;refine⟨?_,?_⟩;focus
    intro b0;(iterate 2 refine⟨sK,?_⟩);refine dC cQ (e:=9) rfl rfl (how % 4) (how % 4) rfl h1 om ?_;refine xU cQ (i:=2) rfl gA rfl ?_;refine gG (ty:=9) (a:=A) (b:=[kind]) (by simp only[d7,i6];omega) ?_;intro b11;(iterate 2 refine⟨sK,?_⟩);refine IW (i:=3) rfl ?_
   rotate_left
   focus
    intro b11;(iterate 2 refine⟨sK,?_⟩);refine IW (i:=2) rfl ?_;intro b0;(iterate 2 refine⟨sK,?_⟩);refine dC cQ (e:=9) rfl rfl (how % 4) (how % 4) rfl h1 om ?_;refine xU cQ (i:=3) rfl gA rfl ?_;refine gG (ty:=9) (a:=A) (b:=[kind]) (by simp only[d7,i6];omega) ?_
   all_goals
    refine gG (ty:=9) (a:=A++[kind]) (b:=[c]) (by simp only[d6,d7,i6];omega) ?_;refine gG (ty:=9) (a:=A++[kind]++[c]) (b:=B) (by simp only[d6,d7,i6];omega) ?_;exact⟨(),trivial,y6.mk (pj [0]) rfl rfl⟩
 intro _ _ _;exact⟨[],⟨rfl,rfl⟩,pk [0]⟩
end Go.Proofs.YtpjhmeicbjkcdaaGreatDoor
namespace Go.Proofs.YtpjhmeicbjkcdaaGreatDoor
open Go Go.RowKit Go.Dw
def Jb (l:Q4):List Value:=[.int .i8 l.1,.int .i8 l.2.1,.int .i8 l.2.2.1,.int .i8 l.2.2.2]
theorem Bf {l:Q4} {i:Nat} (hi:i < 4):(Jb l)[i]?=some (.int .i8 (q4 l i)):=by
 match i,hi with
 | 0,_=>rfl
 | 1,_=>rfl
 | 2,_=>rfl
 | 3,_=>rfl
theorem XS {a:Int} {b:Nat} (hb:0 < b) {G:Nat} (hG:G=G8 a.natAbs b):(if b / G=0\/b / G=1 then zT (a / (G:Int)) else zT (a / (G:Int))++47::Lib.decDigits (b / G))=M8 a b:=by
 have h1:0 < G8 a.natAbs b:=iD _ hb;have h2:0 < b / G8 a.natAbs b:=Nat.div_pos (UV hb (Nat.gcd_dvd_right _ _)) h1;unfold M8;rw[<-hG] at h2 ⊢;by_cases h:b / G=1
 ·rw[if_pos (.inr h),if_pos h]
 ·rw[if_neg (λc=>c.elim (λe=>by omega) h),if_neg h]
theorem iP {z:Int} {m:Nat} {b1 b2:Option Addr} {k1 e1 k2 e2:Nat} (w:World) (hm:0 < m) (h1:cA (Hp.whole w) (.slice b1 k1 e1) (z.natAbs / G8 z.natAbs m)) (h2:cA (Hp.whole w) (.slice b2 k2 e2) (m / G8 z.natAbs m)) (hz:z.natAbs < 100000000000000000000) (hm2:m < 100000000000000000000) (hP:dY (Hp.whole w)) :
  j2 Tryz.prog 72 #[cI (decide (z < 0)) b1 k1 e1 false b2 k2 e2] w (v8 w (sv (M8 z m))):=by
 obtain⟨G,hG⟩ :∃G,G=G8 z.natAbs m:=⟨_,rfl⟩
 rw[<-hG] at h1 h2;have g0:0 < G:=by rw[hG];exact iD _ hm
 have hd:=Hx (a:=z) g0 (by rw[hG];exact CX _ _);have h:=uU (z:=z / (G:Int)) (m:=m / G) w (by rw[hd.1];exact h1) h2 (by rw[hd.1];exact p8 (D0 _ _) hz) (p8 (D0 _ _) hm2) hP;rw[XS hm hG,show decide (z / (G:Int) < 0)=decide (z < 0) from decide_eq_decide.2 hd.2] at h;exact h
theorem uF {z:Int} {a:Option Addr} {n c:Nat} (w:World) (h1:qO (Hp.whole w) a n c z.natAbs) (hz:z.natAbs < 100000000000000000000) (hP:dY (Hp.whole w)) :
  j2 Tryz.prog 72 #[cI (decide (z < 0)) a n c false none 0 0] w (v8 w (sv (zT z))):=by
 have h:=uU (z:=z) (m:=0) w h1.mag (AQ _).mag hz dc hP;rw[if_pos (.inl rfl)] at h;exact h
set_option maxRecDepth 10000 in
theorem nW (n:Nat) (l:Q4) (hn:n < 1000000) (hl:l.1.natAbs < 1000/\l.2.1.natAbs < 1000/\l.2.2.1.natAbs < 1000/\l.2.2.2.natAbs < 1000) (w:World) (hP:dY (Hp.whole w)) :
  j2 Tryz.prog 73 #[iQ n,.agg (Jb l).toArray] w (fQ w λv cs=>∃o,cs = [.hp o.h]/\v=.agg #[sv (Z5 n l).1,o.v]/\w5 bO 80 2 o (Z5 n l).2):=by
 have hq:=Fd hl;refine enterZ (cx 53) [iQ n,.agg #[.int .i8 l.1,.int .i8 l.2.1,.int .i8 l.2.2.1,.int .i8 l.2.2.2]] [.cell 4 41] Tryz.func73 ?_;intro b3 b4;refine m9 (λ_ kz=>kz _ _ ?_);refine nQ [.hp (Hp.whole w),.box b3 [.int .i8 l.1,.int .i8 l.2.1,.int .i8 l.2.2.1,.int .i8 l.2.2.2] 148,.box b4 [zs,zl] 41] λq' hq'=>?_;have b1:l.1.natAbs < 1000:=hl.1;have b2:l.2.1.natAbs < 1000:=hl.2.1;(iterate 3 refine nwo ?_);refine call (λw' hm=>S5 (l.1 - l.2.1) om om w') ?_;rintro _ _ ⟨g0,a0,n0,c0,rfl,rfl,h0⟩;refine k7 _ (λw' hm=>uF w' (h0.mono (hm 3 _ rfl).whole) om (hP.mono (hm 0 _ rfl).whole)) ?_;intro b5;apply hq';have eL:Z5 n l=(zT (l.1 - l.2.1),((x8 (min n 4)).filter λi=>decide (q4 l i≠0)).map λi:Nat=>((i:Int),M8 (q4 l i) (1+i))):=rfl;rw[eL];dsimp only;obtain⟨N,hN⟩ :∃N,N=zT (l.1 - l.2.1):=⟨_,rfl⟩
 rw[<-hN];refine m9 (λ_ kz=>kz _ _ ?_);refine z6.mkS (Nat×Dw.Os) (λg=>[(0,.v (iQ n)),(3,.v (pQ b3)),(4,.bx 2 0),(5,.bx 3 0),(6,.v (iQ g.1))]) (λg=>[.hp (Hp.whole w),.box b3 [.int .i8 l.1,.int .i8 l.2.1,.int .i8 l.2.2.1,.int .i8 l.2.2.2] 148,.box b4 [zs,zl] 41,.box b5 [sv N,g.2.v] 41,.hp g.2.h])
  (λg=>g.1<=min n 4/\w5 bO 80 2 g.2 (((x8 g.1).filter λi=>decide (q4 l i≠0)).map λi:Nat=>((i:Int),M8 (q4 l i) (1+i)))) (λg=>4 - g.1) (0,Dw.Os.nil) ⟨j0 _,w5.nil _ _ _⟩ (y6.mk (λ_ _ h=>(h.pick [0,1,2,4] rfl rfl).emp) rfl rfl) ?_
 rintro⟨i,o⟩ ⟨hi,hO⟩ _;dsimp only at hi hO ⊢;refine m9 λq' hq'=>?_;refine d9 (λs1=>?_) λs1=>?_;focus
  apply hq';refine K9 (by rfl) (λs2=>?_) λs2=>?_
  ·have s2:=of_decide_eq_true s2;have hi4:i < 4:=om
   obtain⟨z,hz⟩ :∃z,z=q4 l i:=⟨_,rfl⟩
   have hzb:z.natAbs < 1000:=by rw[hz];exact hq i
   have hcell:[Value.int .i8 l.1,.int .i8 l.2.1,.int .i8 l.2.2.1,.int .i8 l.2.2.2][i]?=some (.int .i8 z):=by rw[hz];exact Bf (l:=l) hi4
   refine nQ [.hp (Hp.whole w),.box b3 [.int .i8 l.1,.int .i8 l.2.1,.int .i8 l.2.2.1,.int .i8 l.2.2.2] 148,.box b4 [zs,zl] 41,.box b5 [sv N,o.v] 41,.hp o.h] λq' hq'=>?_;refine ED cQ (T:=148) (e:=133) (len:=4) rfl rfl rfl rfl i rfl hi4 ?_;refine xU cQ (i:=1) (j:=0+i) rfl (by rw[w7];exact hcell) rfl ?_;refine nwo ?_;refine call (λw' hm=>S5 z om om w') ?_;rintro _ _ ⟨g1,a1,n1,c1,rfl,rfl,h1⟩;refine nwo ?_;refine call (λw' hm=>S5 (1+(i:Int)) om om w') ?_;rintro _ _ ⟨g2,a2,n2,c2,rfl,rfl,h2⟩;rw[show decide (1+(i:Int) < 0)=false from decide_eq_false om];rw[show (1+(i:Int)).natAbs=1+i by omega] at h2;refine call (λw' hm=>pW w' (h1.mono (hm 5 _ rfl).whole) (h2.mono (hm 6 _ rfl).whole) om) ?_;rintro _ _ ⟨g3,p1,q1,r1,p2,q2,r2,rfl,rfl,d1,d2⟩;intro b7;apply hq';refine nQ [.hp (Hp.whole w),.box b3 [.int .i8 l.1,.int .i8 l.2.1,.int .i8 l.2.2.1,.int .i8 l.2.2.2] 148,.box b4 [zs,zl] 41,.box b5 [sv N,o.v] 41,.hp o.h,.hp g1,.hp g2,.hp g3,.box b7 [.bool (decide (z < 0)),.slice p1 q1 r1,.bool false,.slice p2 q2 r2] 141] λq' hq'=>?_;refine k7 _ (λw' hm=>BV w' (d1.mono (hm 7 _ rfl).whole)) ?_;apply hq';have hs:((if z.natAbs / G8 z.natAbs (1+i)=0 then 0 else if decide (z < 0)=true then -1 else 1:Int)≠0)↔z≠0:=by
    have g0:0 < G8 z.natAbs (1+i):=iD _ om;by_cases e:z=0
    ·rw[e];simp
    ·have:0 < z.natAbs / G8 z.natAbs (1+i):=Nat.div_pos (UV om (CX _ _)) g0;rw[if_neg om];refine⟨λ_=>e,λ_=>?_⟩;split <;> decide
   have hLn:(((x8 i).filter λi=>decide (q4 l i≠0)).map λi:Nat=>((i:Int),M8 (q4 l i) (1+i))).length<=4:=by
    rw[j6];have:=List.length_filter_le (λi=>decide (q4 l i≠0)) (x8 i);rw[K7] at this;omega
   refine K9 (by rfl) (λs3=>?_) λs3=>?_
   ·have hz0:z≠0:=hs.1 (of_decide_eq_true s3);have eN:((x8 (i+1)).filter λi=>decide (q4 l i≠0)).map (λi:Nat=>((i:Int),M8 (q4 l i) (1+i)))=(((x8 i).filter λi=>decide (q4 l i≠0)).map λi:Nat=>((i:Int),M8 (q4 l i) (1+i)))++[((i:Int),M8 z (1+i))]:=by
     rw[List.range_succ,List.filter_append,E1];congr 1
     have:decide (q4 l i≠0)=true:=by rw[<-hz];exact decide_eq_true hz0
     rw[List.filter_cons,if_pos this,hz];rfl
    obtain⟨M,hM⟩ :∃M,M=(((x8 i).filter λi=>decide (q4 l i≠0)).map λi:Nat=>((i:Int),M8 (q4 l i) (1+i))):=⟨_,rfl⟩
    rw[<-hM] at hO hLn eN;obtain⟨Y,hY⟩ :∃Y,Y=M8 z (1+i):=⟨_,rfl⟩
    rw[<-hY] at eN;refine u6.cut Dw.Os (λ_=>[(0,.v (iQ n)),(3,.v (pQ b3)),(4,.bx 2 0),(5,.bx 3 0),(6,.v (iQ i))]) (λg=>[.hp (Hp.whole w),.box b3 [.int .i8 l.1,.int .i8 l.2.1,.int .i8 l.2.2.1,.int .i8 l.2.2.2] 148,.box b4 [zs,zl] 41,.box b5 [sv N,g.v] 41,.hp g.h]) (λg=>w5 bO 80 2 g (M++[((i:Int),Y)])) (u6.by_order0 (s0:=[.hp (Hp.whole w),.box b3 [.int .i8 l.1,.int .i8 l.2.1,.int .i8 l.2.2.1,.int .i8 l.2.2.2] 148,.box b4 [zs,zl] 41,.box b5 [sv N,o.v] 41,.hp Hp.emp,.hp g1,.hp g2,.hp g3,.box b7 [.bool (decide (z < 0)),.slice p1 q1 r1,.bool false,.slice p2 q2 r2] 141]) cQ (.take 0 <| .take 1 <| .take 2 <| .take 3 <| .run 4 <| .take 5 <| .run 6 <| .run 7 <| .run 8 <| .run 9 <| .done) kr (sK) ?_) ?_
    ·refine k7 _ (λw' hm=>iP (z:=z) (m:=1+i) w' om (d1.mono (hm 7 _ rfl).whole) (d2.mono (hm 7 _ rfl).whole) om om (hP.mono (hm 0 _ rfl).whole)) ?_;rw[<-hY];refine⟨sK,?_⟩;intro b9;refine⟨sK,?_⟩;refine gZ (f:=bO) cQ (e:=80) rfl (i:=4) rfl hO ((i:Int),Y) (j:=9) rfl rfl rfl rfl om λo2 hO2=>?_;refine⟨sK,?_⟩;exact⟨o2,hO2,y6.mk (pj [0,1,2,3,4]) rfl rfl⟩
    intro o2 hO2 _;dsimp only;refine m9 λq' hq'=>?_;refine nwo ?_;apply hq';exact⟨(i+1,o2),⟨by dsimp only;omega,by dsimp only;rw[eN];exact hO2⟩,by dsimp only;omega,y6.mk (λ_ _ h=>h) rfl rfl⟩
   ·have hz0:z=0:=j3 λc=>absurd (hs.2 c) (of_decide_eq_false s3);have eN:((x8 (i+1)).filter λi=>decide (q4 l i≠0))=((x8 i).filter λi=>decide (q4 l i≠0)):=by
     rw[List.range_succ,List.filter_append];have:decide (q4 l i≠0)=false:=by rw[<-hz];exact decide_eq_false (λc=>c hz0)
     rw[List.filter_cons,if_neg (by rw[this];decide)];exact k8 _
    refine m9 λq' hq'=>?_;refine nwo ?_;apply hq';exact⟨(i+1,o),⟨by dsimp only;omega,by dsimp only;rw[eN];exact hO⟩,by dsimp only;omega,y6.mk (pj [0,1,2,3,4]) rfl rfl⟩
  focus
   have s2:=of_decide_eq_false s2
 rotate_left
 focus
  apply hq';refine dU rfl ?_
 all_goals
  have hi4:i=min n 4:=om
  rw[<-hi4];refine m9 λq' hq'=>?_;apply hq';exact⟨[.hp o.h],⟨o,rfl,rfl,hO⟩,pk [0,4]⟩
end Go.Proofs.YtpjhmeicbjkcdaaGreatDoor
namespace Go.Dw
open Go Go.RowKit
theorem Ka {x:Int} {q:Int->Prop} (h1 : -128<=x) (h2:x < 128) (hq:q x):bU .i8 x q:=⟨x,by
 have:IntKind.i8.wrap x=x:=by simp[IntKind.wrap,IntKind.bits,IntKind.signed];omega
 rw[this],hq⟩
theorem Gr {P:Program} {s:List Ch} {ty:Nat} {q:TV->Prop} (a b d:Nat) {x y:Int} (hx:x=a) (hy:y=b) (hb:0 < b) (ha:a < 256) (hd:d=a / b) (h:q (.v (.int .u8 d))):C9 P s (binOp .quo ty (.int .u8 x) (.int .u8 y)) q:=by
 subst hx hy;refine⟨_,λw _=>?_,h⟩;have h0 : ¬ b=0:=om
 have hd':d < 256:=by rw[hd];exact p8 (D0 a b) ha
 have e:IntKind.u8.wrap ((a:Int) / b)=d:=by
  rw[<-Iv,<-hd];simp[IntKind.wrap,IntKind.bits,IntKind.signed];omega
 simp[binOp,Op.intDiv,h0];exact e
theorem AF {P:Program} {s:List Ch} {tys:Array TypeId} {ty:Nat} {x y:Int} {q:TV->List Ch->Prop} (h:q (.v (iQ (min x y))) s):G7 P s (Builtin.min_ tys ty #[iQ x,iQ y]) q:=by
 refine⟨λw0 w hok=>⟨_,_,w,s,?_,hok,I5.refl s,rfl,h⟩⟩;simp[Builtin.min_,Builtin.min2,Int.min_def];split <;> split <;> (try rfl) <;> (congr 1;omega)
end Go.Dw
namespace Go.Proofs.YtpjhmeicbjkcdaaGreatDoor
open Go Go.RowKit Go.Dw
theorem Kc {X:Q2} {s:List Ch} {q:TV->Prop} (hX:X.Good) {T:Nat} {i b T':Nat} {cs:List Value} (hi:l7 s i=some (.box b cs T'))
  (hT:(G9 X.tt T).map (λt=>(t.agg,t.size))=some (true,cs.length)) (hq:q (.v (.agg cs.toArray))):C9 X.P s (Instr.loadAt T (pQ b)) q:=by
 refine⟨_,λw hm=>?_,hq⟩;cases ht:G9 X.tt T with
 | none=>simp[ht] at hT
 | some ti=>
  have ha:ti.agg=true/\ti.size=cs.length:=by simpa [ht] using hT
  have:=run_loadCells_list (P:=X.P) w ⟨b,0,none⟩ cs (λj v hj=>by rw[Addr.add_mk,w7];exact (hm i _ hi).whole.cell (I0 b T' hj));simp[Instr.loadAt,Instr.sureAddr,loadVar,(Good.und hX ht).agg,(Good.und hX ht).size,ha,this]
def QI (x:Nat):List Value:=[.int .u8 x]
def Nw (d:Nat):Prop:=∀(n:Nat) (L:List Nat) (a:Option Addr) (m c:Nat) (level:Int) (h0:Hp) (w:World),h0.In w->n < 1000000->level=4 - d->(∀x∈L,x < 256)->Sl (E0 QI) 1 h0 a m c L->dY (Hp.whole w)->
 j2 Tryz.prog 74 #[iQ n,.slice a m c,iQ level] w (fQ w λv cs=>∃H xs a' m' c',cs = [.hp H]/\v=.tuple #[.agg xs.toArray,.slice a' m' c']/\xs.length=5/\bE (d+1) H (R5 n d L).1 xs/\Sl (E0 QI) 1 h0 a' m' c' (R5 n d L).2)
def kQ (L:List Nat) (i:Nat):List Value:=(x8 4).map λj=>.int .i8 (if j < i then kF L j else 0)
theorem XE (L:List Nat) (i:Nat):(kQ L i).length=4:=rfl
theorem Kh {L:List Nat} {i:Nat} (h:i < L.length):kF L i=((L[i] % 7:Nat):Int) - 3:=by
 unfold kF;rw[if_pos h,e8,i7 h];rfl
theorem XD {L:List Nat} {i:Nat} (hi:i < 4) (h:i < L.length):(kQ L i).set i (.int .i8 (((L[i] % 7:Nat):Int) - 3))=kQ L (i+1):=by
 rw[<-Kh h];match i,hi with
 | 0,_=>rfl
 | 1,_=>rfl
 | 2,_=>rfl
 | 3,_=>rfl
theorem Hr {L:List Nat} {i:Nat} (h:L.length<=i):kF L i=0:=by unfold kF;rw[if_neg om]
theorem XF {L:List Nat} {i:Nat} (h:i=min L.length 4):kQ L i=Jb (kF L 0,kF L 1,kF L 2,kF L 3):=by
 have key :∀j,j < 4->(if j < i then kF L j else 0)=kF L j:=by
  intro j hj;by_cases g:j < i
  ·rw[if_pos g]
  ·rw[if_neg g,Hr om]
 show [Value.int .i8 (if 0 < i then kF L 0 else 0),.int .i8 (if 1 < i then kF L 1 else 0),.int .i8 (if 2 < i then kF L 2 else 0),.int .i8 (if 3 < i then kF L 3 else 0)]=_
 rw[key 0 dc,key 1 dc,key 2 dc,key 3 dc];rfl
theorem PW (L:List Nat):(kF L 0).natAbs < 1000/\(kF L 1).natAbs < 1000/\(kF L 2).natAbs < 1000/\(kF L 3).natAbs < 1000:=⟨mC L 0,mC L 1,mC L 2,mC L 3⟩
theorem tS (n:Nat) {d:Nat} {L:List Nat} (h:L = []\/d=0\/L.getD 0 0 % 6=0):R5 n d L=(.mk 0 (Z5 n (kF L 0,kF L 1,kF L 2,kF L 3)) [] [],L.drop 1):=by
 cases d with
 | zero=>rfl
 | succ d=>
  unfold R5;rw[if_pos (by rcases h with h | h | h;exact .inl h;cases h;exact .inr h)]
def cJ (n d:Nat) (L:List Nat):Nat->List Ex×List Nat
 | 0=>([],L)
 | i+1=>((cJ n d L i).1++[(R5 n d (cJ n d L i).2).1],(R5 n d (cJ n d L i).2).2)
theorem tU (n d:Nat) (L:List Nat) :∀i,(cJ n d L i).1.length=i
 | 0=>rfl
 | i+1=>by show ((cJ n d L i).1++[_]).length=_;rw[d6,tU n d L i];rfl
theorem tV (n:Nat) :∀(d:Nat) (L:List Nat) (x:Nat),x∈(R5 n d L).2->x∈L
 | 0,L,x,h=>A8 h
 | d+1,L,x,h=>by
  unfold R5 at h;split at h
  ·exact A8 h
  ·dsimp only at h;split at h
   ·exact A8 (tV n d _ x h)
   ·exact A8 (tV n d _ x (tV n d _ x h))
theorem tT (n d:Nat) (L:List Nat) :∀i x,x∈(cJ n d L i).2->x∈L
 | 0,_,h=>h
 | i+1,x,h=>tT n d L i x (tV n d _ x h)
theorem JF (n d:Nat) {L:List Nat} (h:L≠[]) (h6:L.getD 0 0 % 6≠0) :
  R5 n (d+1) L=(.mk ((L.getD 0 0 % 6:Nat):Int) ([],[]) (if L.getD 0 0 % 6=2 then zT ((L.getD 0 0:Int) - 100) else []) (cJ n d (L.drop 1) (if L.getD 0 0 % 6=2\/L.getD 0 0 % 6=5 then 1 else 1+L.getD 0 0 / 6 % 2)).1,
   (cJ n d (L.drop 1) (if L.getD 0 0 % 6=2\/L.getD 0 0 % 6=5 then 1 else 1+L.getD 0 0 / 6 % 2)).2):=by
 conv=>lhs;unfold R5
 rw[if_neg (λc=>c.elim h h6)];dsimp only;by_cases h2:L.getD 0 0 % 6=2\/L.getD 0 0 % 6=5
 ·rw[if_pos h2,if_pos (by rcases h2 with h | h;exact .inl h;exact .inr (.inl h))];rfl
 ·rw[if_neg h2];have e2 : ¬ L.getD 0 0 % 6=2:=λc=>h2 (.inl c);by_cases h3:L.getD 0 0 / 6 % 2=0
  ·rw[if_pos (.inr (.inr h3)),h3,if_neg e2];rfl
  ·have h4:L.getD 0 0 / 6 % 2=1:=om
   rw[if_neg (λc=>by rcases c with c | c | c;exact h2 (.inl c);exact h2 (.inr c);exact h3 c),h4,if_neg e2];rfl
set_option maxRecDepth 10000 in
theorem mA (d:Nat) (hd3:d<=3) (ih :∀d',d=d'+1->Nw d'):Nw d:=by
 intro n L a m c level h0 w hin hn hlv hL hS hP;have hlen:=hS.len;have hSw:Sl (E0 QI) 1 (Hp.whole w) a m c L:=hS.mono (j7 _) hin.whole;refine enterZ (cx 106) [iQ n,.slice a m c,iQ level] [.cell 6 44,.tmp 7] Tryz.func74 ?_;intro b6;refine m9 (λ_ kz=>kz _ _ ?_);refine m9 λq' hq'=>?_;refine d9 (λs1=>?_) λs1=>?_
 ·apply hq';refine TS rfl ?_;have hO:R5 n d L=(.mk 0 (Z5 n (kF L 0,kF L 1,kF L 2,kF L 3)) [] [],L.drop 1):=tS n (.inl (F7.1 om));rw[hO];dsimp only;refine m9 λ_ kz=>?_;intro b8;refine kz _ _ ?_;refine m9 (λ_ kz=>kz _ _ ?_);refine z6.mkS Nat (λg=>[(0,.v (iQ n)),(1,.v (.slice a m c)),(6,.bx 1 0),(8,.v (pQ b8)),(9,.v (iQ g))]) (λg=>[.hp (Hp.whole w),.box b6 [iQ 0,zs,zl,zs,zl] 44,.box b8 (kQ L g) 148]) (λg=>g<=min L.length 4) (λg=>4 - g) 0 (j0 _) (y6.mk (λ_ _ h=>h) rfl rfl) ?_;rintro i hi _;refine m9 λq' hq'=>?_;refine d9 (λt1=>?_) λt1=>?_;focus
   apply hq';refine K9 (by rfl) (λt2=>?_) λt2=>?_
   ·have t2:=of_decide_eq_true t2;have hi4:i < 4:=om
    have hiL:i < L.length:=om
    have hx:=hL L[i] (j5 hiL);refine nQ [.hp (Hp.whole w),.box b6 [iQ 0,zs,zl,zs,zl] 44,.box b8 (kQ L i) 148] λq' hq'=>?_;refine R2 cQ (e:=5) rfl hSw i rfl hiL λb9 o9 cs hcs hR hcell=>?_;subst hR;refine lQ 0 (hcell 0 _ rfl) ?_;refine gF L[i] 7 (L[i] % 7) rfl rfl dc rfl ?_;have hr7:L[i] % 7 < 7:=A6 _ dc;(iterate 2 refine Ka om om ?_);refine ED cQ (T:=148) (e:=133) (len:=4) rfl rfl rfl rfl i rfl hi4 ?_;refine iW cQ (i:=2) (j:=0+i) rfl rfl rfl (by rw[XE];omega) rfl rfl ?_;apply hq';refine cD [.hp (Hp.whole w),.box b6 [iQ 0,zs,zl,zs,zl] 44,.box b8 (kQ L (i+1)) 148] (by rw[<-XD hi4 hiL,w7];rfl) ?_;refine m9 λq' hq'=>?_;refine nwo ?_;apply hq';exact⟨i+1,om,om,y6.mk (λ_ _ h=>h) rfl rfl⟩
   focus
    have t2:=of_decide_eq_false t2;have hiL:i=L.length:=om
  rotate_left
  focus
   apply hq';refine dU rfl ?_;have hiL:i=min L.length 4:=om
  all_goals
   have eK:kQ L i = [.int .i8 (kF L 0),.int .i8 (kF L 1),.int .i8 (kF L 2),.int .i8 (kF L 3)]:=XF om;rw[eK];have hb:=PW L;refine u6.cut (Dw.Os×Option Addr) (λg=>[(6,.bx 1 0),(7,.v (.slice g.2 (m - min 1 L.length) (c - min 1 L.length)))]) (λg=>[.hp (Hp.whole w),.box b6 [iQ 0,sv (Z5 n (kF L 0,kF L 1,kF L 2,kF L 3)).1,g.1.v,zs,zl] 44,.hp g.1.h]) (λg=>w5 bO 80 2 g.1 (Z5 n (kF L 0,kF L 1,kF L 2,kF L 3)).2/\Sl (E0 QI) 1 h0 g.2 (m - min 1 L.length) (c - min 1 L.length) (L.drop 1)) (u6.by_order0 (s0:=[.hp (Hp.whole w),.hp Hp.emp,.box b8 [.int .i8 (kF L 0),.int .i8 (kF L 1),.int .i8 (kF L 2),.int .i8 (kF L 3)] 148]) cQ (.take 0 <| .take 1 <| .take 4 <| .take 5 <| .take 6 <| .two 2 (.take 3 <| .two 7 (.take 8 <| .run 9 <| .run 10 <| .done) 9 (.run 7 <| .run 8 <| .run 10 <| .done)) 7 (.take 8 <| .run 2 <| .take 3 <| .run 9 <| .run 10 <| .done)) kr (sK) ?_) ?_
   ·have hdr:(L.take m).drop (min 1 L.length)=L.drop 1:=by
     rw[o6 om];rcases u9 L.length with e | e
     ·rw[F7.1 e];rfl
     ·rw[T6 e]
    have hLin:=λ(w':World) (hm:(Hp.whole w).In w')=>nW n (kF L 0,kF L 1,kF L 2,kF L 3) hn hb w' (hP.mono hm.whole);refine Kc cQ (i:=2) rfl rfl ?_;constructor
    ·refine call (λw' hm=>hLin w' (hm 0 _ rfl)) ?_;rintro _ _ ⟨o,rfl,rfl,hO2⟩;refine⟨sK,?_⟩;constructor
     focus
      refine AF ?_;refine⟨sK,?_⟩
     rotate_left
     focus
      refine⟨sK,?_⟩;refine AF ?_;first | refine⟨sK,?_⟩ | skip
     all_goals
      refine An cQ (T:=68) rfl hS (min 1 L.length) m (.inr ⟨_,_,rfl,om⟩) (.inl ⟨rfl,rfl⟩) om (j8 _) λa' hS2=>?_;rw[hdr] at hS2;first
      | exact⟨(o,a'),⟨hO2,hS2⟩,y6.mk (pj [0,1,3]) rfl rfl⟩
      | exact⟨sK,(o,a'),⟨hO2,hS2⟩,y6.mk (pj [0,1,3]) rfl rfl⟩
      | exact⟨sK,sK,(o,a'),⟨hO2,hS2⟩,y6.mk (pj [0,1,3]) rfl rfl⟩
      | exact⟨sK,sK,sK,(o,a'),⟨hO2,hS2⟩,y6.mk (pj [0,1,3]) rfl rfl⟩
    ·refine AF ?_;refine⟨sK,?_⟩;refine An cQ (T:=68) rfl hS (min 1 L.length) m (.inr ⟨_,_,rfl,om⟩) (.inl ⟨rfl,rfl⟩) om (j8 _) λa' hS2=>?_;rw[hdr] at hS2;refine call (λw' hm=>hLin w' (hm 0 _ rfl)) ?_;rintro _ _ ⟨o,rfl,rfl,hO2⟩;refine⟨sK,?_⟩;first
     | exact⟨(o,a'),⟨hO2,hS2⟩,y6.mk (pj [0,1,3]) rfl rfl⟩
     | exact⟨sK,(o,a'),⟨hO2,hS2⟩,y6.mk (pj [0,1,3]) rfl rfl⟩
     | exact⟨sK,sK,(o,a'),⟨hO2,hS2⟩,y6.mk (pj [0,1,3]) rfl rfl⟩
     | exact⟨sK,sK,sK,(o,a'),⟨hO2,hS2⟩,y6.mk (pj [0,1,3]) rfl rfl⟩
   rintro⟨o,a'⟩ ⟨hO2,hS2⟩ _;dsimp only at hO2 hS2 ⊢;exact⟨[.hp o.h],⟨o.h,_,_,_,_,rfl,rfl,rfl,⟨o.a,o.n,o.c,none,0,0,rfl,w5.sl (f:=bO) (sz:=2) (λ_=>rfl) dc hO2,Sl.nil _ _ _ _ _⟩,hS2⟩,pk [0,2]⟩
 ·refine d9 (λs2=>?_) λs2=>?_;focus
   apply hq';refine TS rfl ?_;have hO:R5 n d L=(.mk 0 (Z5 n (kF L 0,kF L 1,kF L 2,kF L 3)) [] [],L.drop 1):=tS n (.inr (.inl om))
  rotate_left
  focus
   have h0L:0 < L.length:=om
   have hLne:L≠[]:=λe=>by rw[e] at h0L;cases h0L
   obtain⟨x0,hx0⟩ :∃x,x=L[0]:=⟨_,rfl⟩
   have hx:x0 < 256:=by rw[hx0];exact hL _ (j5 h0L)
   have eg:L.getD 0 0=x0:=by rw[hx0,e8,i7 h0L];rfl
   refine R2 cQ (e:=5) rfl hSw 0 rfl h0L λb9 o9 cs hcs hR hcell=>?_;subst hR;refine lQ 0 (hcell 0 _ rfl) ?_;rw[<-hx0];refine gF x0 6 (x0 % 6) rfl rfl dc rfl ?_;have hr6:x0 % 6 < 6:=A6 _ dc;apply hq';refine K9 (by rfl) (λs3=>?_) λs3=>?_;focus
    have s3:=of_decide_eq_true s3;have hO:R5 n d L=(.mk 0 (Z5 n (kF L 0,kF L 1,kF L 2,kF L 3)) [] [],L.drop 1):=tS n (.inr (.inr (by rw[eg];omega)))
   rotate_left
   ·have s3:=of_decide_eq_false s3;have h6:x0 % 6≠0:=om
    obtain⟨d,rfl⟩ :∃e,d=e+1:=⟨d - 1,om⟩
    have eO:=JF n d hLne (by rw[eg];exact h6);rw[eg] at eO;refine m9 λq' hq'=>?_;refine R2 cQ (e:=5) rfl hSw 0 rfl h0L λb9 o9 cs hcs hR hcell=>?_;subst hR;refine lQ 0 (hcell 0 _ rfl) ?_;rw[<-hx0];refine gF x0 6 (x0 % 6) rfl rfl dc rfl ?_;refine nwo ?_;intro b10;apply hq';refine nQ [.hp (Hp.whole w),.box b6 [iQ 0,zs,zl,zs,zl] 44,.box b10 [iQ ((x0 % 6:Nat):Int),zs,zl,zs,zl] 44] λq' hq'=>?_;refine R2 cQ (e:=5) rfl hSw 0 rfl h0L λb9 o9 cs hcs hR hcell=>?_;subst hR;refine lQ 0 (hcell 0 _ rfl) ?_;rw[<-hx0];have hq2:x0 / 6 % 2 < 2:=A6 _ dc;refine Gr x0 6 (x0 / 6) rfl rfl dc hx rfl ?_;refine gF (x0 / 6) 2 (x0 / 6 % 2) rfl rfl dc rfl ?_;(iterate 2 refine nwo ?_);apply hq';refine m9 λq' hq'=>?_;apply hq';refine K9 (by rfl) (λo2=>?_) λo2=>?_
    ·have o2:x0 % 6=2:=by have:=of_decide_eq_true o2;omega
     rw[if_pos o2,if_pos (.inl o2)] at eO;refine nQ [.hp (Hp.whole w),.box b6 [iQ 0,zs,zl,zs,zl] 44,.box b10 [iQ ((x0 % 6:Nat):Int),zs,zl,zs,zl] 44] λq' hq'=>?_;refine R2 cQ (e:=5) rfl hSw 0 rfl h0L λb9 o9 cs hcs hR hcell=>?_;subst hR;refine lQ 0 (hcell 0 _ rfl) ?_;rw[<-hx0];(iterate 2 refine nwo ?_);refine call (λw' hm=>S5 ((x0:Int) - 100) om om w') ?_;rintro _ _ ⟨g1,a1,n1,c1,rfl,rfl,hM1⟩;refine k7 _ (λw' hm=>uF w' (hM1.mono (hm 3 _ rfl).whole) om (hP.mono (hm 0 _ rfl).whole)) ?_;obtain⟨F,hF⟩ :∃F,F=zT ((x0:Int) - 100):=⟨_,rfl⟩
     rw[<-hF] at eO ⊢;apply hq';refine m9 λq' hq'=>?_;apply hq';refine m9 λq' hq'=>?_;apply hq';refine K9 (by rfl) (λo5=>absurd (of_decide_eq_true o5) om) λ_=>?_;refine nQ [.hp (Hp.whole w),.box b6 [iQ 0,zs,zl,zs,zl] 44,.box b10 [iQ ((x0 % 6:Nat):Int),zs,zl,sv F,zl] 44,.hp g1] λq' hq'=>?_;refine An cQ (T:=68) rfl hS 1 m (.inr ⟨_,_,rfl,rfl⟩) (.inl ⟨rfl,rfl⟩) om (j8 _) λa1 hS1=>?_;rw[o6 (show L.length<=m by omega)] at hS1;apply hq';refine m9 (λ_ kz=>kz _ _ ?_);refine z6.mkS (Nat×Hp×Dw.Os×Option Addr×Nat×Nat) (λg=>[(0,.v (iQ n)),(1,.v (.slice g.2.2.2.1 g.2.2.2.2.1 g.2.2.2.2.2)),(2,.v (iQ level)),(6,.bx 1 0),(10,.bx 2 0),(11,.v (iQ 1)),(12,.v (iQ g.1))]) (λg=>[.hp (Hp.whole w),.box b6 [iQ 0,zs,zl,zs,zl] 44,.box b10 [iQ ((x0 % 6:Nat):Int),zs,zl,sv F,g.2.2.1.v] 44,.hp g.2.1,.hp g.2.2.1.h])
      (λg=>g.1<=1/\aR (bE (d+1)) 44 5 g.2.1 g.2.2.1 (cJ n d (L.drop 1) g.1).1/\Sl (E0 QI) 1 h0 g.2.2.2.1 g.2.2.2.2.1 g.2.2.2.2.2 (cJ n d (L.drop 1) g.1).2) (λg=>1 - g.1) (0,Hp.emp,Dw.Os.nil,a1,m - 1,c - 1) ⟨j0 _,aR.nil,hS1⟩ (y6.mk (λ_ _ h=>(h.pick [0,1,2] rfl rfl).emp.emp) rfl rfl) ?_
     rintro⟨i,H,o,a2,m2,c2⟩ ⟨hi,hG,hS2⟩ hsat;dsimp only at hi hG hS2 ⊢;refine m9 λq' hq'=>?_;apply hq';refine K9 (by rfl) (λt1=>?_) λt1=>?_
     ·have t1:=of_decide_eq_true t1;obtain⟨A,hA⟩ :∃A,A=R5 n d (cJ n d (L.drop 1) i).2:=⟨_,rfl⟩
      have eI:cJ n d (L.drop 1) (i+1)=((cJ n d (L.drop 1) i).1++[A.1],A.2):=by rw[hA];rfl
      refine m9 λq' hq'=>?_;intro b13;apply hq';refine nQ [.hp (Hp.whole w),.box b6 [iQ 0,zs,zl,zs,zl] 44,.box b10 [iQ ((x0 % 6:Nat):Int),zs,zl,sv F,o.v] 44,.hp H,.hp o.h,.box b13 [iQ 0,zs,zl,zs,zl] 44] λq' hq'=>?_;refine nwo ?_;refine call (λw' hm=>ih d rfl n (cJ n d (L.drop 1) i).2 a2 m2 c2 (level+1) h0 w' ((hm 0 _ rfl).le hin.whole) hn om (λx hx=>hL x (A8 (tT n d _ i x hx))) hS2 (hP.mono (hm 0 _ rfl).whole)) ?_;rintro _ _ ⟨H9,xs,a3,m3,c3,rfl,rfl,hx5,hE,hS3⟩;rw[<-hA] at hE hS3;have hE2:=hE;obtain⟨Y,hY⟩ :∃Y,Y=A.1:=⟨_,rfl⟩
      rw[<-hY] at hE2;obtain⟨op9,f9,fac9,args9⟩:=Y;obtain⟨a9,n9,c9,a8,n8,c8,rfl,_,_⟩:=hE2;apply hq';refine nQ [.hp (Hp.whole w),.box b6 [iQ 0,zs,zl,zs,zl] 44,.box b10 [iQ ((x0 % 6:Nat):Int),zs,zl,sv F,o.v] 44,.hp H,.hp o.h,.box b13 [iQ op9,sv f9.1,.slice a9 n9 c9,sv fac9,.slice a8 n8 c8] 44,.hp H9] λq' hq'=>?_;intro b14;refine qM (R:=bE (d+1)) (o:=o) (L:=(cJ n d (L.drop 1) i).1) (H:=H.join H9) cQ (e:=44) rfl (i:=4) rfl (λ_=>hG.mono (D6 _) (Hp.le_join_l _ _)) A.1 [iQ op9,sv f9.1,.slice a9 n9 c9,sv fac9,.slice a8 n8 c8] (j:=7) rfl rfl rfl rfl (by rw[tU];omega) (λhs=>?_) λo2 _ hG2=>?_
      ·obtain⟨w0,w',hok⟩:=hs;exact D6 _ _ _ _ _ (Hp.le_join_r (hok.disj 3 6 _ _ dc rfl rfl)) hE
      apply hq';refine m9 λq' hq'=>?_;refine nwo ?_;apply hq';exact⟨(i+1,H.join H9,o2,a3,m3,c3),⟨by dsimp only;omega,by dsimp only;rw[eI];exact hG2,by dsimp only;rw[eI];exact hS3⟩,by dsimp only;omega,y6.mk (λ_ _ h=>(Ok.join (h.pick [0,3,6,1,2,4] rfl rfl)).pick [0,2,3,1,4] rfl rfl) rfl rfl⟩
     ·have t1:=of_decide_eq_false t1;have him:i=1:=om
      subst him;have hHo:H.dj o.h:=by obtain⟨w0,w1,hok⟩:=hsat;exact hok.disj 3 4 _ _ dc rfl rfl
      refine m9 λq' hq'=>?_;apply hq';rw[eO];exact⟨[.hp (H.join o.h)],⟨_,_,_,_,_,rfl,rfl,rfl,⟨none,0,0,o.a,o.n,o.c,rfl,Sl.nil _ _ _ _ _,hG.sl (D6 _) dc (Hp.le_join_l _ _) (Hp.le_join_r hHo)⟩,hS2⟩,λw' h=>(Ok.join (h.pick [0,3,4] rfl rfl)).pick [0,1] rfl rfl⟩
    ·have o2:x0 % 6≠2:=by have:=of_decide_eq_false o2;omega
     rw[if_neg o2] at eO;refine m9 λq' hq'=>?_;apply hq';refine K9 (by rfl) (λo5=>?_) λo5=>?_;focus
      have o5:x0 % 6=5:=by have:=of_decide_eq_true o5;omega
      rw[if_pos (.inr o5)] at eO;refine m9 λq' hq'=>?_;apply hq';refine nQ [.hp (Hp.whole w),.box b6 [iQ 0,zs,zl,zs,zl] 44,.box b10 [iQ ((x0 % 6:Nat):Int),zs,zl,zs,zl] 44] λq' hq'=>?_;refine An cQ (T:=68) rfl hS 1 m (.inr ⟨_,_,rfl,rfl⟩) (.inl ⟨rfl,rfl⟩) om (j8 _) λa1 hS1=>?_;rw[o6 (show L.length<=m by omega)] at hS1;apply hq';refine m9 (λ_ kz=>kz _ _ ?_);refine z6.mkS (Nat×Hp×Dw.Os×Option Addr×Nat×Nat) (λg=>[(0,.v (iQ n)),(1,.v (.slice g.2.2.2.1 g.2.2.2.2.1 g.2.2.2.2.2)),(2,.v (iQ level)),(6,.bx 1 0),(10,.bx 2 0),(11,.v (iQ 1)),(12,.v (iQ g.1))]) (λg=>[.hp (Hp.whole w),.box b6 [iQ 0,zs,zl,zs,zl] 44,.box b10 [iQ ((x0 % 6:Nat):Int),zs,zl,zs,g.2.2.1.v] 44,.hp g.2.1,.hp g.2.2.1.h])
       (λg=>g.1<=1/\aR (bE (d+1)) 44 5 g.2.1 g.2.2.1 (cJ n d (L.drop 1) g.1).1/\Sl (E0 QI) 1 h0 g.2.2.2.1 g.2.2.2.2.1 g.2.2.2.2.2 (cJ n d (L.drop 1) g.1).2) (λg=>1 - g.1) (0,Hp.emp,Dw.Os.nil,a1,m - 1,c - 1) ⟨j0 _,aR.nil,hS1⟩ (y6.mk (λ_ _ h=>(h.pick [0,1,2] rfl rfl).emp.emp) rfl rfl) ?_
      rintro⟨i,H,o,a2,m2,c2⟩ ⟨hi,hG,hS2⟩ hsat;dsimp only at hi hG hS2 ⊢;refine m9 λq' hq'=>?_;apply hq';refine K9 (by rfl) (λt1=>?_) λt1=>?_;focus
       skip
      rotate_left
      ·have t1:=of_decide_eq_false t1;have him:i=1:=om
       subst him;have hHo:H.dj o.h:=by obtain⟨w0,w1,hok⟩:=hsat;exact hok.disj 3 4 _ _ dc rfl rfl
       refine m9 λq' hq'=>?_;apply hq';rw[eO];exact⟨[.hp (H.join o.h)],⟨_,_,_,_,_,rfl,rfl,rfl,⟨none,0,0,o.a,o.n,o.c,rfl,Sl.nil _ _ _ _ _,hG.sl (D6 _) dc (Hp.le_join_l _ _) (Hp.le_join_r hHo)⟩,hS2⟩,λw' h=>(Ok.join (h.pick [0,3,4] rfl rfl)).pick [0,1] rfl rfl⟩
     rotate_left
     focus
      have o5:x0 % 6≠5:=by have:=of_decide_eq_false o5;omega
      rw[if_neg (λc=>c.elim o2 o5)] at eO;obtain⟨mm,hmm⟩ :∃mm,mm=1+x0 / 6 % 2:=⟨_,rfl⟩
      rw[<-hmm] at eO;refine nQ [.hp (Hp.whole w),.box b6 [iQ 0,zs,zl,zs,zl] 44,.box b10 [iQ ((x0 % 6:Nat):Int),zs,zl,zs,zl] 44] λq' hq'=>?_;refine An cQ (T:=68) rfl hS 1 m (.inr ⟨_,_,rfl,rfl⟩) (.inl ⟨rfl,rfl⟩) om (j8 _) λa1 hS1=>?_;rw[o6 (show L.length<=m by omega)] at hS1;apply hq';refine m9 (λ_ kz=>kz _ _ ?_);refine z6.mkS (Nat×Hp×Dw.Os×Option Addr×Nat×Nat) (λg=>[(0,.v (iQ n)),(1,.v (.slice g.2.2.2.1 g.2.2.2.2.1 g.2.2.2.2.2)),(2,.v (iQ level)),(6,.bx 1 0),(10,.bx 2 0),(11,.v (iQ (1+((x0 / 6 % 2:Nat):Int)))),(12,.v (iQ g.1))]) (λg=>[.hp (Hp.whole w),.box b6 [iQ 0,zs,zl,zs,zl] 44,.box b10 [iQ ((x0 % 6:Nat):Int),zs,zl,zs,g.2.2.1.v] 44,.hp g.2.1,.hp g.2.2.1.h])
       (λg=>g.1<=mm/\aR (bE (d+1)) 44 5 g.2.1 g.2.2.1 (cJ n d (L.drop 1) g.1).1/\Sl (E0 QI) 1 h0 g.2.2.2.1 g.2.2.2.2.1 g.2.2.2.2.2 (cJ n d (L.drop 1) g.1).2) (λg=>mm - g.1) (0,Hp.emp,Dw.Os.nil,a1,m - 1,c - 1) ⟨j0 _,aR.nil,hS1⟩ (y6.mk (λ_ _ h=>(h.pick [0,1,2] rfl rfl).emp.emp) rfl rfl) ?_
      rintro⟨i,H,o,a2,m2,c2⟩ ⟨hi,hG,hS2⟩ hsat;dsimp only at hi hG hS2 ⊢;refine m9 λq' hq'=>?_;apply hq';refine K9 (by rfl) (λt1=>?_) λt1=>?_;focus
       skip
      rotate_left
      ·have t1:=of_decide_eq_false t1;have him:i=mm:=om
       subst him;have hHo:H.dj o.h:=by obtain⟨w0,w1,hok⟩:=hsat;exact hok.disj 3 4 _ _ dc rfl rfl
       refine m9 λq' hq'=>?_;apply hq';rw[eO];exact⟨[.hp (H.join o.h)],⟨_,_,_,_,_,rfl,rfl,rfl,⟨none,0,0,o.a,o.n,o.c,rfl,Sl.nil _ _ _ _ _,hG.sl (D6 _) dc (Hp.le_join_l _ _) (Hp.le_join_r hHo)⟩,hS2⟩,λw' h=>(Ok.join (h.pick [0,3,4] rfl rfl)).pick [0,1] rfl rfl⟩
     all_goals
      have t1:=of_decide_eq_true t1;obtain⟨A,hA⟩ :∃A,A=R5 n d (cJ n d (L.drop 1) i).2:=⟨_,rfl⟩
      have eI:cJ n d (L.drop 1) (i+1)=((cJ n d (L.drop 1) i).1++[A.1],A.2):=by rw[hA];rfl
      refine m9 λq' hq'=>?_;intro b13;apply hq';refine nQ [.hp (Hp.whole w),.box b6 [iQ 0,zs,zl,zs,zl] 44,.box b10 [iQ ((x0 % 6:Nat):Int),zs,zl,zs,o.v] 44,.hp H,.hp o.h,.box b13 [iQ 0,zs,zl,zs,zl] 44] λq' hq'=>?_;refine nwo ?_;refine call (λw' hm=>ih d rfl n (cJ n d (L.drop 1) i).2 a2 m2 c2 (level+1) h0 w' ((hm 0 _ rfl).le hin.whole) hn om (λx hx=>hL x (A8 (tT n d _ i x hx))) hS2 (hP.mono (hm 0 _ rfl).whole)) ?_;rintro _ _ ⟨H9,xs,a3,m3,c3,rfl,rfl,hx5,hE,hS3⟩;rw[<-hA] at hE hS3;have hE2:=hE;obtain⟨Y,hY⟩ :∃Y,Y=A.1:=⟨_,rfl⟩
      rw[<-hY] at hE2;obtain⟨op9,f9,fac9,args9⟩:=Y;obtain⟨a9,n9,c9,a8,n8,c8,rfl,_,_⟩:=hE2;apply hq';refine nQ [.hp (Hp.whole w),.box b6 [iQ 0,zs,zl,zs,zl] 44,.box b10 [iQ ((x0 % 6:Nat):Int),zs,zl,zs,o.v] 44,.hp H,.hp o.h,.box b13 [iQ op9,sv f9.1,.slice a9 n9 c9,sv fac9,.slice a8 n8 c8] 44,.hp H9] λq' hq'=>?_;intro b14;refine qM (R:=bE (d+1)) (o:=o) (L:=(cJ n d (L.drop 1) i).1) (H:=H.join H9) cQ (e:=44) rfl (i:=4) rfl (λ_=>hG.mono (D6 _) (Hp.le_join_l _ _)) A.1 [iQ op9,sv f9.1,.slice a9 n9 c9,sv fac9,.slice a8 n8 c8] (j:=7) rfl rfl rfl rfl (by rw[tU];omega) (λhs=>?_) λo2 _ hG2=>?_
      ·obtain⟨w0,w',hok⟩:=hs;exact D6 _ _ _ _ _ (Hp.le_join_r (hok.disj 3 6 _ _ dc rfl rfl)) hE
      apply hq';refine m9 λq' hq'=>?_;refine nwo ?_;apply hq';exact⟨(i+1,H.join H9,o2,a3,m3,c3),⟨by dsimp only;omega,by dsimp only;rw[eI];exact hG2,by dsimp only;rw[eI];exact hS3⟩,by dsimp only;omega,y6.mk (λ_ _ h=>(Ok.join (h.pick [0,3,6,1,2,4] rfl rfl)).pick [0,2,3,1,4] rfl rfl) rfl rfl⟩
  all_goals
   rw[hO];dsimp only;refine m9 λ_ kz=>?_;intro b8;refine kz _ _ ?_;refine m9 (λ_ kz=>kz _ _ ?_);refine z6.mkS Nat (λg=>[(0,.v (iQ n)),(1,.v (.slice a m c)),(6,.bx 1 0),(8,.v (pQ b8)),(9,.v (iQ g))]) (λg=>[.hp (Hp.whole w),.box b6 [iQ 0,zs,zl,zs,zl] 44,.box b8 (kQ L g) 148]) (λg=>g<=min L.length 4) (λg=>4 - g) 0 (j0 _) (y6.mk (λ_ _ h=>h) rfl rfl) ?_;rintro i hi _;refine m9 λq' hq'=>?_;refine d9 (λt1=>?_) λt1=>?_;focus
    apply hq';refine K9 (by rfl) (λt2=>?_) λt2=>?_
    ·have t2:=of_decide_eq_true t2;have hi4:i < 4:=om
     have hiL:i < L.length:=om
     have hx:=hL L[i] (j5 hiL);refine nQ [.hp (Hp.whole w),.box b6 [iQ 0,zs,zl,zs,zl] 44,.box b8 (kQ L i) 148] λq' hq'=>?_;refine R2 cQ (e:=5) rfl hSw i rfl hiL λb9 o9 cs hcs hR hcell=>?_;subst hR;refine lQ 0 (hcell 0 _ rfl) ?_;refine gF L[i] 7 (L[i] % 7) rfl rfl dc rfl ?_;have hr7:L[i] % 7 < 7:=A6 _ dc;(iterate 2 refine Ka om om ?_);refine ED cQ (T:=148) (e:=133) (len:=4) rfl rfl rfl rfl i rfl hi4 ?_;refine iW cQ (i:=2) (j:=0+i) rfl rfl rfl (by rw[XE];omega) rfl rfl ?_;apply hq';refine cD [.hp (Hp.whole w),.box b6 [iQ 0,zs,zl,zs,zl] 44,.box b8 (kQ L (i+1)) 148] (by rw[<-XD hi4 hiL,w7];rfl) ?_;refine m9 λq' hq'=>?_;refine nwo ?_;apply hq';exact⟨i+1,om,om,y6.mk (λ_ _ h=>h) rfl rfl⟩
    focus
     have t2:=of_decide_eq_false t2;have hiL:i=L.length:=om
   rotate_left
   focus
    apply hq';refine dU rfl ?_;have hiL:i=min L.length 4:=om
   all_goals
    have eK:kQ L i = [.int .i8 (kF L 0),.int .i8 (kF L 1),.int .i8 (kF L 2),.int .i8 (kF L 3)]:=XF om;rw[eK];have hb:=PW L;refine u6.cut (Dw.Os×Option Addr) (λg=>[(6,.bx 1 0),(7,.v (.slice g.2 (m - min 1 L.length) (c - min 1 L.length)))]) (λg=>[.hp (Hp.whole w),.box b6 [iQ 0,sv (Z5 n (kF L 0,kF L 1,kF L 2,kF L 3)).1,g.1.v,zs,zl] 44,.hp g.1.h]) (λg=>w5 bO 80 2 g.1 (Z5 n (kF L 0,kF L 1,kF L 2,kF L 3)).2/\Sl (E0 QI) 1 h0 g.2 (m - min 1 L.length) (c - min 1 L.length) (L.drop 1)) (u6.by_order0 (s0:=[.hp (Hp.whole w),.hp Hp.emp,.box b8 [.int .i8 (kF L 0),.int .i8 (kF L 1),.int .i8 (kF L 2),.int .i8 (kF L 3)] 148]) cQ (.take 0 <| .take 1 <| .take 4 <| .take 5 <| .take 6 <| .two 2 (.take 3 <| .two 7 (.take 8 <| .run 9 <| .run 10 <| .done) 9 (.run 7 <| .run 8 <| .run 10 <| .done)) 7 (.take 8 <| .run 2 <| .take 3 <| .run 9 <| .run 10 <| .done)) kr (sK) ?_) ?_
    ·have hdr:(L.take m).drop (min 1 L.length)=L.drop 1:=by
      rw[o6 om];rcases u9 L.length with e | e
      ·rw[F7.1 e];rfl
      ·rw[T6 e]
     have hLin:=λ(w':World) (hm:(Hp.whole w).In w')=>nW n (kF L 0,kF L 1,kF L 2,kF L 3) hn hb w' (hP.mono hm.whole);refine Kc cQ (i:=2) rfl rfl ?_;constructor
     ·refine call (λw' hm=>hLin w' (hm 0 _ rfl)) ?_;rintro _ _ ⟨o,rfl,rfl,hO2⟩;refine⟨sK,?_⟩;constructor
      focus
       refine AF ?_;refine⟨sK,?_⟩
      rotate_left
      focus
       refine⟨sK,?_⟩;refine AF ?_;first | refine⟨sK,?_⟩ | skip
      all_goals
       refine An cQ (T:=68) rfl hS (min 1 L.length) m (.inr ⟨_,_,rfl,om⟩) (.inl ⟨rfl,rfl⟩) om (j8 _) λa' hS2=>?_;rw[hdr] at hS2;first
       | exact⟨(o,a'),⟨hO2,hS2⟩,y6.mk (pj [0,1,3]) rfl rfl⟩
       | exact⟨sK,(o,a'),⟨hO2,hS2⟩,y6.mk (pj [0,1,3]) rfl rfl⟩
       | exact⟨sK,sK,(o,a'),⟨hO2,hS2⟩,y6.mk (pj [0,1,3]) rfl rfl⟩
       | exact⟨sK,sK,sK,(o,a'),⟨hO2,hS2⟩,y6.mk (pj [0,1,3]) rfl rfl⟩
     ·refine AF ?_;refine⟨sK,?_⟩;refine An cQ (T:=68) rfl hS (min 1 L.length) m (.inr ⟨_,_,rfl,om⟩) (.inl ⟨rfl,rfl⟩) om (j8 _) λa' hS2=>?_;rw[hdr] at hS2;refine call (λw' hm=>hLin w' (hm 0 _ rfl)) ?_;rintro _ _ ⟨o,rfl,rfl,hO2⟩;refine⟨sK,?_⟩;first
      | exact⟨(o,a'),⟨hO2,hS2⟩,y6.mk (pj [0,1,3]) rfl rfl⟩
      | exact⟨sK,(o,a'),⟨hO2,hS2⟩,y6.mk (pj [0,1,3]) rfl rfl⟩
      | exact⟨sK,sK,(o,a'),⟨hO2,hS2⟩,y6.mk (pj [0,1,3]) rfl rfl⟩
      | exact⟨sK,sK,sK,(o,a'),⟨hO2,hS2⟩,y6.mk (pj [0,1,3]) rfl rfl⟩
    rintro⟨o,a'⟩ ⟨hO2,hS2⟩ _;dsimp only at hO2 hS2 ⊢;exact⟨[.hp o.h],⟨o.h,_,_,_,_,rfl,rfl,rfl,⟨o.a,o.n,o.c,none,0,0,rfl,w5.sl (f:=bO) (sz:=2) (λ_=>rfl) dc hO2,Sl.nil _ _ _ _ _⟩,hS2⟩,pk [0,2]⟩
theorem mB :∀d,d<=3->Nw d
 | 0,h=>mA 0 h (λd' e=>by omega)
 | d+1,h=>mA (d+1) h (λd' e=>by
  have:d'=d:=om
  subst this;exact mB d' om)
end Go.Proofs.YtpjhmeicbjkcdaaGreatDoor
namespace Go.Dw
open Go Go.RowKit
theorem PH {P:Program} {s:List Ch} {ty:Nat} {q:TV->Prop} {k:IntKind} (a b:Int) (hb:b≠0) (h:q (.v (.int k (a.tmod b)))):C9 P s (binOp .rem ty (.int k a) (.int k b)) q:=by
 refine⟨_,λw _=>?_,h⟩;simp[binOp,Op.intDiv,hb]
theorem IX {P:Program} {s:List Ch} {tys:Array TypeId} {ty:Nat} {x y:Int} {q:TV->List Ch->Prop} (h:q (.v (iQ (max x y))) s):G7 P s (Builtin.max_ tys ty #[iQ x,iQ y]) q:=by
 refine⟨λw0 w hok=>⟨_,_,w,s,?_,hok,I5.refl s,rfl,h⟩⟩;simp[Builtin.max_,Builtin.max2,Int.max_def];split <;> split <;> (try rfl) <;> (congr 1;omega)
end Go.Dw
namespace Go.Proofs.YtpjhmeicbjkcdaaGreatDoor
open Go Go.RowKit Go.Dw
def Mz (x:Q5):List Value:=[.int .i8 x.1,.int .i8 x.2.1,.int .i8 x.2.2.1,.int .i8 x.2.2.2.1,.int .i8 x.2.2.2.2]
def My (x:Q6):List Value:=[.int .i8 x.1,.int .i8 x.2.1,.int .i8 x.2.2.1,.int .i8 x.2.2.2.1,.int .i8 x.2.2.2.2.1,.int .i8 x.2.2.2.2.2]
def Na (x:Int×Int×Int):List Value:=[.int .i8 x.1,.int .i8 x.2.1,.int .i8 x.2.2]
structure OG (h:Hp) (k:UI) (cs:List Value):Prop where
 ex :∃a1 n1 c1 a2 n2 c2 a3 n3 c3 a4 n4 c4 a5 n5 c5,cs = [.int .u8 k.nm,.slice a1 n1 c1,.slice a2 n2 c2,.slice a3 n3 c3,.slice a4 n4 c4,.slice a5 n5 c5]/\
  Sl (E0 Mz) 5 h a1 n1 c1 k.parts/\Sl (E0 My) 6 h a2 n2 c2 k.insts/\Sl (E0 Na) 3 h a3 n3 c3 k.dims/\Sl (E0 Jb) 4 h a4 n4 c4 k.cons/\Sl (YF (E0 QI) 1) 1 h a5 n5 c5 k.gaps
theorem OG.mono {h h':Hp} {k:UI} {cs:List Value} (hl:h.le h') (hp:OG h k cs):OG h' k cs:=by
 obtain⟨a1,n1,c1,a2,n2,c2,a3,n3,c3,a4,n4,c4,a5,n5,c5,e,h1,h2,h3,h4,h5⟩:=hp.ex;exact⟨a1,n1,c1,a2,n2,c2,a3,n3,c3,a4,n4,c4,a5,n5,c5,e,h1.mono (j7 _) hl,h2.mono (j7 _) hl,h3.mono (j7 _) hl,h4.mono (j7 _) hl,h5.mono (EH (j7 _) 1) hl⟩
def LU {α β:Type} (f:Nat->α->β) (m:Nat) (l:List α):List β:=(l.take m).zipIdx.map λp=>f p.2 p.1
theorem kU {α β:Type} (f:Nat->α->β) (m:Nat) (l:List α):(LU f m l).length=min m l.length:=by
 unfold LU;rw[j6,List.length_zipIdx,j1]
theorem mV {α β:Type} (f:Nat->α->β) {m:Nat} {l:List α} {i:Nat} (hm:i < m) (hi:i < l.length):(LU f m l).take (i+1)=(LU f m l).take i++[f i l[i]]:=by
 have hl:i < (LU f m l).length:=by rw[kU];omega
 obtain⟨h',e⟩:=wI f (l.take m) hl;rw[Y6 hl];congr 2
 show ((l.take m).zipIdx.map λp=>f p.2 p.1)[i]=_
 rw[e,List.getElem_take]
theorem iF {α β:Type} (f:Nat->α->β) {m:Nat} {l:List α} {i:Nat} (h : ¬ (i < l.length/\i < m)):(LU f m l).take i=LU f m l:=o6 (by rw[kU];omega)
theorem AD {α:Type} (f:Nat->α) (i:Nat):(x8 (i+1)).map f=(x8 i).map f++[f i]:=by rw[List.range_succ,E1];rfl
theorem EZ (x:Int):x % 256=((u8 x:Nat):Int):=by unfold u8;omega
theorem aR.name {α:Type} {R:yV α} {T sz:Nat} {H:Hp} {o:Dw.Os} {L:List α} (h0:0 < sz) (hG:aR R T sz H o L) :∃C:List (Jd sz),Sl (E0 λc:Jd sz=>c.1) sz o.h o.a o.n o.c C/\C.length=L.length/\∀i (h1:i < L.length) (h2:i < C.length),R H L[i] C[i].1:=by
 obtain⟨C,h1,h2,h3⟩:=hG;exact⟨C,h1.sl (λc=>c.2.1) h0,h2,h3⟩
end Go.Proofs.YtpjhmeicbjkcdaaGreatDoor
namespace Go.Dw
open Go Go.RowKit Go.ChangeShapes Go.WideShapes Go.ChangeAt
section
variable {H:Type} {enc:TypeId×Value->H} {P:Program} {W:World} {sp:Nat->Bool} {held:Bool}
theorem JN {α β:Type} {g:α->Option β} :∀{l:List α} {cs:List β},l.mapM g=some cs->cs.length=l.length/\∀(j:Nat) (v:β),cs[j]?=some v->∃i,l[j]?=some i/\g i=some v
 | [],cs,h=>by
  rw[List.mapM_nil] at h;cases h;exact⟨rfl,λj v h=>by simp at h⟩
 | x::l,cs,h=>by
  simp only[List.mapM_cons,Option.bind_eq_bind,Option.bind_eq_some_iff,Option.pure_def,l8] at h;obtain⟨y,hy,ys,hys,rfl⟩:=h;obtain⟨h1,h2⟩:=JN hys;refine⟨by simp[h1],λj v hj=>?_⟩;match j,hj with
  | 0,hj=>cases hj;exact⟨x,rfl,hy⟩
  | j+1,hj=>exact h2 j v hj
theorem aV {α:Type} [Inhabited α] {R:yV α} {t e:TypeId} {n:Nat} (ht:P.underlying t=some (.slice e)) (hc:P.cellsOf e=n) (hn:0 < n)
  (hf :∀fuel cs (y:DataW H×List MemPlace),DataW.trod enc P W 0 sp held fuel e cs=some y->∃x:α,R (Hp.whole W) x cs)
  {fuel:Nat} {cs:List Value} {y:DataW H×List MemPlace} (h:DataW.trod enc P W 0 sp held fuel t cs=some y) :
  ∃a m c L,cs = [.slice a m c]/\Sl R n (Hp.whole W) a m c L:=by
 rcases DataW.trod_slice ht h with ⟨h0,_⟩ | ⟨a,len,cap,elems,rest,k,_,rfl,_,hb,hl,_,hlen,hel,_,_⟩
 ·exact⟨none,0,0,[],h0,Sl.nil _ _ _ _ _⟩
 rw[hc] at hel;have each :∀i,i < len->∃(x:α×List Value),R (Hp.whole W) x.1 x.2/\x.2.length=n/\∀j v,x.2[j]?=some v->W.cell? ((a.add (i*n)).add j)=some v:=by
  intro i hi;have h1:=hel i hi;rw[i7 om,Option.bind_eq_some_iff] at h1;obtain⟨cs',hcs,hy⟩:=h1;obtain⟨x,hx⟩:=hf _ _ _ hy;unfold World.cells? at hcs;rw[if_pos (j0 _)] at hcs;obtain⟨g1,g2⟩:=JN hcs;rw[K7] at g1;refine⟨(x,cs'),hx,g1,λj v hj=>?_⟩;obtain⟨q,hq,hv⟩:=g2 j v hj;have hjn:j < n:=by rw[<-g1];exact (p6.1 hj).1
  rw[UN hjn] at hq;cases hq;exact hv
 obtain⟨g,hg⟩ :∃g:Nat->α×List Value,∀i,i < len->R (Hp.whole W) (g i).1 (g i).2/\(g i).2.length=n/\∀j v,(g i).2[j]?=some v->W.cell? ((a.add (i*n)).add j)=some v:=by
  refine⟨λi=>if h:i < len then (each i h).choose else (default,[]),λi hi=>?_⟩;simp only[hi,↓reduceDIte];exact (each i hi).choose_spec
 refine⟨some a,len,cap,(x8 len).map λi=>(g i).1,rfl,sQ,hl,λi hi=>?_⟩;simp only[j6,K7] at hi;obtain⟨b,off,rfl⟩ :∃b off,a=⟨b,off,none⟩:=by
  obtain⟨_,h1,h2⟩:=hg 0 om;have:=h2 0 _ (i7 om);rw[bV] at this;simp only[Addr.add,↓reduceIte] at this;exact TZ this
 obtain⟨h0,h1,h2⟩:=hg i hi;refine⟨b,off,(g i).2,rfl,h1,by simpa using h0,λj v hj=>?_⟩;have:=h2 j v hj;rw[Addr.add_mk,Addr.add_mk] at this;exact this
theorem VD {t:TypeId} {fs:Array Field} {fuel:Nat} {cs:List Value} {x:DataW H×List MemPlace} (ht:P.underlying t=some (.struct fs)) (h:DataW.trod enc P W 0 sp held fuel t cs=some x) :
  cs.length=P.cellsOf t/\∃n,∀(i:Nat) (f:Field),fs[i]?=some f->∃y,DataW.trod enc P W 0 sp held n f.type ((cs.drop f.offset).take (P.cellsOf f.type))=some y:=by
 obtain⟨xs,n,_,rfl,hl,hlen,hf⟩:=DataW.trod_struct ht h;refine⟨hl,n,λi f hi=>?_⟩;have h1:=hf i f hi;have hi':i < xs.length:=by rw[hlen];exact (Array.getElem?_eq_some_iff.1 hi).1
 rw[i7 hi'] at h1;exact⟨_,h1⟩
theorem Mt {cs:List Value} (h:cs.length=3) :∃p q s,cs = [p,q,s]:=by
 match cs,h with
 | [p,q,s],_=>exact⟨p,q,s,rfl⟩
theorem Ms {cs:List Value} (h:cs.length=4) :∃p q s u,cs = [p,q,s,u]:=by
 match cs,h with
 | [p,q,s,u],_=>exact⟨p,q,s,u,rfl⟩
theorem Mr {cs:List Value} (h:cs.length=5) :∃p q s u z,cs = [p,q,s,u,z]:=by
 match cs,h with
 | [p,q,s,u,z],_=>exact⟨p,q,s,u,z,rfl⟩
theorem ND {n:Int} (h:(Lit.int .u8 n).wf=true):0<=n/\n<=255:=by
 simp only[Lit.wf,j4,decide_eq_true_eq] at h;have h1:IntKind.u8.min=0:=rfl;have h2:IntKind.u8.max=255:=rfl;omega
theorem TD {n:Int} (h:(Lit.int .i8 n).wf=true) : -128<=n/\n<=127:=by
 simp only[Lit.wf,j4,decide_eq_true_eq] at h;have h1:IntKind.i8.min = -128:=rfl;have h2:IntKind.i8.max=127:=rfl;omega
theorem MB {n:Int} (h:(Lit.int .u16 n).wf=true):0<=n/\n < 65536:=by
 simp only[Lit.wf,j4,decide_eq_true_eq] at h;have h1:IntKind.u16.min=0:=rfl;have h2:IntKind.u16.max=65535:=rfl;omega
theorem RG {t:TypeId} {F0 F1 F2 F3 F4 F5:Field} {fuel:Nat} {cs:List Value} {x:DataW H×List MemPlace} (ht:P.underlying t=some (.struct #[F0,F1,F2,F3,F4,F5])) (h:DataW.trod enc P W 0 sp held fuel t cs=some x) :
  cs.length=P.cellsOf t/\∃n,(∃y,DataW.trod enc P W 0 sp held n F0.type ((cs.drop F0.offset).take (P.cellsOf F0.type))=some y)/\(∃y,DataW.trod enc P W 0 sp held n F1.type ((cs.drop F1.offset).take (P.cellsOf F1.type))=some y)/\(∃y,DataW.trod enc P W 0 sp held n F2.type ((cs.drop F2.offset).take (P.cellsOf F2.type))=some y)/\(∃y,DataW.trod enc P W 0 sp held n F3.type ((cs.drop F3.offset).take (P.cellsOf F3.type))=some y)/\(∃y,DataW.trod enc P W 0 sp held n F4.type ((cs.drop F4.offset).take (P.cellsOf F4.type))=some y)/\(∃y,DataW.trod enc P W 0 sp held n F5.type ((cs.drop F5.offset).take (P.cellsOf F5.type))=some y):=by
 obtain⟨h1,n,h2⟩:=VD ht h;exact⟨h1,n,h2 0 F0 rfl,h2 1 F1 rfl,h2 2 F2 rfl,h2 3 F3 rfl,h2 4 F4 rfl,h2 5 F5 rfl⟩
theorem Kb {cs:List Value} (h:cs.length=6) :∃p q s u z y,cs = [p,q,s,u,z,y]:=by
 match cs,h with
 | [p,q,s,u,z,y],_=>exact⟨p,q,s,u,z,y,rfl⟩
theorem sY {t e:TypeId} {n:Nat} (ht:P.underlying t=some (.array n e)) (he:P.underlying e=some (.int .i8)) (hc:P.cellsOf e=1) (hct:P.cellsOf t=n)
  {fuel:Nat} {cs:List Value} {y:DataW H×List MemPlace} (h:DataW.trod enc P W 0 sp held fuel t cs=some y):cs.length=n/\∀i,i < n->∃v:Int,cs[i]?=some (.int .i8 v)/\(-128<=v/\v<=127):=by
 obtain⟨xs,m,_,_,hl,hn,hel⟩:=DataW.trod_array ht h;rw[hct] at hl;refine⟨hl,λi hi=>?_⟩;have h1:=hel i hi;rw[hc,D7,i7 om] at h1;obtain⟨v,e1,_,hw⟩:=DataW.trod_int he h1;refine⟨v,?_,TD hw⟩;have:=congrArg (·[0]?) e1;simp only[aP,Pl (show 0 < 1 by decide),bY,E7] at this;exact this
theorem Sl.split {α:Type} {R:yV α} {Q:α->Prop} {sz:Nat} {h:Hp} {a:Option Addr} {n c:Nat} {L:List α} (hs:Sl (λh x cs=>R h x cs/\Q x) sz h a n c L):Sl R sz h a n c L/\∀x∈L,Q x:=by
 refine⟨⟨hs.len,hs.cap,λi hi=>?_⟩,λx hx=>?_⟩
 ·obtain⟨b,off,cs,h1,h2,h3,h4⟩:=hs.cells i hi;exact⟨b,off,cs,h1,h2,h3.1,h4⟩
 ·obtain⟨i,hi,rfl⟩:=qQ.1 hx;obtain⟨b,off,cs,h1,h2,h3,h4⟩:=hs.cells i hi;exact h3.2
end
end Go.Dw
namespace Go.Proofs.YtpjhmeicbjkcdaaGreatDoor
open Go Go.RowKit Go.Dw Go.ChangeShapes Go.WideShapes Go.ChangeAt
def kZ:List (String×DataW Unit):=[("math/bits.deBruijn32tab",Rows.laid_math_bits_deBruijn32tab),("math/bits.deBruijn64tab",Rows.laid_math_bits_deBruijn64tab),("internal/strconv.uint64pow10",Rows.laid_internal_strconv_uint64pow10),("unicode/utf8.acceptRanges",Rows.laid_unicode_utf8_acceptRanges),("strconv.ErrRange",Rows.laid_strconv_ErrRange),("strconv.ErrSyntax",Rows.laid_strconv_ErrSyntax),("unicode.White_Space",Rows.laid_unicode_White_Space),("strings.asciiSpace",Rows.laid_strings_asciiSpace),("unicode/utf8.first",Rows.laid_unicode_utf8_first)]
set_option maxRecDepth 100000 in
theorem SP (os:Os) (args:Array Value):((World.laidAll Tryz.prog os kZ).forCall (λ_ _=>0) ⟨#[],args,[]⟩).Shaped Tryz.prog:=World.shaped_of_ZipB kr kr
set_option maxRecDepth 100000 in
theorem Hk (os:Os) (args:Array Value):laidMetH Tryz.prog kZ ((World.laidAll Tryz.prog os kZ).forCall (λ_ _=>0) ⟨#[],args,[]⟩).memory:=by
 rw[MakeChecks.laidMetH_plain _ _ _ kr];exact laidMet_laidAll _ kr kr
theorem VR:Tryz.prog.globalNamed "strings.asciiSpace" = some 2:=kr
theorem Gh:(Tryz.prog.globals[2]?).map (·.type)=some 346:=kr
theorem Am:(Rows.laid_strings_asciiSpace:DataW Unit)=.agg ((x8 256).map λn:Nat=>.lit (.int .u8 (if Lib.isSp (UInt8.ofNat n) then 1 else 0))):=kr
set_option maxRecDepth 100000 in
theorem FD {W:World} (hh:laidMetH Tryz.prog kZ W):uT (Hp.whole W):=by
 have h:laidMetH Tryz.prog [("strings.asciiSpace",Rows.laid_strings_asciiSpace)] W:=hh.filter λx=>x.1 == "strings.asciiSpace";rw[MakeChecks.laidMetH_plain _ _ _ kr] at h;obtain⟨ps,⟨g0,t0,cs0,f0,p0,q0,hg0,ht0,hv0,hd0,_,_⟩,_,_⟩:=h;obtain rfl:=M0 (VR.symm.trans hg0);obtain rfl:=M0 (Gh.symm.trans ht0);obtain⟨xs,m1,rfl,hx1,hlen,hn,hel⟩:=DataW.trod_array Tryz.underlying346 hd0;have ce:Tryz.prog.cellsOf 5=1:=kr
 simp only[Prod.mk.injEq] at hx1;rw[Am,DataW.agg.injEq] at hx1;intro j hj;have h0:=hel j hj;rw[ce,D7] at h0;have hjx:j < xs.length:=om
 rw[i7 hjx] at h0;obtain⟨n,e1,e2,_⟩:=DataW.trod_int Tryz.underlying5 h0;have hd:(xs.map (·.1))[j]?=some (.lit (.int .u8 n)):=by
  rw[E2,i7 hjx,e2];rfl
 rw[<-hx1.1,E2,UN hj] at hd;have hn2:(if Lib.isSp (UInt8.ofNat j) then (1:Int) else 0)=n:=by
  simpa using hd
 have hc:=World.var?_cell hg0 hv0 j;have hcj:cs0[j]?=some (.int .u8 n):=by
  have:=congrArg (·[0]?) e1;simp only[aP,Pl (show 0 < 1 by decide),bY,E7,Array.getElem?_toList] at this;exact this
 rw[hcj] at hc;rw[hn2];exact hc
theorem WF:Tryz.prog.globalNamed "internal/strconv.uint64pow10" = some 0:=kr
theorem Gt:(Tryz.prog.globals[0]?).map (·.type)=some 319:=kr
theorem Bg:(Rows.laid_internal_strconv_uint64pow10:DataW Unit)=Lib.tabData .u64 Lib.pow10Tab:=kr
set_option maxRecDepth 100000 in
theorem FE {W:World} (hh:laidMetH Tryz.prog kZ W):dY (Hp.whole W):=by
 have h:laidMetH Tryz.prog [("internal/strconv.uint64pow10",Rows.laid_internal_strconv_uint64pow10)] W:=hh.filter λx=>x.1 == "internal/strconv.uint64pow10";rw[MakeChecks.laidMetH_plain _ _ _ kr,Bg] at h;exact dY.of (Lib.tabIs_of_head WF Gt Tryz.underlying319 Tryz.underlying248 kr kr h)
section
variable {H:Type} {enc:TypeId×Value->H} {W:World} {r:Reach} {b0:Nat} {v:Value} {d:DataW H} {ps:List MemPlace} {sp:Nat->Bool} {held:Bool}
theorem Ks:Tryz.prog.cellsOf 5=1:=kr
theorem Dx:Tryz.prog.cellsOf 133=1:=kr
theorem Ku:Tryz.prog.cellsOf 134=5:=kr
theorem Kt:Tryz.prog.cellsOf 136=6:=kr
theorem Kw:Tryz.prog.cellsOf 146=3:=kr
theorem Kv:Tryz.prog.cellsOf 148=4:=kr
theorem Nr:Tryz.prog.cellsOf 68=1:=kr
theorem No:Tryz.prog.cellsOf 55=1:=kr
theorem Nn:Tryz.prog.cellsOf 56=1:=kr
theorem Nq:Tryz.prog.cellsOf 57=1:=kr
theorem Np:Tryz.prog.cellsOf 58=1:=kr
theorem Nm:Tryz.prog.cellsOf 59=1:=kr
theorem Nl:Tryz.prog.cellsOf 61=6:=kr
theorem Jl {fuel:Nat} {cs:List Value} {y:DataW H×List MemPlace} (h:DataW.trod enc Tryz.prog W 0 sp held fuel 134 cs=some y) :∃x:Q5,cs=Mz x/\i8 x.1/\i8 x.2.1/\i8 x.2.2.1/\i8 x.2.2.2.1/\i8 x.2.2.2.2:=by
 obtain⟨hl,h⟩:=sY Tryz.underlying134 Tryz.underlying133 Dx Ku h;obtain⟨p0,p1,p2,p3,p4,rfl⟩:=Mr hl;obtain⟨v0,e0,b0⟩:=h 0 dc;obtain⟨v1,e1,b1⟩:=h 1 dc;obtain⟨v2,e2,b2⟩:=h 2 dc;obtain⟨v3,e3,b3⟩:=h 3 dc;obtain⟨v4,e4,b4⟩:=h 4 dc;exact⟨(v0,v1,v2,v3,v4),by simp only[aP,aQ,l8] at e0 e1 e2 e3 e4;rw[e0,e1,e2,e3,e4];rfl,b0,b1,b2,b3,b4⟩
theorem Jk {fuel:Nat} {cs:List Value} {y:DataW H×List MemPlace} (h:DataW.trod enc Tryz.prog W 0 sp held fuel 136 cs=some y) :∃x:Q6,cs=My x/\i8 x.1/\i8 x.2.1/\i8 x.2.2.1/\i8 x.2.2.2.1/\i8 x.2.2.2.2.1/\i8 x.2.2.2.2.2:=by
 obtain⟨hl,h⟩:=sY Tryz.underlying136 Tryz.underlying133 Dx Kt h;obtain⟨p0,p1,p2,p3,p4,p5,rfl⟩:=Kb hl;obtain⟨v0,e0,b0⟩:=h 0 dc;obtain⟨v1,e1,b1⟩:=h 1 dc;obtain⟨v2,e2,b2⟩:=h 2 dc;obtain⟨v3,e3,b3⟩:=h 3 dc;obtain⟨v4,e4,b4⟩:=h 4 dc;obtain⟨v5,e5,b5⟩:=h 5 dc;exact⟨(v0,v1,v2,v3,v4,v5),by simp only[aP,aQ,l8] at e0 e1 e2 e3 e4 e5;rw[e0,e1,e2,e3,e4,e5];rfl,b0,b1,b2,b3,b4,b5⟩
theorem Jn {fuel:Nat} {cs:List Value} {y:DataW H×List MemPlace} (h:DataW.trod enc Tryz.prog W 0 sp held fuel 146 cs=some y) :∃x:Int×Int×Int,cs=Na x/\i8 x.1/\i8 x.2.1/\i8 x.2.2:=by
 obtain⟨hl,h⟩:=sY Tryz.underlying146 Tryz.underlying133 Dx Kw h;obtain⟨p0,p1,p2,rfl⟩:=Mt hl;obtain⟨v0,e0,b0⟩:=h 0 dc;obtain⟨v1,e1,b1⟩:=h 1 dc;obtain⟨v2,e2,b2⟩:=h 2 dc;exact⟨(v0,v1,v2),by simp only[aP,aQ,l8] at e0 e1 e2;rw[e0,e1,e2];rfl,b0,b1,b2⟩
theorem Jm {fuel:Nat} {cs:List Value} {y:DataW H×List MemPlace} (h:DataW.trod enc Tryz.prog W 0 sp held fuel 148 cs=some y) :∃x:Q4,cs=Jb x/\i8 x.1/\i8 x.2.1/\i8 x.2.2.1/\i8 x.2.2.2:=by
 obtain⟨hl,h⟩:=sY Tryz.underlying148 Tryz.underlying133 Dx Kv h;obtain⟨p0,p1,p2,p3,rfl⟩:=Ms hl;obtain⟨v0,e0,b0⟩:=h 0 dc;obtain⟨v1,e1,b1⟩:=h 1 dc;obtain⟨v2,e2,b2⟩:=h 2 dc;obtain⟨v3,e3,b3⟩:=h 3 dc;exact⟨(v0,v1,v2,v3),by simp only[aP,aQ,l8] at e0 e1 e2 e3;rw[e0,e1,e2,e3];rfl,b0,b1,b2,b3⟩
theorem Es {fuel:Nat} {cs:List Value} {y:DataW H×List MemPlace} (h:DataW.trod enc Tryz.prog W 0 sp held fuel 5 cs=some y) :∃x:Nat,cs=QI x/\x < 256:=by
 obtain⟨kd,e0,_,w0⟩:=DataW.trod_int Tryz.underlying5 h;have b0:=ND w0;obtain⟨kn,rfl⟩:=S8 b0.1;exact⟨kn,e0,om⟩
theorem Ga {fuel:Nat} {cs:List Value} {y:DataW H×List MemPlace} (h:DataW.trod enc Tryz.prog W 0 sp held fuel 68 cs=some y) :∃L:List Nat,YF (E0 QI) 1 (Hp.whole W) L cs/\∀x∈L,x < 256:=by
 obtain⟨a,n,c,L,e,hs⟩:=aV (α:=Nat) (R:=λh x cs=>E0 QI h x cs/\x < 256) Tryz.underlying68 Ks dc (λ_ _ _ h=>Es h) h;exact⟨L,⟨a,n,c,e,hs.split.1⟩,hs.split.2⟩
set_option maxRecDepth 100000 in
theorem Jj {fuel:Nat} {cs:List Value} {y:DataW H×List MemPlace} (h:DataW.trod enc Tryz.prog W 0 sp held fuel 61 cs=some y) :∃k:UI,HF k/\OG (Hp.whole W) k cs:=by
 obtain⟨hl,n,⟨y0,k0⟩,⟨y1,k1⟩,⟨y2,k2⟩,⟨y3,k3⟩,⟨y4,k4⟩,⟨y5,k5⟩⟩:=RG Tryz.underlying61 h;rw[Nl] at hl;obtain⟨p0,p1,p2,p3,p4,p5,rfl⟩:=Kb hl;dsimp only at k0 k1 k2 k3 k4 k5;rw[Ks] at k0;rw[No] at k1;rw[Nn] at k2;rw[Nq] at k3;rw[Np] at k4;rw[Nm] at k5;obtain⟨nm,e0,bn⟩:=Es k0;obtain⟨a1,n1,c1,L1,e1,s1⟩:=aV (α:=Q5) (R:=λh x cs=>E0 Mz h x cs/\(i8 x.1/\i8 x.2.1/\i8 x.2.2.1/\i8 x.2.2.2.1/\i8 x.2.2.2.2)) Tryz.underlying55 Ku dc (λ_ _ _ h=>Jl h) k1;obtain⟨a2,n2,c2,L2,e2,s2⟩:=aV (α:=Q6) (R:=λh x cs=>E0 My h x cs/\(i8 x.1/\i8 x.2.1/\i8 x.2.2.1/\i8 x.2.2.2.1/\i8 x.2.2.2.2.1/\i8 x.2.2.2.2.2)) Tryz.underlying56 Kt dc (λ_ _ _ h=>Jk h) k2;obtain⟨a3,n3,c3,L3,e3,s3⟩:=aV (α:=Int×Int×Int) (R:=λh x cs=>E0 Na h x cs/\(i8 x.1/\i8 x.2.1/\i8 x.2.2)) Tryz.underlying57 Kw dc (λ_ _ _ h=>Jn h) k3;obtain⟨a4,n4,c4,L4,e4,s4⟩:=aV (α:=Q4) (R:=λh x cs=>E0 Jb h x cs/\(i8 x.1/\i8 x.2.1/\i8 x.2.2.1/\i8 x.2.2.2)) Tryz.underlying58 Kv dc (λ_ _ _ h=>Jm h) k4;obtain⟨a5,n5,c5,L5,e5,s5⟩:=aV (α:=List Nat) (R:=λh x cs=>YF (E0 QI) 1 h x cs/\∀z∈x,z < 256) Tryz.underlying59 Nr dc (λ_ _ _ h=>Ga h) k5;simp[QI] at e0 e1 e2 e3 e4 e5;exact⟨⟨nm,L1,L2,L3,L4,L5⟩,⟨bn,s1.split.2,s2.split.2,s3.split.2,s4.split.2,s5.split.2⟩,⟨a1,n1,c1,a2,n2,c2,a3,n3,c3,a4,n4,c4,a5,n5,c5,by rw[e0,e1,e2,e3,e4,e5],s1.split.1,s2.split.1,s3.split.1,s4.split.1,s5.split.1⟩⟩
set_option maxRecDepth 100000 in
theorem Gy (hval:Value.okWide Tryz.prog W r b0 61 v) (hd:DataW.Trod enc Tryz.prog W 0 (λ_=>true) true 61 v d ps) :∃(k:UI) (cs:List Value),v=.agg cs.toArray/\HF k/\OG (Hp.whole W) k cs:=by
 obtain⟨xs,rfl,_⟩:=okWide_struct Tryz.underlying61 hval;obtain⟨fuel,hf⟩:=hd;obtain⟨k,h1,h2⟩:=Jj hf;exact⟨k,xs.toList,sQ,h1,h2⟩
end
end Go.Proofs.YtpjhmeicbjkcdaaGreatDoor
namespace Go.Proofs.YtpjhmeicbjkcdaaGreatDoor
open Go Go.RowKit Go.Dw
theorem YH {a b c:Hp} (h1:a.dj b) (h2:a.dj c):a.dj (b.join c):=λx=>by
 rcases h1 x with h | h
 ·exact .inl h
 ·rcases h2 x with h' | h'
  ·exact .inl h'
  ·right;unfold Hp.join;rw[h,h']
structure Wr (C:Prop):Prop where
 h:C
theorem FJ {C M:Prop} (h:Wr C->M) (c:C):M:=h ⟨c⟩
theorem SW {how:Nat} {P:List V9} {l:List Q6} {i:Nat} (hP:0 < P.length) (h3:i < 3) (hi:i < l.length):(U0 how P l).take (i+1)=(U0 how P l).take i++[bG how P i l[i]]:=by
 have e:U0 how P l=LU (bG how P) 3 l:=by unfold U0 LU;rw[if_neg (λc=>by rw[c] at hP;cases hP)]
 rw[e];exact mV _ h3 hi
theorem KA {how:Nat} {P:List V9} {l:List Q6} {i:Nat} (h : ¬ (i < l.length/\i < 3/\0 < P.length)):(U0 how P l).take i=U0 how P l:=by
 by_cases hP:P = []
 ·have e:U0 how P l = []:=by unfold U0;rw[if_pos hP]
  rw[e,List.take_nil]
 ·have e:U0 how P l=LU (bG how P) 3 l:=by unfold U0 LU;rw[if_neg hP]
  rw[e];exact iF _ (λc=>h ⟨c.1,c.2,D1.2 hP⟩)
def Kj (lab pn:d8) (t:List Int) (f:List d8):List Value:=[sv lab,sv pn,iQ (t.getD 0 0),iQ (t.getD 1 0),iQ (t.getD 2 0),iQ (t.getD 3 0),sv (f.getD 0 []),sv (f.getD 1 []),sv (f.getD 2 [])]
set_option maxHeartbeats 4000000 in
set_option maxRecDepth 10000 in
theorem HJ {k:UI} (g:HF k) {cs:List Value} (w:World) (hS:OG (Hp.whole w) k cs) (hP:dY (Hp.whole w)) :
  j2 Tryz.prog 21 #[.agg cs.toArray] w (fQ w λv cs'=>∃H xs,cs' = [.hp H]/\v=.agg xs.toArray/\xs.length=6/\vX 4 H (D4 k) xs):=by
 obtain⟨a1,n1,c1,a2,n2,c2,a3,n3,c3,a4,n4,c4,a5,n5,c5,rfl,h1,h2,h3,h4,h5⟩:=hS.ex;have l1:=h1.len;have l2:=h2.len;have l3:=h3.len;have l4:=h4.len;have l5:=h5.len;have hnm:=g.n;refine enterZ (cx 317) [.agg #[.int .u8 k.nm,.slice a1 n1 c1,.slice a2 n2 c2,.slice a3 n3 c3,.slice a4 n4 c4,.slice a5 n5 c5]] [.cell 2 30] Tryz.func21 ?_;intro b1 b2;refine m9 (λ_ kz=>kz _ _ ?_);refine nQ [.hp (Hp.whole w),.box b1 [.int .u8 k.nm,.slice a1 n1 c1,.slice a2 n2 c2,.slice a3 n3 c3,.slice a4 n4 c4,.slice a5 n5 c5] 61,.box b2 [zs,zl,zl,zl,zl,zl] 30] λq' hq'=>?_;refine nwo ?_;apply hq';refine m9 λq' hq'=>?_;refine gF k.nm 5 (k.nm % 5) rfl rfl dc rfl ?_;refine k7 _ (λw' hm=>P1 112 (k.nm % 5) k.nm om hnm w') ?_;intro b4;obtain⟨nm,hnm2⟩ :∃x,x=gP 112 (k.nm % 5) k.nm:=⟨_,rfl⟩
 rw[<-hnm2];apply hq';refine m9 (λ_ kz=>kz _ _ ?_);obtain⟨P,hPd⟩ :∃P,P=LU (dF k.nm) 3 k.parts:=⟨_,rfl⟩
 have hPl:P.length<=3:=by rw[hPd,kU];omega
 obtain⟨I,hId⟩ :∃I,I=U0 k.nm P k.insts:=⟨_,rfl⟩
 obtain⟨D,hDd⟩ :∃D,D=LU (eM k.nm) 4 k.dims:=⟨_,rfl⟩
 obtain⟨C,hCd⟩ :∃C,C=LU (lZ k.nm D.length) 2 k.cons:=⟨_,rfl⟩
 obtain⟨R,hRd⟩ :∃R,R=LU (gC k.nm D.length) 2 k.gaps:=⟨_,rfl⟩
 have hDl:D.length<=4:=by rw[hDd,kU];omega
 have hCl:C.length<=2:=by rw[hCd,kU];omega
 have hRl:R.length<=2:=by rw[hRd,kU];omega
 have hIl:I.length<=3:=by
  rw[hId];unfold U0;split
  ·exact j0 _
  ·have:=kU (bG k.nm P) 3 k.insts;unfold LU at this;omega
 apply FJ;intro hC1;refine z6.mkS (Nat×Hp×Dw.Os) (λg=>[(1,.bx 1 0),(2,.bx 2 0),(3,.v (iQ k.nm)),(4,.bx 3 0),(5,.v (iQ g.1))]) (λg=>[.hp (Hp.whole w),.box b1 [.int .u8 k.nm,.slice a1 n1 c1,.slice a2 n2 c2,.slice a3 n3 c3,.slice a4 n4 c4,.slice a5 n5 c5] 61,.box b2 [zs,zl,zl,zl,zl,zl] 30,.box b4 [sv nm,g.2.2.v,zl,zl,zl,zl] 30,.hp g.2.1,.hp g.2.2.h]) (λg=>g.1<=3/\aR cN 83 3 g.2.1 g.2.2 (P.take g.1)) (λg=>3 - g.1) (0,Hp.emp,Dw.Os.nil) ⟨j0 _,by rw[Q0];exact aR.nil⟩ (y6.mk (λ_ _ h=>h.emp.emp) rfl rfl) ?_;rintro⟨i,HP,oP⟩ ⟨hi,hGP⟩ hsat;dsimp only at hi hGP ⊢;refine m9 λq' hq'=>?_;refine d9 (λt1=>?_) λt1=>?_
 ·apply hq';refine K9 (by rfl) (λt2=>?_) λt2=>?_
  ·have t2:=of_decide_eq_true t2;have hil:i < k.parts.length:=om
   obtain⟨x,hx⟩ :∃x,x=k.parts[i]'hil:=⟨_,rfl⟩
   have gx:=g.p x (by rw[hx];exact j5 hil);have eStep:P.take (i+1)=P.take i++[dF k.nm i x]:=by rw[hPd,hx];exact mV _ om hil
   obtain⟨x1,x2,x3,x4,x5⟩:=x;obtain⟨gx1,gx2,gx3,gx4,gx5⟩:=gx;dsimp only[i8] at gx1 gx2 gx3 gx4 gx5;refine nQ [.hp (Hp.whole w),.box b1 [.int .u8 k.nm,.slice a1 n1 c1,.slice a2 n2 c2,.slice a3 n3 c3,.slice a4 n4 c4,.slice a5 n5 c5] 61,.box b2 [zs,zl,zl,zl,zl,zl] 30,.box b4 [sv nm,oP.v,zl,zl,zl,zl] 30,.hp HP,.hp oP.h] λq' hq'=>?_;refine R2 cQ (e:=134) rfl h1 i rfl hil λb9 o9 cs hcs hR hcell=>?_;rw[<-hx] at hR;subst hR;refine nX cQ (i:=0) rfl hcell rfl ?_;intro b6;apply hq';clear hcell;obtain⟨lab,hlab⟩ :∃y,y=gP 113 i (k.nm / 2):=⟨_,rfl⟩
   refine u6.cut Nat (λg=>[(1,.bx 1 0),(2,.bx 2 0),(3,.v (iQ k.nm)),(4,.bx 3 0),(5,.v (iQ i)),(6,.bx 6 0),(7,.bx 7 0)]) (λg=>[.hp (Hp.whole w),.box b1 [.int .u8 k.nm,.slice a1 n1 c1,.slice a2 n2 c2,.slice a3 n3 c3,.slice a4 n4 c4,.slice a5 n5 c5] 61,.box b2 [zs,zl,zl,zl,zl,zl] 30,.box b4 [sv nm,oP.v,zl,zl,zl,zl] 30,.hp HP,.hp oP.h,.box b6 [.int .i8 x1,.int .i8 x2,.int .i8 x3,.int .i8 x4,.int .i8 x5] 134,.box g [sv lab,iQ (1+((u8 x1:Nat):Int)),zl] 83]) (λ_=>True) (u6.by_order cQ (.take 0 <| .take 1 <| .take 2 <| .take 4 <| .take 5 <| .take 6 <| .take 7 <| .take 8 <| .two 3 (.take 9 <| .run 10 <| .run 11 <| .done) 10 (.run 3 <| .take 9 <| .run 11 <| .done)) kr ?_) ?_
   ·refine DN k.nm 1 rfl dc ?_;refine gJ (EZ x1) ?_;have hu:=OU x1;(iterate 2 refine nwo ?_);constructor
    focus
     refine k7 _ (λw' hm=>P1 113 i (k.nm / 2 ^ 1) om (p8 (D0 _ _) hnm) w') ?_;rw[show k.nm / 2 ^ 1=k.nm / 2 from rfl,<-hlab];refine⟨sK,?_⟩;intro b7
    rotate_left
    focus
     intro b7;refine⟨sK,?_⟩;refine k7 _ (λw' hm=>P1 113 i (k.nm / 2 ^ 1) om (p8 (D0 _ _) hnm) w') ?_;rw[show k.nm / 2 ^ 1=k.nm / 2 from rfl,<-hlab]
    all_goals
     first
     | exact⟨b7,trivial,y6.mk (λ_ _ h=>h) rfl rfl⟩
     | exact⟨sK,b7,trivial,y6.mk (λ_ _ h=>h) rfl rfl⟩
     | exact⟨sK,sK,b7,trivial,y6.mk (λ_ _ h=>h) rfl rfl⟩
   rintro b7 _ _;dsimp only;refine m9 (λ_ kz=>kz _ _ ?_);have hcx:u8 x2 % 3 < 3:=A6 _ dc;have hvx:u8 x3 % 4 < 4:=A6 _ dc;refine z6.mkS (Nat×Hp×Dw.Os) (λg=>[(1,.bx 1 0),(2,.bx 2 0),(3,.v (iQ k.nm)),(4,.bx 3 0),(5,.v (iQ i)),(6,.bx 6 0),(7,.bx 7 0),(8,.v (iQ g.1))]) (λg=>[.hp (Hp.whole w),.box b1 [.int .u8 k.nm,.slice a1 n1 c1,.slice a2 n2 c2,.slice a3 n3 c3,.slice a4 n4 c4,.slice a5 n5 c5] 61,.box b2 [zs,zl,zl,zl,zl,zl] 30,.box b4 [sv nm,oP.v,zl,zl,zl,zl] 30,.hp HP,.hp oP.h,.box b6 [.int .i8 x1,.int .i8 x2,.int .i8 x3,.int .i8 x4,.int .i8 x5] 134,.box b7 [sv lab,iQ (1+((u8 x1:Nat):Int)),g.2.2.v] 83,.hp g.2.1,.hp g.2.2.h]) (λg=>g.1<=u8 x2 % 3/\aR GW 86 1 g.2.1 g.2.2 ((x8 g.1).map (dV (x1,x2,x3,x4,x5)))) (λg=>3 - g.1) (0,Hp.emp,Dw.Os.nil) ⟨j0 _,aR.nil⟩ (y6.mk (λ_ _ h=>h.emp.emp) rfl rfl) ?_;rintro⟨c,HC,oC⟩ ⟨hc,hGC⟩ hsat2;dsimp only at hc hGC ⊢;refine m9 λq' hq'=>?_;refine gJ (EZ x2) ?_;refine gF (u8 x2) 3 (u8 x2 % 3) rfl rfl dc rfl ?_;refine nwo ?_;apply hq';refine K9 (by rfl) (λt3=>?_) λt3=>?_
   ·have t3:=of_decide_eq_true t3;refine m9 λq' hq'=>?_;intro b9;apply hq';refine m9 (λ_ kz=>kz _ _ ?_);refine z6.mkS (Nat×Dw.Os) (λg=>[(1,.bx 1 0),(2,.bx 2 0),(3,.v (iQ k.nm)),(4,.bx 3 0),(5,.v (iQ i)),(6,.bx 6 0),(7,.bx 7 0),(8,.v (iQ c)),(9,.bx 10 0),(10,.v (iQ g.1))]) (λg=>[.hp (Hp.whole w),.box b1 [.int .u8 k.nm,.slice a1 n1 c1,.slice a2 n2 c2,.slice a3 n3 c3,.slice a4 n4 c4,.slice a5 n5 c5] 61,.box b2 [zs,zl,zl,zl,zl,zl] 30,.box b4 [sv nm,oP.v,zl,zl,zl,zl] 30,.hp HP,.hp oP.h,.box b6 [.int .i8 x1,.int .i8 x2,.int .i8 x3,.int .i8 x4,.int .i8 x5] 134,.box b7 [sv lab,iQ (1+((u8 x1:Nat):Int)),oC.v] 83,.hp HC,.hp oC.h,.box b9 [g.2.v] 86,.hp g.2.h]) (λg=>g.1<=u8 x3 % 4/\w5 ZK 122 3 g.2 ((x8 g.1).map (xH (x1,x2,x3,x4,x5) c))) (λg=>4 - g.1) (0,Dw.Os.nil) ⟨j0 _,w5.nil _ _ _⟩ (y6.mk (λ_ _ h=>h.emp) rfl rfl) ?_;rintro⟨v,oV⟩ ⟨hv,hOV⟩ hsat3;dsimp only at hv hOV ⊢;refine m9 λq' hq'=>?_;refine gJ (EZ x3) ?_;refine gF (u8 x3) 4 (u8 x3 % 4) rfl rfl dc rfl ?_;refine nwo ?_;apply hq';refine K9 (by rfl) (λt4=>?_) λt4=>?_
    ·have t4:=of_decide_eq_true t4;refine nQ [.hp (Hp.whole w),.box b1 [.int .u8 k.nm,.slice a1 n1 c1,.slice a2 n2 c2,.slice a3 n3 c3,.slice a4 n4 c4,.slice a5 n5 c5] 61,.box b2 [zs,zl,zl,zl,zl,zl] 30,.box b4 [sv nm,oP.v,zl,zl,zl,zl] 30,.hp HP,.hp oP.h,.box b6 [.int .i8 x1,.int .i8 x2,.int .i8 x3,.int .i8 x4,.int .i8 x5] 134,.box b7 [sv lab,iQ (1+((u8 x1:Nat):Int)),oC.v] 83,.hp HC,.hp oC.h,.box b9 [oV.v] 86,.hp oV.h] λq' hq'=>?_;(iterate 5 refine nwo ?_);intro b11;refine gZ (f:=ZK) cQ (e:=122) rfl (i:=11) rfl hOV (xH (x1,x2,x3,x4,x5) c v) (j:=12) rfl rfl rfl rfl (by rw[j6,K7];omega) λo2 hO2=>?_;apply hq';refine m9 λq' hq'=>?_;refine nwo ?_;apply hq';exact⟨(v+1,o2),⟨by dsimp only;omega,by dsimp only;rw[AD];exact hO2⟩,by dsimp only;omega,y6.mk (pj [0,1,2,3,4,5,6,7,8,9,10,11]) rfl rfl⟩
    ·have t4:=of_decide_eq_false t4;have hve:v=u8 x3 % 4:=om
     have eC:dV (x1,x2,x3,x4,x5) c=(x8 v).map (xH (x1,x2,x3,x4,x5) c):=by rw[hve];rfl
     refine nQ [.hp (Hp.whole w),.box b1 [.int .u8 k.nm,.slice a1 n1 c1,.slice a2 n2 c2,.slice a3 n3 c3,.slice a4 n4 c4,.slice a5 n5 c5] 61,.box b2 [zs,zl,zl,zl,zl,zl] 30,.box b4 [sv nm,oP.v,zl,zl,zl,zl] 30,.hp HP,.hp oP.h,.box b6 [.int .i8 x1,.int .i8 x2,.int .i8 x3,.int .i8 x4,.int .i8 x5] 134,.box b7 [sv lab,iQ (1+((u8 x1:Nat):Int)),oC.v] 83,.hp HC,.hp oC.h,.box b9 [oV.v] 86,.hp oV.h] λq' hq'=>?_;intro b11;refine qM (R:=GW) (o:=oC) (L:=(x8 c).map (dV (x1,x2,x3,x4,x5))) (H:=HC.join oV.h) cQ (e:=86) rfl (i:=9) rfl (λ_=>hGC.mono fN (Hp.le_join_l _ _)) (dV (x1,x2,x3,x4,x5) c) [oV.v] (j:=12) rfl rfl rfl rfl (by rw[j6,K7];omega) (λhs=>?_) λo2 _ hG2=>?_
     ·obtain⟨w0,w',hok⟩:=hs;exact⟨oV.a,oV.n,oV.c,rfl,by rw[eC];exact (w5.sl (f:=ZK) (sz:=3) (λ_=>rfl) dc hOV).mono (j7 _) (Hp.le_join_r (hok.disj 8 11 _ _ dc rfl rfl))⟩
     apply hq';refine m9 λq' hq'=>?_;refine nwo ?_;apply hq';exact⟨(c+1,HC.join oV.h,o2),⟨by dsimp only;omega,by dsimp only;rw[AD];exact hG2⟩,by dsimp only;omega,y6.mk (λ_ _ h=>(Ok.join (h.pick [0,8,11,1,2,3,4,5,6,7,9] rfl rfl)).pick [0,2,3,4,5,6,7,8,1,9] rfl rfl) rfl rfl⟩
   ·have t3:=of_decide_eq_false t3;have hce:c=u8 x2 % 3:=om
    have eX:dF k.nm i (x1,x2,x3,x4,x5)=(lab,1+((u8 x1:Nat):Int),(x8 c).map (dV (x1,x2,x3,x4,x5))):=by rw[hlab,hce];rfl
    refine nQ [.hp (Hp.whole w),.box b1 [.int .u8 k.nm,.slice a1 n1 c1,.slice a2 n2 c2,.slice a3 n3 c3,.slice a4 n4 c4,.slice a5 n5 c5] 61,.box b2 [zs,zl,zl,zl,zl,zl] 30,.box b4 [sv nm,oP.v,zl,zl,zl,zl] 30,.hp HP,.hp oP.h,.box b6 [.int .i8 x1,.int .i8 x2,.int .i8 x3,.int .i8 x4,.int .i8 x5] 134,.box b7 [sv lab,iQ (1+((u8 x1:Nat):Int)),oC.v] 83,.hp HC,.hp oC.h] λq' hq'=>?_;intro b11;refine qM (R:=cN) (o:=oP) (L:=P.take i) (H:=HP.join (HC.join oC.h)) cQ (e:=83) rfl (i:=5) rfl (λ_=>hGP.mono J0 (Hp.le_join_l _ _)) (dF k.nm i (x1,x2,x3,x4,x5)) [sv lab,iQ (1+((u8 x1:Nat):Int)),oC.v] (j:=10) rfl rfl rfl rfl (by rw[j1];omega) (λhs=>?_) λo2 _ hG2=>?_
    ·obtain⟨w0,w',hok⟩:=hs;have d1:HP.dj (HC.join oC.h):=YH (hok.disj 4 8 _ _ dc rfl rfl) (hok.disj 4 9 _ _ dc rfl rfl);have d2:HC.dj oC.h:=hok.disj 8 9 _ _ dc rfl rfl;rw[eX];exact⟨oC.a,oC.n,oC.c,rfl,hGC.sl fN dc ((Hp.le_join_l _ _).trans (Hp.le_join_r d1)) ((Hp.le_join_r d2).trans (Hp.le_join_r d1))⟩
    apply hq';refine m9 λq' hq'=>?_;refine nwo ?_;apply hq';exact⟨(i+1,HP.join (HC.join oC.h),o2),⟨by dsimp only;omega,by dsimp only;rw[eStep];exact hG2⟩,by dsimp only;omega,y6.mk (λ_ _ h=>(Ok.join (c:=.hp (Hp.whole w)) (d:=.hp HP) (e:=.hp (HC.join oC.h)) ((Ok.join (h.pick [0,8,9,4,1,2,3,5] rfl rfl)).pick [0,2,1,3,4,5,6] rfl rfl)).pick [0,2,3,4,1,5] rfl rfl) rfl rfl⟩
  ·have t2:=of_decide_eq_false t2;have eP:P.take i=P:=by rw[hPd];exact iF _ om
   rw[eP] at hGP;refine m9 (λ_ kz=>kz _ _ ?_);exact z6.mkS (Hp×Dw.Os×Nat×Dw.Os) (λg=>[(1,.bx 1 0),(2,.bx 2 0),(3,.v (iQ k.nm)),(4,.bx 3 0),(11,.v (iQ g.2.2.1))]) (λg=>[.hp (Hp.whole w),.box b1 [.int .u8 k.nm,.slice a1 n1 c1,.slice a2 n2 c2,.slice a3 n3 c3,.slice a4 n4 c4,.slice a5 n5 c5] 61,.box b2 [zs,zl,zl,zl,zl,zl] 30,.box b4 [sv nm,g.2.1.v,g.2.2.2.v,zl,zl,zl] 30,.hp g.1,.hp g.2.1.h,.hp g.2.2.2.h]) (λg=>g.2.2.1<=3/\aR cN 83 3 g.1 g.2.1 P/\w5 fF 93 9 g.2.2.2 (I.take g.2.2.1)) (λg=>3 - g.2.2.1) (HP,oP,0,Dw.Os.nil) ⟨j0 _,hGP,by rw[Q0];exact w5.nil _ _ _⟩ (y6.mk (λ_ _ h=>h.emp) rfl rfl) hC1.h
 ·apply hq';refine dU rfl ?_;have eP:P.take i=P:=by rw[hPd];exact iF _ om
  rw[eP] at hGP;refine m9 (λ_ kz=>kz _ _ ?_);exact z6.mkS (Hp×Dw.Os×Nat×Dw.Os) (λg=>[(1,.bx 1 0),(2,.bx 2 0),(3,.v (iQ k.nm)),(4,.bx 3 0),(11,.v (iQ g.2.2.1))]) (λg=>[.hp (Hp.whole w),.box b1 [.int .u8 k.nm,.slice a1 n1 c1,.slice a2 n2 c2,.slice a3 n3 c3,.slice a4 n4 c4,.slice a5 n5 c5] 61,.box b2 [zs,zl,zl,zl,zl,zl] 30,.box b4 [sv nm,g.2.1.v,g.2.2.2.v,zl,zl,zl] 30,.hp g.1,.hp g.2.1.h,.hp g.2.2.2.h]) (λg=>g.2.2.1<=3/\aR cN 83 3 g.1 g.2.1 P/\w5 fF 93 9 g.2.2.2 (I.take g.2.2.1)) (λg=>3 - g.2.2.1) (HP,oP,0,Dw.Os.nil) ⟨j0 _,hGP,by rw[Q0];exact w5.nil _ _ _⟩ (y6.mk (λ_ _ h=>h.emp) rfl rfl) hC1.h
 apply FJ;intro hC2;rintro⟨HP,oP,i,oI⟩ ⟨hi,hGP,hOI⟩ hsat;dsimp only at hi hGP hOI ⊢;have hPn:=hGP.len;refine m9 λq' hq'=>?_;refine d9 (λt1=>?_) λt1=>?_
 ·refine d9 (λt2=>?_) λt2=>?_;focus
   apply hq';refine K9 (by rfl) (λt3=>?_) λt3=>?_
   ·have t3:=of_decide_eq_true t3;have hil:i < k.insts.length:=om
    have hPp:0 < P.length:=om
    obtain⟨x,hx⟩ :∃x,x=k.insts[i]'hil:=⟨_,rfl⟩
    have gx:=g.i x (by rw[hx];exact j5 hil);have eStep:I.take (i+1)=I.take i++[bG k.nm P i x]:=by rw[hId,hx];exact SW hPp om hil
    obtain⟨x1,x2,x3,x4,x5,x6⟩:=x;obtain⟨gx1,gx2,gx3,gx4,gx5,gx6⟩:=gx;dsimp only[i8] at gx1 gx2 gx3 gx4 gx5 gx6;refine nQ [.hp (Hp.whole w),.box b1 [.int .u8 k.nm,.slice a1 n1 c1,.slice a2 n2 c2,.slice a3 n3 c3,.slice a4 n4 c4,.slice a5 n5 c5] 61,.box b2 [zs,zl,zl,zl,zl,zl] 30,.box b4 [sv nm,oP.v,oI.v,zl,zl,zl] 30,.hp HP,.hp oP.h,.hp oI.h] λq' hq'=>?_;refine R2 cQ (e:=136) rfl h2 i rfl hil λb9 o9 cs hcs hR hcell=>?_;rw[<-hx] at hR;subst hR;refine nX cQ (i:=0) rfl hcell rfl ?_;intro b12;apply hq';clear hcell;obtain⟨lab,hlab⟩ :∃y,y=gP 105 i (k.nm / 4):=⟨_,rfl⟩
    have hu:=OU x1;have hjl:u8 x1 % P.length < P.length:=A6 _ hPp;obtain⟨pn,hpn⟩ :∃y,y=(P[u8 x1 % P.length]'hjl).1:=⟨_,rfl⟩
    obtain⟨C0,hC0,hC0l,hC0R⟩:=aR.name dc hGP;have hR0:=hC0R (u8 x1 % P.length) hjl om;refine u6.cut Nat (λg=>[(1,.bx 1 0),(2,.bx 2 0),(3,.v (iQ k.nm)),(4,.bx 3 0),(11,.v (iQ i)),(12,.bx 7 0),(13,.bx 8 0)]) (λg=>[.hp (Hp.whole w),.box b1 [.int .u8 k.nm,.slice a1 n1 c1,.slice a2 n2 c2,.slice a3 n3 c3,.slice a4 n4 c4,.slice a5 n5 c5] 61,.box b2 [zs,zl,zl,zl,zl,zl] 30,.box b4 [sv nm,oP.v,oI.v,zl,zl,zl] 30,.hp HP,.hp oP.h,.hp oI.h,.box b12 [.int .i8 x1,.int .i8 x2,.int .i8 x3,.int .i8 x4,.int .i8 x5,.int .i8 x6] 136,.box g [sv lab,sv pn,iQ (0),iQ (0),iQ (0),iQ (0),sv ([]),sv ([]),sv ([])] 93]) (λ_=>True) (u6.by_order cQ (.take 0 <| .take 1 <| .take 2 <| .take 4 <| .take 5 <| .take 6 <| .take 7 <| .take 8 <| .take 9 <| .take 10 <| .take 11 <| .take 12 <| .take 13 <| .take 14 <| .take 15 <| .take 16 <| .take 17 <| .take 18 <| .two 3 (.take 19 <| .run 20 <| .run 21 <| .done) 20 (.run 3 <| .take 19 <| .run 21 <| .done)) kr ?_) ?_
    ·refine DN k.nm 2 rfl dc ?_;refine gJ (EZ x1) ?_;refine nwo ?_;refine gF (u8 x1) P.length (u8 x1 % P.length) rfl om hPp rfl ?_;refine R2 cQ (e:=83) rfl hC0 (u8 x1 % P.length) rfl om λb8 o8 cs hcs hR hcell=>?_;have hR:cs=(C0[u8 x1 % P.length]'om).1:=hR;obtain⟨a9,n9,c9,e9,_⟩:=hR0;rw[e9] at hR;subst hR;refine lQ 5 (hcell 0 _ rfl) ?_;rw[<-hpn];constructor
     focus
      refine k7 _ (λw' hm=>P1 105 i (k.nm / 2 ^ 2) om (p8 (D0 _ _) hnm) w') ?_;rw[show k.nm / 2 ^ 2=k.nm / 4 from rfl,<-hlab];refine⟨sK,?_⟩;intro b13
     rotate_left
     focus
      intro b13;refine⟨sK,?_⟩;refine k7 _ (λw' hm=>P1 105 i (k.nm / 2 ^ 2) om (p8 (D0 _ _) hnm) w') ?_;rw[show k.nm / 2 ^ 2=k.nm / 4 from rfl,<-hlab]
     all_goals
      first
      | exact⟨b13,trivial,y6.mk (λ_ _ h=>h) rfl rfl⟩
      | exact⟨sK,b13,trivial,y6.mk (λ_ _ h=>h) rfl rfl⟩
    rintro b13 _ _;dsimp only;refine m9 (λ_ kz=>kz _ _ ?_);obtain⟨tq,htq⟩ :∃tq:List Int,tq = [x2.tmod 13,x3.tmod 13,x4.tmod 13,x5.tmod 13]:=⟨_,rfl⟩
    refine z6.mkS Nat (λg=>[(1,.bx 1 0),(2,.bx 2 0),(3,.v (iQ k.nm)),(4,.bx 3 0),(11,.v (iQ i)),(12,.bx 7 0),(13,.bx 8 0),(14,.v (iQ g))]) (λg=>[.hp (Hp.whole w),.box b1 [.int .u8 k.nm,.slice a1 n1 c1,.slice a2 n2 c2,.slice a3 n3 c3,.slice a4 n4 c4,.slice a5 n5 c5] 61,.box b2 [zs,zl,zl,zl,zl,zl] 30,.box b4 [sv nm,oP.v,oI.v,zl,zl,zl] 30,.hp HP,.hp oP.h,.hp oI.h,.box b12 [.int .i8 x1,.int .i8 x2,.int .i8 x3,.int .i8 x4,.int .i8 x5,.int .i8 x6] 136,.box b13 (Kj lab pn (tq.take g) []) 93]) (λg=>g<=4) (λg=>4 - g) 0 (j0 _) (y6.mk (λ_ _ h=>h) rfl rfl) ?_;rintro j hj _;match j,hj with
    | 0,_=>
     refine m9 λq' hq'=>?_;apply hq';refine K9 (by rfl) (λ_=>?_) (λh=>absurd h dc);refine cD [.hp (Hp.whole w),.box b1 [.int .u8 k.nm,.slice a1 n1 c1,.slice a2 n2 c2,.slice a3 n3 c3,.slice a4 n4 c4,.slice a5 n5 c5] 61,.box b2 [zs,zl,zl,zl,zl,zl] 30,.box b4 [sv nm,oP.v,oI.v,zl,zl,zl] 30,.hp HP,.hp oP.h,.hp oI.h,.box b12 [.int .i8 x1,.int .i8 x2,.int .i8 x3,.int .i8 x4,.int .i8 x5,.int .i8 x6] 136,.box b13 [sv lab,sv pn,iQ (0),iQ (0),iQ (0),iQ (0),sv ([]),sv ([]),sv ([])] 93] (by rw[htq];rfl) ?_;refine m9 λq' hq'=>?_;(iterate 2 refine nwo ?_);refine PH x2 13 dc ?_;apply hq';refine m9 λq' hq'=>?_;refine nwo ?_;apply hq';exact⟨1,dc,dc,y6.mk (λ_ _ h=>by rw[htq];exact h) rfl rfl⟩
    | 1,_=>
     refine m9 λq' hq'=>?_;apply hq';refine K9 (by rfl) (λ_=>?_) (λh=>absurd h dc);refine cD [.hp (Hp.whole w),.box b1 [.int .u8 k.nm,.slice a1 n1 c1,.slice a2 n2 c2,.slice a3 n3 c3,.slice a4 n4 c4,.slice a5 n5 c5] 61,.box b2 [zs,zl,zl,zl,zl,zl] 30,.box b4 [sv nm,oP.v,oI.v,zl,zl,zl] 30,.hp HP,.hp oP.h,.hp oI.h,.box b12 [.int .i8 x1,.int .i8 x2,.int .i8 x3,.int .i8 x4,.int .i8 x5,.int .i8 x6] 136,.box b13 [sv lab,sv pn,iQ (x2.tmod 13),iQ (0),iQ (0),iQ (0),sv ([]),sv ([]),sv ([])] 93] (by rw[htq];rfl) ?_;refine m9 λq' hq'=>?_;(iterate 2 refine nwo ?_);refine PH x3 13 dc ?_;apply hq';refine m9 λq' hq'=>?_;refine nwo ?_;apply hq';exact⟨2,dc,dc,y6.mk (λ_ _ h=>by rw[htq];exact h) rfl rfl⟩
    | 2,_=>
     refine m9 λq' hq'=>?_;apply hq';refine K9 (by rfl) (λ_=>?_) (λh=>absurd h dc);refine cD [.hp (Hp.whole w),.box b1 [.int .u8 k.nm,.slice a1 n1 c1,.slice a2 n2 c2,.slice a3 n3 c3,.slice a4 n4 c4,.slice a5 n5 c5] 61,.box b2 [zs,zl,zl,zl,zl,zl] 30,.box b4 [sv nm,oP.v,oI.v,zl,zl,zl] 30,.hp HP,.hp oP.h,.hp oI.h,.box b12 [.int .i8 x1,.int .i8 x2,.int .i8 x3,.int .i8 x4,.int .i8 x5,.int .i8 x6] 136,.box b13 [sv lab,sv pn,iQ (x2.tmod 13),iQ (x3.tmod 13),iQ (0),iQ (0),sv ([]),sv ([]),sv ([])] 93] (by rw[htq];rfl) ?_;refine m9 λq' hq'=>?_;(iterate 2 refine nwo ?_);refine PH x4 13 dc ?_;apply hq';refine m9 λq' hq'=>?_;refine nwo ?_;apply hq';exact⟨3,dc,dc,y6.mk (λ_ _ h=>by rw[htq];exact h) rfl rfl⟩
    | 3,_=>
     refine m9 λq' hq'=>?_;apply hq';refine K9 (by rfl) (λ_=>?_) (λh=>absurd h dc);refine cD [.hp (Hp.whole w),.box b1 [.int .u8 k.nm,.slice a1 n1 c1,.slice a2 n2 c2,.slice a3 n3 c3,.slice a4 n4 c4,.slice a5 n5 c5] 61,.box b2 [zs,zl,zl,zl,zl,zl] 30,.box b4 [sv nm,oP.v,oI.v,zl,zl,zl] 30,.hp HP,.hp oP.h,.hp oI.h,.box b12 [.int .i8 x1,.int .i8 x2,.int .i8 x3,.int .i8 x4,.int .i8 x5,.int .i8 x6] 136,.box b13 [sv lab,sv pn,iQ (x2.tmod 13),iQ (x3.tmod 13),iQ (x4.tmod 13),iQ (0),sv ([]),sv ([]),sv ([])] 93] (by rw[htq];rfl) ?_;refine m9 λq' hq'=>?_;(iterate 2 refine nwo ?_);refine PH x5 13 dc ?_;apply hq';refine m9 λq' hq'=>?_;refine nwo ?_;apply hq';exact⟨4,dc,dc,y6.mk (λ_ _ h=>by rw[htq];exact h) rfl rfl⟩
    | 4,_=>
     refine m9 λq' hq'=>?_;apply hq';refine K9 (by rfl) (λh=>absurd h dc) λ_=>?_;refine m9 (λ_ kz=>kz _ _ ?_);obtain⟨fq,hfq⟩ :∃fq:List d8,fq = [M8 x6 1,M8 (x6+1) 2,M8 (x6+2) 3]:=⟨_,rfl⟩
     refine z6.mkS Nat (λg=>[(1,.bx 1 0),(2,.bx 2 0),(3,.v (iQ k.nm)),(4,.bx 3 0),(11,.v (iQ i)),(12,.bx 7 0),(13,.bx 8 0),(15,.v (iQ g))]) (λg=>[.hp (Hp.whole w),.box b1 [.int .u8 k.nm,.slice a1 n1 c1,.slice a2 n2 c2,.slice a3 n3 c3,.slice a4 n4 c4,.slice a5 n5 c5] 61,.box b2 [zs,zl,zl,zl,zl,zl] 30,.box b4 [sv nm,oP.v,oI.v,zl,zl,zl] 30,.hp HP,.hp oP.h,.hp oI.h,.box b12 [.int .i8 x1,.int .i8 x2,.int .i8 x3,.int .i8 x4,.int .i8 x5,.int .i8 x6] 136,.box b13 (Kj lab pn tq (fq.take g)) 93]) (λg=>g<=3) (λg=>3 - g) 0 (j0 _) (y6.mk (λ_ _ h=>by rw[htq] at h ⊢;exact h) rfl rfl) ?_;rintro j hj _;match j,hj with
     | 0,_=>
      refine m9 λq' hq'=>?_;apply hq';refine K9 (by rfl) (λ_=>?_) (λh=>absurd h dc);refine cD [.hp (Hp.whole w),.box b1 [.int .u8 k.nm,.slice a1 n1 c1,.slice a2 n2 c2,.slice a3 n3 c3,.slice a4 n4 c4,.slice a5 n5 c5] 61,.box b2 [zs,zl,zl,zl,zl,zl] 30,.box b4 [sv nm,oP.v,oI.v,zl,zl,zl] 30,.hp HP,.hp oP.h,.hp oI.h,.box b12 [.int .i8 x1,.int .i8 x2,.int .i8 x3,.int .i8 x4,.int .i8 x5,.int .i8 x6] 136,.box b13 [sv lab,sv pn,iQ (x2.tmod 13),iQ (x3.tmod 13),iQ (x4.tmod 13),iQ (x5.tmod 13),sv ([]),sv ([]),sv ([])] 93] (by rw[htq,hfq];rfl) ?_;refine m9 λq' hq'=>?_;refine nwo ?_;refine AK (y:=x6) om om om ?_;refine call (λw' hm=>S5 x6 om om w') ?_;rintro _ _ ⟨g1,a1',n1',c1',rfl,rfl,e1⟩;refine AK (y:=1) om om om ?_;refine call (λw' hm=>S5 1 dc dc w') ?_;rintro _ _ ⟨g2,a2',n2',c2',rfl,rfl,e2⟩;refine call (λw' hm=>pW (m:=1) w' (e1.mono (hm 9 _ rfl).whole) (e2.mono (hm 10 _ rfl).whole) dc) ?_;rintro _ _ ⟨g3,p1,q1,r1,p2,q2,r2,rfl,rfl,d1,d2⟩;intro b16;apply hq';refine nQ [.hp (Hp.whole w),.box b1 [.int .u8 k.nm,.slice a1 n1 c1,.slice a2 n2 c2,.slice a3 n3 c3,.slice a4 n4 c4,.slice a5 n5 c5] 61,.box b2 [zs,zl,zl,zl,zl,zl] 30,.box b4 [sv nm,oP.v,oI.v,zl,zl,zl] 30,.hp HP,.hp oP.h,.hp oI.h,.box b12 [.int .i8 x1,.int .i8 x2,.int .i8 x3,.int .i8 x4,.int .i8 x5,.int .i8 x6] 136,.box b13 [sv lab,sv pn,iQ (x2.tmod 13),iQ (x3.tmod 13),iQ (x4.tmod 13),iQ (x5.tmod 13),sv ([]),sv ([]),sv ([])] 93,.hp g1,.hp g2,.hp g3,.box b16 [.bool (decide (x6 < 0)),.slice p1 q1 r1,.bool false,.slice p2 q2 r2] 141] λq' hq'=>?_;refine k7 _ (λw' hm=>iP (z:=x6) (m:=1) w' dc (d1.mono (hm 11 _ rfl).whole) (d2.mono (hm 11 _ rfl).whole) om dc (hP.mono (hm 0 _ rfl).whole)) ?_;apply hq';refine m9 λq' hq'=>?_;refine nwo ?_;apply hq';exact⟨1,dc,dc,y6.mk (λ_ _ h=>by rw[htq,hfq];exact h.pick [0,1,2,3,4,5,6,7,8] rfl rfl) rfl rfl⟩
     | 1,_=>
      refine m9 λq' hq'=>?_;apply hq';refine K9 (by rfl) (λ_=>?_) (λh=>absurd h dc);refine cD [.hp (Hp.whole w),.box b1 [.int .u8 k.nm,.slice a1 n1 c1,.slice a2 n2 c2,.slice a3 n3 c3,.slice a4 n4 c4,.slice a5 n5 c5] 61,.box b2 [zs,zl,zl,zl,zl,zl] 30,.box b4 [sv nm,oP.v,oI.v,zl,zl,zl] 30,.hp HP,.hp oP.h,.hp oI.h,.box b12 [.int .i8 x1,.int .i8 x2,.int .i8 x3,.int .i8 x4,.int .i8 x5,.int .i8 x6] 136,.box b13 [sv lab,sv pn,iQ (x2.tmod 13),iQ (x3.tmod 13),iQ (x4.tmod 13),iQ (x5.tmod 13),sv (M8 x6 1),sv ([]),sv ([])] 93] (by rw[htq,hfq];rfl) ?_;refine m9 λq' hq'=>?_;refine nwo ?_;refine AK (y:=(x6+1)) om om om ?_;refine call (λw' hm=>S5 (x6+1) om om w') ?_;rintro _ _ ⟨g1,a1',n1',c1',rfl,rfl,e1⟩;refine AK (y:=2) om om om ?_;refine call (λw' hm=>S5 2 dc dc w') ?_;rintro _ _ ⟨g2,a2',n2',c2',rfl,rfl,e2⟩;refine call (λw' hm=>pW (m:=2) w' (e1.mono (hm 9 _ rfl).whole) (e2.mono (hm 10 _ rfl).whole) dc) ?_;rintro _ _ ⟨g3,p1,q1,r1,p2,q2,r2,rfl,rfl,d1,d2⟩;intro b16;apply hq';refine nQ [.hp (Hp.whole w),.box b1 [.int .u8 k.nm,.slice a1 n1 c1,.slice a2 n2 c2,.slice a3 n3 c3,.slice a4 n4 c4,.slice a5 n5 c5] 61,.box b2 [zs,zl,zl,zl,zl,zl] 30,.box b4 [sv nm,oP.v,oI.v,zl,zl,zl] 30,.hp HP,.hp oP.h,.hp oI.h,.box b12 [.int .i8 x1,.int .i8 x2,.int .i8 x3,.int .i8 x4,.int .i8 x5,.int .i8 x6] 136,.box b13 [sv lab,sv pn,iQ (x2.tmod 13),iQ (x3.tmod 13),iQ (x4.tmod 13),iQ (x5.tmod 13),sv (M8 x6 1),sv ([]),sv ([])] 93,.hp g1,.hp g2,.hp g3,.box b16 [.bool (decide ((x6+1) < 0)),.slice p1 q1 r1,.bool false,.slice p2 q2 r2] 141] λq' hq'=>?_;refine k7 _ (λw' hm=>iP (z:=(x6+1)) (m:=2) w' dc (d1.mono (hm 11 _ rfl).whole) (d2.mono (hm 11 _ rfl).whole) om dc (hP.mono (hm 0 _ rfl).whole)) ?_;apply hq';refine m9 λq' hq'=>?_;refine nwo ?_;apply hq';exact⟨2,dc,dc,y6.mk (λ_ _ h=>by rw[htq,hfq];exact h.pick [0,1,2,3,4,5,6,7,8] rfl rfl) rfl rfl⟩
     | 2,_=>
      refine m9 λq' hq'=>?_;apply hq';refine K9 (by rfl) (λ_=>?_) (λh=>absurd h dc);refine cD [.hp (Hp.whole w),.box b1 [.int .u8 k.nm,.slice a1 n1 c1,.slice a2 n2 c2,.slice a3 n3 c3,.slice a4 n4 c4,.slice a5 n5 c5] 61,.box b2 [zs,zl,zl,zl,zl,zl] 30,.box b4 [sv nm,oP.v,oI.v,zl,zl,zl] 30,.hp HP,.hp oP.h,.hp oI.h,.box b12 [.int .i8 x1,.int .i8 x2,.int .i8 x3,.int .i8 x4,.int .i8 x5,.int .i8 x6] 136,.box b13 [sv lab,sv pn,iQ (x2.tmod 13),iQ (x3.tmod 13),iQ (x4.tmod 13),iQ (x5.tmod 13),sv (M8 x6 1),sv (M8 (x6+1) 2),sv ([])] 93] (by rw[htq,hfq];rfl) ?_;refine m9 λq' hq'=>?_;refine nwo ?_;refine AK (y:=(x6+2)) om om om ?_;refine call (λw' hm=>S5 (x6+2) om om w') ?_;rintro _ _ ⟨g1,a1',n1',c1',rfl,rfl,e1⟩;refine AK (y:=3) om om om ?_;refine call (λw' hm=>S5 3 dc dc w') ?_;rintro _ _ ⟨g2,a2',n2',c2',rfl,rfl,e2⟩;refine call (λw' hm=>pW (m:=3) w' (e1.mono (hm 9 _ rfl).whole) (e2.mono (hm 10 _ rfl).whole) dc) ?_;rintro _ _ ⟨g3,p1,q1,r1,p2,q2,r2,rfl,rfl,d1,d2⟩;intro b16;apply hq';refine nQ [.hp (Hp.whole w),.box b1 [.int .u8 k.nm,.slice a1 n1 c1,.slice a2 n2 c2,.slice a3 n3 c3,.slice a4 n4 c4,.slice a5 n5 c5] 61,.box b2 [zs,zl,zl,zl,zl,zl] 30,.box b4 [sv nm,oP.v,oI.v,zl,zl,zl] 30,.hp HP,.hp oP.h,.hp oI.h,.box b12 [.int .i8 x1,.int .i8 x2,.int .i8 x3,.int .i8 x4,.int .i8 x5,.int .i8 x6] 136,.box b13 [sv lab,sv pn,iQ (x2.tmod 13),iQ (x3.tmod 13),iQ (x4.tmod 13),iQ (x5.tmod 13),sv (M8 x6 1),sv (M8 (x6+1) 2),sv ([])] 93,.hp g1,.hp g2,.hp g3,.box b16 [.bool (decide ((x6+2) < 0)),.slice p1 q1 r1,.bool false,.slice p2 q2 r2] 141] λq' hq'=>?_;refine k7 _ (λw' hm=>iP (z:=(x6+2)) (m:=3) w' dc (d1.mono (hm 11 _ rfl).whole) (d2.mono (hm 11 _ rfl).whole) om dc (hP.mono (hm 0 _ rfl).whole)) ?_;apply hq';refine m9 λq' hq'=>?_;refine nwo ?_;apply hq';exact⟨3,dc,dc,y6.mk (λ_ _ h=>by rw[htq,hfq];exact h.pick [0,1,2,3,4,5,6,7,8] rfl rfl) rfl rfl⟩
     | 3,_=>
      refine m9 λq' hq'=>?_;apply hq';refine K9 (by rfl) (λh=>absurd h dc) λ_=>?_;have eX:bG k.nm P i (x1,x2,x3,x4,x5,x6)=(lab,pn,(x2.tmod 13,x3.tmod 13,x4.tmod 13,x5.tmod 13),(M8 x6 1,M8 (x6+1) 2,M8 (x6+2) 3)):=by
       rw[hlab,hpn];unfold bG;rw[e8,i7 hjl];rfl
      refine cD [.hp (Hp.whole w),.box b1 [.int .u8 k.nm,.slice a1 n1 c1,.slice a2 n2 c2,.slice a3 n3 c3,.slice a4 n4 c4,.slice a5 n5 c5] 61,.box b2 [zs,zl,zl,zl,zl,zl] 30,.box b4 [sv nm,oP.v,oI.v,zl,zl,zl] 30,.hp HP,.hp oP.h,.hp oI.h,.box b12 [.int .i8 x1,.int .i8 x2,.int .i8 x3,.int .i8 x4,.int .i8 x5,.int .i8 x6] 136,.box b13 (fF (bG k.nm P i (x1,x2,x3,x4,x5,x6))) 93] (by rw[eX,htq,hfq];rfl) ?_;rw[eX];refine m9 λq' hq'=>?_;intro b14;refine gZ (f:=fF) cQ (e:=93) rfl (i:=6) rfl hOI (lab,pn,(x2.tmod 13,x3.tmod 13,x4.tmod 13,x5.tmod 13),(M8 x6 1,M8 (x6+1) 2,M8 (x6+2) 3)) (j:=9) rfl rfl rfl rfl (by rw[j1];omega) λo2 hO2=>?_;apply hq';refine m9 λq' hq'=>?_;refine nwo ?_;apply hq';exact⟨(HP,oP,i+1,o2),⟨by dsimp only;omega,hGP,by dsimp only;rw[eStep,eX];exact hO2⟩,by dsimp only;omega,y6.mk (pj [0,1,2,3,4,5,6]) rfl rfl⟩
   focus
    have t3:=of_decide_eq_false t3
  rotate_left
  focus
   apply hq';refine dU rfl ?_
  all_goals
   have eI:I.take i=I:=by rw[hId];exact KA om
   rw[eI] at hOI;refine m9 (λ_ kz=>kz _ _ ?_);exact z6.mkS (Hp×Dw.Os×Dw.Os×Nat×Dw.Os) (λg=>[(1,.bx 1 0),(2,.bx 2 0),(3,.v (iQ k.nm)),(4,.bx 3 0),(18,.v (iQ g.2.2.2.1))]) (λg=>[.hp (Hp.whole w),.box b1 [.int .u8 k.nm,.slice a1 n1 c1,.slice a2 n2 c2,.slice a3 n3 c3,.slice a4 n4 c4,.slice a5 n5 c5] 61,.box b2 [zs,zl,zl,zl,zl,zl] 30,.box b4 [sv nm,g.2.1.v,g.2.2.1.v,g.2.2.2.2.v,zl,zl] 30,.hp g.1,.hp g.2.1.h,.hp g.2.2.1.h,.hp g.2.2.2.2.h]) (λg=>g.2.2.2.1<=4/\(aR cN 83 3 g.1 g.2.1 P/\w5 fF 93 9 g.2.2.1 I)/\w5 P2 48 4 g.2.2.2.2 (D.take g.2.2.2.1)) (λg=>4 - g.2.2.2.1) (HP,oP,oI,0,Dw.Os.nil) ⟨j0 _,⟨hGP,hOI⟩,by rw[Q0];exact w5.nil _ _ _⟩ (y6.mk (λ_ _ h=>h.emp) rfl rfl) hC2.h
 ·apply hq';refine dU rfl ?_;have eI:I.take i=I:=by rw[hId];exact KA om
  rw[eI] at hOI;refine m9 (λ_ kz=>kz _ _ ?_);exact z6.mkS (Hp×Dw.Os×Dw.Os×Nat×Dw.Os) (λg=>[(1,.bx 1 0),(2,.bx 2 0),(3,.v (iQ k.nm)),(4,.bx 3 0),(18,.v (iQ g.2.2.2.1))]) (λg=>[.hp (Hp.whole w),.box b1 [.int .u8 k.nm,.slice a1 n1 c1,.slice a2 n2 c2,.slice a3 n3 c3,.slice a4 n4 c4,.slice a5 n5 c5] 61,.box b2 [zs,zl,zl,zl,zl,zl] 30,.box b4 [sv nm,g.2.1.v,g.2.2.1.v,g.2.2.2.2.v,zl,zl] 30,.hp g.1,.hp g.2.1.h,.hp g.2.2.1.h,.hp g.2.2.2.2.h]) (λg=>g.2.2.2.1<=4/\(aR cN 83 3 g.1 g.2.1 P/\w5 fF 93 9 g.2.2.1 I)/\w5 P2 48 4 g.2.2.2.2 (D.take g.2.2.2.1)) (λg=>4 - g.2.2.2.1) (HP,oP,oI,0,Dw.Os.nil) ⟨j0 _,⟨hGP,hOI⟩,by rw[Q0];exact w5.nil _ _ _⟩ (y6.mk (λ_ _ h=>h.emp) rfl rfl) hC2.h
 apply FJ;intro hC3;rintro⟨HP,oP,oI,i,oD⟩ ⟨hi,hGI,hOD⟩ hsat;dsimp only at hi hGI hOD ⊢;refine m9 λq' hq'=>?_;refine d9 (λt1=>?_) λt1=>?_
 ·apply hq';refine K9 (by rfl) (λt2=>?_) λt2=>?_
  ·have t2:=of_decide_eq_true t2;have hil:i < k.dims.length:=om
   obtain⟨x,hx⟩ :∃x,x=k.dims[i]'hil:=⟨_,rfl⟩
   have gx:=g.d x (by rw[hx];exact j5 hil);have eStep:D.take (i+1)=D.take i++[eM k.nm i x]:=by rw[hDd,hx];exact mV _ om hil
   obtain⟨x1,x2,x3⟩:=x;obtain⟨gx1,gx2,gx3⟩:=gx;dsimp only[i8] at gx1 gx2 gx3;refine nQ [.hp (Hp.whole w),.box b1 [.int .u8 k.nm,.slice a1 n1 c1,.slice a2 n2 c2,.slice a3 n3 c3,.slice a4 n4 c4,.slice a5 n5 c5] 61,.box b2 [zs,zl,zl,zl,zl,zl] 30,.box b4 [sv nm,oP.v,oI.v,oD.v,zl,zl] 30,.hp HP,.hp oP.h,.hp oI.h,.hp oD.h] λq' hq'=>?_;refine R2 cQ (e:=146) rfl h3 i rfl hil λb9 o9 cs hcs hR hcell=>?_;rw[<-hx] at hR;subst hR;refine nX cQ (i:=0) rfl hcell rfl ?_;intro b19;apply hq';clear hcell;obtain⟨lab,hlab⟩ :∃y,y=gP 100 i (k.nm / 8):=⟨_,rfl⟩
   have eX:eM k.nm i (x1,x2,x3)=(lab,x1*1000,min x2 x3,max x2 x3):=by rw[hlab];rfl
   rw[eX] at eStep;refine u6.cut Dw.Os (λ_=>[(1,.bx 1 0),(2,.bx 2 0),(3,.v (iQ k.nm)),(4,.bx 3 0),(18,.v (iQ i))]) (λg=>[.hp (Hp.whole w),.box b1 [.int .u8 k.nm,.slice a1 n1 c1,.slice a2 n2 c2,.slice a3 n3 c3,.slice a4 n4 c4,.slice a5 n5 c5] 61,.box b2 [zs,zl,zl,zl,zl,zl] 30,.box b4 [sv nm,oP.v,oI.v,g.v,zl,zl] 30,.hp HP,.hp oP.h,.hp oI.h,.hp g.h]) (λg=>w5 P2 48 4 g (D.take i++[(lab,x1*1000,min x2 x3,max x2 x3)])) (u6.by_order0 (s0:=[.hp (Hp.whole w),.box b1 [.int .u8 k.nm,.slice a1 n1 c1,.slice a2 n2 c2,.slice a3 n3 c3,.slice a4 n4 c4,.slice a5 n5 c5] 61,.box b2 [zs,zl,zl,zl,zl,zl] 30,.box b4 [sv nm,oP.v,oI.v,oD.v,zl,zl] 30,.hp HP,.hp oP.h,.hp oI.h,.hp Hp.emp,.box b19 [.int .i8 x1,.int .i8 x2,.int .i8 x3] 146]) cQ (.take 0 <| .take 1 <| .take 2 <| .take 3 <| .take 4 <| .take 6 <| .take 7 <| .take 8 <| .take 9 <| .take 10 <| .take 11 <| .take 12 <| .take 13 <| .take 14 <| .take 15 <| .take 17 <| .take 18 <| .take 19 <| .take 20 <| .take 21 <| .take 22 <| .three 5 (.two 16 (.run 23 <| .take 24 <| .run 25 <| .run 26 <| .run 27 <| .run 28 <| .done) 23 (.run 16 <| .take 24 <| .run 25 <| .run 26 <| .run 27 <| .run 28 <| .done)) 16 (.two 5 (.run 23 <| .take 24 <| .run 25 <| .run 26 <| .run 27 <| .run 28 <| .done) 23 (.run 5 <| .take 24 <| .run 25 <| .run 26 <| .run 27 <| .run 28 <| .done)) 23 (.two 5 (.run 16 <| .take 24 <| .run 25 <| .run 26 <| .run 27 <| .run 28 <| .done) 16 (.run 5 <| .take 24 <| .run 25 <| .run 26 <| .run 27 <| .run 28 <| .done))) kr (sK) ?_) ?_
   ·refine DN k.nm 3 rfl dc ?_;(iterate 6 refine nwo ?_);refine⟨?_,?_,?_⟩
    ·refine k7 _ (λw' hm=>P1 100 i (k.nm / 2 ^ 3) om (p8 (D0 _ _) hnm) w') ?_;rw[show k.nm / 2 ^ 3=k.nm / 8 from rfl,<-hlab];refine⟨sK,?_⟩;refine⟨?_,?_⟩;focus
      refine AF ?_;refine⟨sK,?_⟩;refine IX ?_
     rotate_left
     focus
      refine IX ?_;refine⟨sK,?_⟩;refine AF ?_
     all_goals
      refine⟨sK,?_⟩;intro b25;refine⟨sK,?_⟩;refine gZ (f:=P2) cQ (e:=48) rfl (i:=7) rfl hOD (lab,x1*1000,min x2 x3,max x2 x3) (j:=9) rfl rfl rfl rfl (by rw[j1];omega) λo2 hO2=>?_;refine⟨sK,?_⟩;exact⟨o2,hO2,y6.mk (pj [0,1,2,3,4,5,6,7]) rfl rfl⟩
    ·refine AF ?_;refine⟨sK,?_⟩;refine⟨?_,?_⟩;focus
      refine k7 _ (λw' hm=>P1 100 i (k.nm / 2 ^ 3) om (p8 (D0 _ _) hnm) w') ?_;rw[show k.nm / 2 ^ 3=k.nm / 8 from rfl,<-hlab];refine⟨sK,?_⟩;refine IX ?_
     rotate_left
     focus
      refine IX ?_;refine⟨sK,?_⟩;refine k7 _ (λw' hm=>P1 100 i (k.nm / 2 ^ 3) om (p8 (D0 _ _) hnm) w') ?_;rw[show k.nm / 2 ^ 3=k.nm / 8 from rfl,<-hlab]
     all_goals
      refine⟨sK,?_⟩;intro b25;refine⟨sK,?_⟩;refine gZ (f:=P2) cQ (e:=48) rfl (i:=7) rfl hOD (lab,x1*1000,min x2 x3,max x2 x3) (j:=9) rfl rfl rfl rfl (by rw[j1];omega) λo2 hO2=>?_;refine⟨sK,?_⟩;exact⟨o2,hO2,y6.mk (pj [0,1,2,3,4,5,6,7]) rfl rfl⟩
    ·refine IX ?_;refine⟨sK,?_⟩;refine⟨?_,?_⟩;focus
      refine k7 _ (λw' hm=>P1 100 i (k.nm / 2 ^ 3) om (p8 (D0 _ _) hnm) w') ?_;rw[show k.nm / 2 ^ 3=k.nm / 8 from rfl,<-hlab];refine⟨sK,?_⟩;refine AF ?_
     rotate_left
     focus
      refine AF ?_;refine⟨sK,?_⟩;refine k7 _ (λw' hm=>P1 100 i (k.nm / 2 ^ 3) om (p8 (D0 _ _) hnm) w') ?_;rw[show k.nm / 2 ^ 3=k.nm / 8 from rfl,<-hlab]
     all_goals
      refine⟨sK,?_⟩;intro b25;refine⟨sK,?_⟩;refine gZ (f:=P2) cQ (e:=48) rfl (i:=7) rfl hOD (lab,x1*1000,min x2 x3,max x2 x3) (j:=9) rfl rfl rfl rfl (by rw[j1];omega) λo2 hO2=>?_;refine⟨sK,?_⟩;exact⟨o2,hO2,y6.mk (pj [0,1,2,3,4,5,6,7]) rfl rfl⟩
   intro o2 hO2 _;dsimp only;refine m9 λq' hq'=>?_;refine nwo ?_;apply hq';exact⟨(HP,oP,oI,i+1,o2),⟨by dsimp only;omega,hGI,by dsimp only;rw[eStep];exact hO2⟩,by dsimp only;omega,y6.mk (λ_ _ h=>h) rfl rfl⟩
  ·have t2:=of_decide_eq_false t2;have eD:D.take i=D:=by rw[hDd];exact iF _ om
   rw[eD] at hOD;refine m9 (λ_ kz=>kz _ _ ?_);exact z6.mkS (Hp×Dw.Os×Dw.Os×Dw.Os×Nat×Hp×Dw.Os) (λg=>[(1,.bx 1 0),(2,.bx 2 0),(3,.v (iQ k.nm)),(4,.bx 3 0),(20,.v (iQ g.2.2.2.2.1))]) (λg=>[.hp (Hp.whole w),.box b1 [.int .u8 k.nm,.slice a1 n1 c1,.slice a2 n2 c2,.slice a3 n3 c3,.slice a4 n4 c4,.slice a5 n5 c5] 61,.box b2 [zs,zl,zl,zl,zl,zl] 30,.box b4 [sv nm,g.2.1.v,g.2.2.1.v,g.2.2.2.1.v,g.2.2.2.2.2.2.v,zl] 30,.hp g.1,.hp g.2.1.h,.hp g.2.2.1.h,.hp g.2.2.2.1.h,.hp g.2.2.2.2.2.1,.hp g.2.2.2.2.2.2.h]) (λg=>g.2.2.2.2.1<=2/\(aR cN 83 3 g.1 g.2.1 P/\w5 fF 93 9 g.2.2.1 I/\w5 P2 48 4 g.2.2.2.1 D)/\aR qF 96 3 g.2.2.2.2.2.1 g.2.2.2.2.2.2 (C.take g.2.2.2.2.1)) (λg=>2 - g.2.2.2.2.1) (HP,oP,oI,oD,0,Hp.emp,Dw.Os.nil) ⟨j0 _,⟨hGI.1,hGI.2,hOD⟩,by rw[Q0];exact aR.nil⟩ (y6.mk (λ_ _ h=>h.emp.emp) rfl rfl) hC3.h
 ·apply hq';refine dU rfl ?_;have eD:D.take i=D:=by rw[hDd];exact iF _ om
  rw[eD] at hOD;refine m9 (λ_ kz=>kz _ _ ?_);exact z6.mkS (Hp×Dw.Os×Dw.Os×Dw.Os×Nat×Hp×Dw.Os) (λg=>[(1,.bx 1 0),(2,.bx 2 0),(3,.v (iQ k.nm)),(4,.bx 3 0),(20,.v (iQ g.2.2.2.2.1))]) (λg=>[.hp (Hp.whole w),.box b1 [.int .u8 k.nm,.slice a1 n1 c1,.slice a2 n2 c2,.slice a3 n3 c3,.slice a4 n4 c4,.slice a5 n5 c5] 61,.box b2 [zs,zl,zl,zl,zl,zl] 30,.box b4 [sv nm,g.2.1.v,g.2.2.1.v,g.2.2.2.1.v,g.2.2.2.2.2.2.v,zl] 30,.hp g.1,.hp g.2.1.h,.hp g.2.2.1.h,.hp g.2.2.2.1.h,.hp g.2.2.2.2.2.1,.hp g.2.2.2.2.2.2.h]) (λg=>g.2.2.2.2.1<=2/\(aR cN 83 3 g.1 g.2.1 P/\w5 fF 93 9 g.2.2.1 I/\w5 P2 48 4 g.2.2.2.1 D)/\aR qF 96 3 g.2.2.2.2.2.1 g.2.2.2.2.2.2 (C.take g.2.2.2.2.1)) (λg=>2 - g.2.2.2.2.1) (HP,oP,oI,oD,0,Hp.emp,Dw.Os.nil) ⟨j0 _,⟨hGI.1,hGI.2,hOD⟩,by rw[Q0];exact aR.nil⟩ (y6.mk (λ_ _ h=>h.emp.emp) rfl rfl) hC3.h
 apply FJ;intro hC4;rintro⟨HP,oP,oI,oD,i,HC,oC⟩ ⟨hi,hGI,hGC⟩ hsat;dsimp only at hi hGI hGC ⊢;have hDn:=hGI.2.2.len;refine m9 λq' hq'=>?_;refine d9 (λt1=>?_) λt1=>?_
 ·apply hq';refine K9 (by rfl) (λt2=>?_) λt2=>?_
  ·have t2:=of_decide_eq_true t2;have hil:i < k.cons.length:=om
   obtain⟨x,hx⟩ :∃x,x=k.cons[i]'hil:=⟨_,rfl⟩
   have gx:=g.c x (by rw[hx];exact j5 hil);have eStep:C.take (i+1)=C.take i++[lZ k.nm D.length i x]:=by rw[hCd,hx];exact mV _ om hil
   have gx':x.1.natAbs < 1000/\x.2.1.natAbs < 1000/\x.2.2.1.natAbs < 1000/\x.2.2.2.natAbs < 1000:=by
    obtain⟨x1,x2,x3,x4⟩:=x;obtain⟨gx1,gx2,gx3,gx4⟩:=gx;dsimp only[i8] at gx1 gx2 gx3 gx4 ⊢;omega
   obtain⟨lab,hlab⟩ :∃y,y=gP 99 i (k.nm / 16):=⟨_,rfl⟩
   obtain⟨F,hF⟩ :∃F,F=Z5 D.length x:=⟨_,rfl⟩
   have eX:lZ k.nm D.length i x=(lab,F):=by rw[hlab,hF];rfl
   rw[eX] at eStep;have hLin:=λ(w':World) (hm:(Hp.whole w).In w')=>nW D.length x om gx' w' (hP.mono hm.whole);rw[<-hF] at hLin;rw[show ((D.length:Nat):Int)=(oD.n:Int) by omega] at hLin;refine u6.cut (Hp×Dw.Os) (λ_=>[(1,.bx 1 0),(2,.bx 2 0),(3,.v (iQ k.nm)),(4,.bx 3 0),(20,.v (iQ i))]) (λg=>[.hp (Hp.whole w),.box b1 [.int .u8 k.nm,.slice a1 n1 c1,.slice a2 n2 c2,.slice a3 n3 c3,.slice a4 n4 c4,.slice a5 n5 c5] 61,.box b2 [zs,zl,zl,zl,zl,zl] 30,.box b4 [sv nm,oP.v,oI.v,oD.v,g.2.v,zl] 30,.hp HP,.hp oP.h,.hp oI.h,.hp oD.h,.hp g.1,.hp g.2.h]) (λg=>aR qF 96 3 g.1 g.2 (C.take i++[(lab,F)])) (u6.by_order0 (s0:=[.hp (Hp.whole w),.box b1 [.int .u8 k.nm,.slice a1 n1 c1,.slice a2 n2 c2,.slice a3 n3 c3,.slice a4 n4 c4,.slice a5 n5 c5] 61,.box b2 [zs,zl,zl,zl,zl,zl] 30,.box b4 [sv nm,oP.v,oI.v,oD.v,oC.v,zl] 30,.hp HP,.hp oP.h,.hp oI.h,.hp oD.h,.hp HC,.hp Hp.emp]) cQ (.take 0 <| .take 1 <| .take 2 <| .take 3 <| .take 4 <| .take 6 <| .take 7 <| .take 8 <| .take 9 <| .take 10 <| .take 11 <| .take 12 <| .take 13 <| .run 5 <| .run 14 <| .take 15 <| .run 16 <| .run 17 <| .run 18 <| .run 19 <| .done) kr (sK) ?_) ?_
   ·refine DN k.nm 4 rfl dc ?_;refine R2 cQ (e:=148) rfl h4 i rfl hil λb9 o9 cs hcs hR hcell=>?_;rw[<-hx] at hR;subst hR;refine nX cQ (i:=0) rfl hcell rfl ?_;refine k7 _ (λw' hm=>P1 99 i (k.nm / 2 ^ 4) om (p8 (D0 _ _) hnm) w') ?_;rw[show k.nm / 2 ^ 4=k.nm / 16 from rfl,<-hlab];refine⟨sK,?_⟩;refine call (λw' hm=>hLin w' (hm 0 _ rfl)) ?_;rintro _ _ ⟨oF,rfl,rfl,hOF⟩;refine⟨sK,?_⟩;intro b25;refine⟨sK,?_⟩;refine qM (R:=qF) (o:=oC) (L:=C.take i) (H:=HC.join oF.h) cQ (e:=96) rfl (i:=9) rfl (λ_=>hGC.mono V5 (Hp.le_join_l _ _)) (lab,F) [sv lab,sv F.1,oF.v] (j:=11) rfl rfl rfl rfl (by rw[j1];omega) (λhs=>?_) λo2 _ hG2=>?_
    ·obtain⟨w0,w',hok⟩:=hs;exact⟨oF.a,oF.n,oF.c,rfl,(w5.sl (f:=bO) (sz:=2) (λ_=>rfl) dc hOF).mono (j7 _) (Hp.le_join_r (hok.disj 8 10 _ _ dc rfl rfl))⟩
    refine⟨sK,?_⟩;exact⟨(HC.join oF.h,o2),hG2,y6.mk (λ_ _ h=>(Ok.join (h.pick [0,8,10,1,2,3,4,5,6,7,9] rfl rfl)).pick [0,2,3,4,5,6,7,8,1,9] rfl rfl) rfl rfl⟩
   rintro⟨H9,o9⟩ hG9 _;dsimp only at hG9 ⊢;refine m9 λq' hq'=>?_;refine nwo ?_;apply hq';exact⟨(HP,oP,oI,oD,i+1,H9,o9),⟨by dsimp only;omega,hGI,by dsimp only;rw[eStep];exact hG9⟩,by dsimp only;omega,y6.mk (λ_ _ h=>h) rfl rfl⟩
  ·have t2:=of_decide_eq_false t2;have eC:C.take i=C:=by rw[hCd];exact iF _ om
   rw[eC] at hGC;refine m9 (λ_ kz=>kz _ _ ?_);exact z6.mkS (Hp×Dw.Os×Dw.Os×Dw.Os×Hp×Dw.Os×Nat×Hp×Dw.Os) (λg=>[(1,.bx 1 0),(2,.bx 2 0),(3,.v (iQ k.nm)),(4,.bx 3 0),(21,.v (iQ g.2.2.2.2.2.2.1))]) (λg=>[.hp (Hp.whole w),.box b1 [.int .u8 k.nm,.slice a1 n1 c1,.slice a2 n2 c2,.slice a3 n3 c3,.slice a4 n4 c4,.slice a5 n5 c5] 61,.box b2 [zs,zl,zl,zl,zl,zl] 30,.box b4 [sv nm,g.2.1.v,g.2.2.1.v,g.2.2.2.1.v,g.2.2.2.2.2.1.v,g.2.2.2.2.2.2.2.2.v] 30,.hp g.1,.hp g.2.1.h,.hp g.2.2.1.h,.hp g.2.2.2.1.h,.hp g.2.2.2.2.1,.hp g.2.2.2.2.2.1.h,.hp g.2.2.2.2.2.2.2.1,.hp g.2.2.2.2.2.2.2.2.h]) (λg=>g.2.2.2.2.2.2.1<=2/\(aR cN 83 3 g.1 g.2.1 P/\w5 fF 93 9 g.2.2.1 I/\w5 P2 48 4 g.2.2.2.1 D/\aR qF 96 3 g.2.2.2.2.1 g.2.2.2.2.2.1 C)/\aR (mK 4) 74 8 g.2.2.2.2.2.2.2.1 g.2.2.2.2.2.2.2.2 (R.take g.2.2.2.2.2.2.1)) (λg=>2 - g.2.2.2.2.2.2.1) (HP,oP,oI,oD,HC,oC,0,Hp.emp,Dw.Os.nil) ⟨j0 _,⟨hGI.1,hGI.2.1,hGI.2.2,hGC⟩,by rw[Q0];exact aR.nil⟩ (y6.mk (λ_ _ h=>h.emp.emp) rfl rfl) hC4.h
 ·apply hq';refine dU rfl ?_;have eC:C.take i=C:=by rw[hCd];exact iF _ om
  rw[eC] at hGC;refine m9 (λ_ kz=>kz _ _ ?_);exact z6.mkS (Hp×Dw.Os×Dw.Os×Dw.Os×Hp×Dw.Os×Nat×Hp×Dw.Os) (λg=>[(1,.bx 1 0),(2,.bx 2 0),(3,.v (iQ k.nm)),(4,.bx 3 0),(21,.v (iQ g.2.2.2.2.2.2.1))]) (λg=>[.hp (Hp.whole w),.box b1 [.int .u8 k.nm,.slice a1 n1 c1,.slice a2 n2 c2,.slice a3 n3 c3,.slice a4 n4 c4,.slice a5 n5 c5] 61,.box b2 [zs,zl,zl,zl,zl,zl] 30,.box b4 [sv nm,g.2.1.v,g.2.2.1.v,g.2.2.2.1.v,g.2.2.2.2.2.1.v,g.2.2.2.2.2.2.2.2.v] 30,.hp g.1,.hp g.2.1.h,.hp g.2.2.1.h,.hp g.2.2.2.1.h,.hp g.2.2.2.2.1,.hp g.2.2.2.2.2.1.h,.hp g.2.2.2.2.2.2.2.1,.hp g.2.2.2.2.2.2.2.2.h]) (λg=>g.2.2.2.2.2.2.1<=2/\(aR cN 83 3 g.1 g.2.1 P/\w5 fF 93 9 g.2.2.1 I/\w5 P2 48 4 g.2.2.2.1 D/\aR qF 96 3 g.2.2.2.2.1 g.2.2.2.2.2.1 C)/\aR (mK 4) 74 8 g.2.2.2.2.2.2.2.1 g.2.2.2.2.2.2.2.2 (R.take g.2.2.2.2.2.2.1)) (λg=>2 - g.2.2.2.2.2.2.1) (HP,oP,oI,oD,HC,oC,0,Hp.emp,Dw.Os.nil) ⟨j0 _,⟨hGI.1,hGI.2.1,hGI.2.2,hGC⟩,by rw[Q0];exact aR.nil⟩ (y6.mk (λ_ _ h=>h.emp.emp) rfl rfl) hC4.h
 rintro⟨HP,oP,oI,oD,HC,oC,i,HR,oR⟩ ⟨hi,hGI,hGR⟩ hsat;dsimp only at hi hGI hGR ⊢;have hDn:=hGI.2.2.1.len;refine m9 λq' hq'=>?_;refine d9 (λt1=>?_) λt1=>?_;focus
  apply hq';refine K9 (by rfl) (λt2=>?_) λt2=>?_
  ·have t2:=of_decide_eq_true t2;have hil:i < k.gaps.length:=om
   obtain⟨x,hx⟩ :∃x,x=k.gaps[i]'hil:=⟨_,rfl⟩
   have gx:=g.g x (by rw[hx];exact j5 hil);have eStep:R.take (i+1)=R.take i++[gC k.nm D.length i x]:=by rw[hRd,hx];exact mV _ om hil
   obtain⟨lab,hlab⟩ :∃y,y=gP 114 i (k.nm / 32):=⟨_,rfl⟩
   have eX:gC k.nm D.length i x=(lab,(R5 D.length 3 x).1,if x.length % 2=0 then [45,55,47,50] else [],if x.length % 3=0 then [49,49] else []):=by rw[hlab];rfl
   rw[eX] at eStep;clear eX;refine nQ [.hp (Hp.whole w),.box b1 [.int .u8 k.nm,.slice a1 n1 c1,.slice a2 n2 c2,.slice a3 n3 c3,.slice a4 n4 c4,.slice a5 n5 c5] 61,.box b2 [zs,zl,zl,zl,zl,zl] 30,.box b4 [sv nm,oP.v,oI.v,oD.v,oC.v,oR.v] 30,.hp HP,.hp oP.h,.hp oI.h,.hp oD.h,.hp HC,.hp oC.h,.hp HR,.hp oR.h] λq' hq'=>?_;refine R2 cQ (e:=68) rfl h5 i rfl hil λb9 o9 cs hcs hR hcell=>?_;rw[<-hx] at hR;obtain⟨ax,nx,cx',rfl,hSx⟩:=hR;refine lQ 0 (hcell 0 _ rfl) ?_;have hnx:=hSx.len;apply hq';clear hcell;refine m9 λq' hq'=>?_;refine DN k.nm 5 rfl dc ?_;refine k7 _ (λw' hm=>P1 114 i (k.nm / 2 ^ 5) om (p8 (D0 _ _) hnm) w') ?_;rw[show k.nm / 2 ^ 5=k.nm / 32 from rfl,<-hlab];intro b23;apply hq';refine nQ [.hp (Hp.whole w),.box b1 [.int .u8 k.nm,.slice a1 n1 c1,.slice a2 n2 c2,.slice a3 n3 c3,.slice a4 n4 c4,.slice a5 n5 c5] 61,.box b2 [zs,zl,zl,zl,zl,zl] 30,.box b4 [sv nm,oP.v,oI.v,oD.v,oC.v,oR.v] 30,.hp HP,.hp oP.h,.hp oI.h,.hp oD.h,.hp HC,.hp oC.h,.hp HR,.hp oR.h,.box b23 [sv lab,iQ 0,zs,zl,zs,zl,zs,zs] 74] λq' hq'=>?_;refine call (λw' hm=>mB 3 dc oD.n x ax nx cx' 1 (Hp.whole w) w' (hm 0 _ rfl) om dc gx hSx (hP.mono (hm 0 _ rfl).whole)) ?_;rintro _ _ ⟨H9,xs,a7,m7,c7,rfl,rfl,hx5,hE,hS7⟩;rw[show oD.n=D.length by omega] at hE hS7;obtain⟨X,hX⟩ :∃X,X=(R5 D.length 3 x).1:=⟨_,rfl⟩
   rw[<-hX] at hE eStep;have hE2:=hE;obtain⟨Y,hY⟩ :∃Y,Y=X:=⟨_,rfl⟩
   rw[<-hY] at hE2;obtain⟨op9,f9,fac9,args9⟩:=Y;obtain⟨a9,n9,c9,a8,n8,c8,rfl,_,_⟩:=hE2;apply hq';refine nQ [.hp (Hp.whole w),.box b1 [.int .u8 k.nm,.slice a1 n1 c1,.slice a2 n2 c2,.slice a3 n3 c3,.slice a4 n4 c4,.slice a5 n5 c5] 61,.box b2 [zs,zl,zl,zl,zl,zl] 30,.box b4 [sv nm,oP.v,oI.v,oD.v,oC.v,oR.v] 30,.hp HP,.hp oP.h,.hp oI.h,.hp oD.h,.hp HC,.hp oC.h,.hp HR,.hp oR.h,.box b23 [sv lab,iQ op9,sv f9.1,.slice a9 n9 c9,sv fac9,.slice a8 n8 c8,zs,zs] 74,.hp H9] λq' hq'=>?_;refine gF nx 2 (nx % 2) rfl rfl dc rfl ?_;apply hq';refine K9 (by rfl) (λe2=>?_) λe2=>?_
   ·have e2:=of_decide_eq_true e2;rw[if_pos (show x.length % 2=0 by omega)] at eStep;refine m9 λq' hq'=>?_;apply hq';refine m9 λq' hq'=>?_;refine gF nx 3 (nx % 3) rfl rfl dc rfl ?_;apply hq';refine K9 (by rfl) (λe3=>?_) λe3=>?_;focus
     have e3:=of_decide_eq_true e3;rw[if_pos (show x.length % 3=0 by omega)] at eStep;refine m9 λq' hq'=>?_;apply hq';refine nQ [.hp (Hp.whole w),.box b1 [.int .u8 k.nm,.slice a1 n1 c1,.slice a2 n2 c2,.slice a3 n3 c3,.slice a4 n4 c4,.slice a5 n5 c5] 61,.box b2 [zs,zl,zl,zl,zl,zl] 30,.box b4 [sv nm,oP.v,oI.v,oD.v,oC.v,oR.v] 30,.hp HP,.hp oP.h,.hp oI.h,.hp oD.h,.hp HC,.hp oC.h,.hp HR,.hp oR.h,.box b23 [sv lab,iQ op9,sv f9.1,.slice a9 n9 c9,sv fac9,.slice a8 n8 c8,sv [45,55,47,50],sv [49,49]] 74,.hp H9] λq' hq'=>?_;intro b24;refine qM (R:=mK 4) (o:=oR) (L:=R.take i) (H:=HR.join H9) cQ (e:=74) rfl (i:=11) rfl (λ_=>hGR.mono (O2 4) (Hp.le_join_l _ _)) (lab,X,[45,55,47,50],[49,49]) [sv lab,iQ op9,sv f9.1,.slice a9 n9 c9,sv fac9,.slice a8 n8 c8,sv [45,55,47,50],sv [49,49]] (j:=14) rfl rfl rfl rfl (by rw[j1];omega) (λhs=>?_) λo2 _ hG2=>?_
     ·obtain⟨w0,w',hok⟩:=hs;exact⟨[iQ op9,sv f9.1,.slice a9 n9 c9,sv fac9,.slice a8 n8 c8],rfl,D6 _ _ _ _ _ (Hp.le_join_r (hok.disj 10 13 _ _ dc rfl rfl)) hE⟩
    rotate_left
    focus
     have e3:=of_decide_eq_false e3;rw[if_neg (show ¬ x.length % 3=0 by omega)] at eStep;refine nQ [.hp (Hp.whole w),.box b1 [.int .u8 k.nm,.slice a1 n1 c1,.slice a2 n2 c2,.slice a3 n3 c3,.slice a4 n4 c4,.slice a5 n5 c5] 61,.box b2 [zs,zl,zl,zl,zl,zl] 30,.box b4 [sv nm,oP.v,oI.v,oD.v,oC.v,oR.v] 30,.hp HP,.hp oP.h,.hp oI.h,.hp oD.h,.hp HC,.hp oC.h,.hp HR,.hp oR.h,.box b23 [sv lab,iQ op9,sv f9.1,.slice a9 n9 c9,sv fac9,.slice a8 n8 c8,sv [45,55,47,50],zs] 74,.hp H9] λq' hq'=>?_;intro b24;refine qM (R:=mK 4) (o:=oR) (L:=R.take i) (H:=HR.join H9) cQ (e:=74) rfl (i:=11) rfl (λ_=>hGR.mono (O2 4) (Hp.le_join_l _ _)) (lab,X,[45,55,47,50],[]) [sv lab,iQ op9,sv f9.1,.slice a9 n9 c9,sv fac9,.slice a8 n8 c8,sv [45,55,47,50],zs] (j:=14) rfl rfl rfl rfl (by rw[j1];omega) (λhs=>?_) λo2 _ hG2=>?_
     ·obtain⟨w0,w',hok⟩:=hs;exact⟨[iQ op9,sv f9.1,.slice a9 n9 c9,sv fac9,.slice a8 n8 c8],rfl,D6 _ _ _ _ _ (Hp.le_join_r (hok.disj 10 13 _ _ dc rfl rfl)) hE⟩
    all_goals
     apply hq';refine m9 λq' hq'=>?_;refine nwo ?_;apply hq';exact⟨(HP,oP,oI,oD,HC,oC,i+1,HR.join H9,o2),⟨by dsimp only;omega,hGI,by dsimp only;rw[eStep];exact hG2⟩,by dsimp only;omega,y6.mk (λ_ _ h=>(Ok.join (h.pick [0,10,13,1,2,3,4,5,6,7,8,9,11] rfl rfl)).pick [0,2,3,4,5,6,7,8,9,10,1,11] rfl rfl) rfl rfl⟩
   ·have e2:=of_decide_eq_false e2;rw[if_neg (show ¬ x.length % 2=0 by omega)] at eStep;refine m9 λq' hq'=>?_;refine gF nx 3 (nx % 3) rfl rfl dc rfl ?_;apply hq';refine K9 (by rfl) (λe3=>?_) λe3=>?_;focus
     have e3:=of_decide_eq_true e3;rw[if_pos (show x.length % 3=0 by omega)] at eStep;refine m9 λq' hq'=>?_;apply hq';refine nQ [.hp (Hp.whole w),.box b1 [.int .u8 k.nm,.slice a1 n1 c1,.slice a2 n2 c2,.slice a3 n3 c3,.slice a4 n4 c4,.slice a5 n5 c5] 61,.box b2 [zs,zl,zl,zl,zl,zl] 30,.box b4 [sv nm,oP.v,oI.v,oD.v,oC.v,oR.v] 30,.hp HP,.hp oP.h,.hp oI.h,.hp oD.h,.hp HC,.hp oC.h,.hp HR,.hp oR.h,.box b23 [sv lab,iQ op9,sv f9.1,.slice a9 n9 c9,sv fac9,.slice a8 n8 c8,zs,sv [49,49]] 74,.hp H9] λq' hq'=>?_;intro b24;refine qM (R:=mK 4) (o:=oR) (L:=R.take i) (H:=HR.join H9) cQ (e:=74) rfl (i:=11) rfl (λ_=>hGR.mono (O2 4) (Hp.le_join_l _ _)) (lab,X,[],[49,49]) [sv lab,iQ op9,sv f9.1,.slice a9 n9 c9,sv fac9,.slice a8 n8 c8,zs,sv [49,49]] (j:=14) rfl rfl rfl rfl (by rw[j1];omega) (λhs=>?_) λo2 _ hG2=>?_
     ·obtain⟨w0,w',hok⟩:=hs;exact⟨[iQ op9,sv f9.1,.slice a9 n9 c9,sv fac9,.slice a8 n8 c8],rfl,D6 _ _ _ _ _ (Hp.le_join_r (hok.disj 10 13 _ _ dc rfl rfl)) hE⟩
    rotate_left
    focus
     have e3:=of_decide_eq_false e3;rw[if_neg (show ¬ x.length % 3=0 by omega)] at eStep;refine nQ [.hp (Hp.whole w),.box b1 [.int .u8 k.nm,.slice a1 n1 c1,.slice a2 n2 c2,.slice a3 n3 c3,.slice a4 n4 c4,.slice a5 n5 c5] 61,.box b2 [zs,zl,zl,zl,zl,zl] 30,.box b4 [sv nm,oP.v,oI.v,oD.v,oC.v,oR.v] 30,.hp HP,.hp oP.h,.hp oI.h,.hp oD.h,.hp HC,.hp oC.h,.hp HR,.hp oR.h,.box b23 [sv lab,iQ op9,sv f9.1,.slice a9 n9 c9,sv fac9,.slice a8 n8 c8,zs,zs] 74,.hp H9] λq' hq'=>?_;intro b24;refine qM (R:=mK 4) (o:=oR) (L:=R.take i) (H:=HR.join H9) cQ (e:=74) rfl (i:=11) rfl (λ_=>hGR.mono (O2 4) (Hp.le_join_l _ _)) (lab,X,[],[]) [sv lab,iQ op9,sv f9.1,.slice a9 n9 c9,sv fac9,.slice a8 n8 c8,zs,zs] (j:=14) rfl rfl rfl rfl (by rw[j1];omega) (λhs=>?_) λo2 _ hG2=>?_
     ·obtain⟨w0,w',hok⟩:=hs;exact⟨[iQ op9,sv f9.1,.slice a9 n9 c9,sv fac9,.slice a8 n8 c8],rfl,D6 _ _ _ _ _ (Hp.le_join_r (hok.disj 10 13 _ _ dc rfl rfl)) hE⟩
    all_goals
     apply hq';refine m9 λq' hq'=>?_;refine nwo ?_;apply hq';exact⟨(HP,oP,oI,oD,HC,oC,i+1,HR.join H9,o2),⟨by dsimp only;omega,hGI,by dsimp only;rw[eStep];exact hG2⟩,by dsimp only;omega,y6.mk (λ_ _ h=>(Ok.join (h.pick [0,10,13,1,2,3,4,5,6,7,8,9,11] rfl rfl)).pick [0,2,3,4,5,6,7,8,9,10,1,11] rfl rfl) rfl rfl⟩
  focus
   have t2:=of_decide_eq_false t2
 rotate_left
 focus
  apply hq';refine dU rfl ?_
 all_goals
  have eR:R.take i=R:=by rw[hRd];exact iF _ om
  rw[eR] at hGR;obtain⟨hGP,hOI,hOD,hGC⟩:=hGI;have hdl:RB [.hp HP,.hp oP.h,.hp oI.h,.hp oD.h,.hp HC,.hp oC.h,.hp HR,.hp oR.h]:=by
   obtain⟨w0,w1,hok⟩:=hsat;exact (hok.pick [0,4,5,6,7,8,9,10,11] rfl rfl).djL
  have eK:D4 k=⟨nm,P,I,D,C,R⟩:=by
   rw[hnm2,hRd,hCd,hDd,hId,hPd];rfl
  rw[eK];refine m9 λq' hq'=>?_;apply hq';exact⟨[.hp (joinL [.hp HP,.hp oP.h,.hp oI.h,.hp oD.h,.hp HC,.hp oC.h,.hp HR,.hp oR.h])],⟨_,_,rfl,rfl,rfl,⟨oP.a,oP.n,oP.c,oI.a,oI.n,oI.c,oD.a,oD.n,oD.c,oC.a,oC.n,oC.c,oR.a,oR.n,oR.c,rfl,hGP.sl J0 dc (H0 hdl (i:=0) rfl) (H0 hdl (i:=1) rfl),(w5.sl (f:=fF) (λ_=>rfl) dc hOI).mono (j7 _) (H0 hdl (i:=2) rfl),(w5.sl (f:=P2) (λ_=>rfl) dc hOD).mono (j7 _) (H0 hdl (i:=3) rfl),hGC.sl V5 dc (H0 hdl (i:=4) rfl) (H0 hdl (i:=5) rfl),hGR.sl (O2 4) dc (H0 hdl (i:=6) rfl) (H0 hdl (i:=7) rfl)⟩⟩,λw' h=>(h.pick [0,4,5,6,7,8,9,10,11] rfl rfl).joinL⟩
end Go.Proofs.YtpjhmeicbjkcdaaGreatDoor
namespace Go.Proofs.YtpjhmeicbjkcdaaGreatDoor
open Go Go.RowKit Go.Dw
theorem pI {α:Type} {w:d8} {tk:List α->RS->RS×α} {m:Nat} (ht :∀o r,o7 (s8 (H6 r o.length m) w) (tk o r).1) :∀(f:Nat) (r:RS) (out:List α),out.length<=m+1->(r.e=0->out.length<=m)->(W4 w tk f r out).2.length<=m+1
 | 0,_,_,h,_=>h
 | f+1,r,out,h,hk=>by
  unfold W4;by_cases hi:S7 r w=true
  ·rw[if_pos hi];have h0:=hk (P5 hi).1;refine pI ht f _ _ (by rw[d6];simp only[d7,i6];omega) λe0=>?_;have:=Fg ((o7.exp _ w).ok ((ht out r).ok e0));rw[d6];simp only[d7,i6];omega
  ·rw[if_neg hi];exact h
def Li (p:kR):Prop:=p.parts.length<=65/\p.insts.length<=65/\p.dims.length<=65/\p.cons.length<=65/\p.reqs.length<=65
theorem Bm (f:Nat) (r:RS):(W4 S9 (λout r=>dM (out.map (·.1)) r) f r []).2.length<=65:=pI (m:=64) (λo r=>by have h:=JD (o.map (·.1)) r;rw[j6] at h;exact h) f r [] (j0 _) (λ_=>j0 _)
theorem Cp (parts:List d8) (f:Nat) (r:RS):(W4 dE (λout r=>kA parts (out.map (·.1)) r) f r []).2.length<=65:=q9 (pI (m:=12) (λo r=>by have h:=KB parts (o.map (·.1)) r;rw[j6] at h;exact h) f r [] (j0 _) (λ_=>j0 _)) dc
theorem Dh (f:Nat) (r:RS):(W4 Z8 (λout r=>kI (out.map (·.1)) r) f r []).2.length<=65:=pI (m:=64) (λo r=>by have h:=KS (o.map (·.1)) r;rw[j6] at h;exact h) f r [] (j0 _) (λ_=>j0 _)
theorem Dp (dims:List d8) (f:Nat) (r:RS):(W4 Y8 (λout r=>iC (out.map (·.1)) dims r) f r []).2.length<=65:=pI (m:=64) (λo r=>by have h:=LA (o.map (·.1)) dims r;rw[j6] at h;exact h) f r [] (j0 _) (λ_=>j0 _)
theorem At (dims:List d8) (f:Nat) (r:RS):(W4 W7 (λout r=>eQ (out.map (·.1)) dims r) f r []).2.length<=65:=pI (m:=64) (λo r=>by have h:=IR (o.map (·.1)) dims r;rw[j6] at h;exact h) f r [] (j0 _) (λ_=>j0 _)
theorem Bl (s:d8):Li (rG s).2:=⟨Bm _ _,Cp _ _ _,Dh _ _,Dp _ _ _,At _ _ _⟩
theorem Bk (s:d8):Li (jA s).1:=by
 unfold jA;split
 ·exact⟨j0 _,j0 _,j0 _,j0 _,j0 _⟩
 ·exact Bl s
theorem EB {n:Nat} {l:Q4} (h:l.1.natAbs < 1000/\l.2.1.natAbs < 1000/\l.2.2.1.natAbs < 1000/\l.2.2.2.natAbs < 1000):LR (Z5 n l):=by
 obtain⟨_,h1,h2,h3⟩:=GN (n:=n) h;exact⟨om,om,λt ht=>by have:=(h3 t ht).1;omega⟩
theorem DP (n:Nat) :∀(d:Nat) (l:List Nat),(∀x∈l,x < 256)->RA (R5 n d l).1
 | 0,l,_=>.mk (EB (PW l)) dc dc nofun
 | d+1,l,h=>by
  by_cases hl:l = []\/l.getD 0 0 % 6=0
  ·rw[tS n (by rcases hl with h | h;exact .inl h;exact .inr (.inr h))];exact .mk (EB (PW l)) dc dc nofun
  ·rw[JF n d (λe=>hl (.inl e)) (λe=>hl (.inr e))];have hx:l.getD 0 0 < 256:=by
    rw[e8];cases e:l[0]? with
    | none=>decide
    | some y=>exact h y (eE e)
   have hm:(if l.getD 0 0 % 6=2\/l.getD 0 0 % 6=5 then 1 else 1+l.getD 0 0 / 6 % 2)<=2:=by
    split
    ·decide
    ·have:=A6 (l.getD 0 0 / 6) (show 0 < 2 by decide);omega
   refine .mk ⟨dc,dc,nofun⟩ ?_ (by rw[tU];omega) ?_
   ·split
    ·have:=mW (z:=((l.getD 0 0:Nat):Int) - 100) (k:=3) dc om;omega
    ·decide
   ·have key :∀i,∀y∈(cJ n d (l.drop 1) i).1,RA y:=by
     intro i;induction i with
     | zero=>exact nofun
     | succ i ih=>
      intro y hy;have hy:y∈(cJ n d (l.drop 1) i).1++[(R5 n d (cJ n d (l.drop 1) i).2).1]:=hy;rcases y8.1 hy with h' | h'
      ·exact ih y h'
      ·rw[v6] at h';subst h';exact DP n d _ (λx hx=>h x (A8 (tT n d _ i x hx)))
    exact key _
theorem IJ {k:UI} (g:HF k):Ek (D4 k):=by
 have hG:=AH (FI g);refine⟨?_,by have:=hG.gp.1;omega,by have:=hG.gi.1;omega,by have:=hG.gd.1;omega,by have:=hG.gc.1;omega,by have:=hG.gr.1;omega,?_,?_,?_,?_⟩
 ·have:=(dO (kind:=112) dc (i:=k.nm % 5) om k.nm).2;show (gP 112 (k.nm % 5) k.nm).length < 1000000
  omega
 ·intro x hx;obtain⟨i,hi,rfl⟩:=sN hx;have:=(hG.gp.2 i hi).1;exact⟨by have:=this.c;omega,λc hc=>by have:=(this.v c hc).1;omega⟩
 ·intro x hx;obtain⟨i,hi,rfl⟩:=sN hx;obtain⟨s1,s2,s3⟩:=(hG.gi.2 i hi).1.s;exact⟨by have:=N8 s1;omega,by have:=N8 s2;omega,by have:=N8 s3;omega⟩
 ·intro x hx;obtain⟨i,hi,rfl⟩:=sN hx;have hF:=(hG.gc.2 i hi).1.2;have hc:=N8 hF.c;refine⟨om,by have:=hF.l;omega,λt ht=>?_⟩;obtain⟨j,hj,rfl⟩:=sN ht;have:=hF.t j hj;unfold zN at this;dsimp only at this;split at this
  ·exact absurd this dc
  ·split at this
   ·exact absurd this dc
   ·split at this
    ·rename_i h1;exact absurd this h1
    ·rename_i h1
     have h2:=N8 (B9.1 h1);rw[e8,i7 hj] at h2;exact p8 h2 dc
 ·intro x hx;obtain⟨i,y,rfl,_,hy⟩:=mU hx;refine⟨DP _ 3 y (g.g y hy),?_,?_⟩
  ·show (if y.length % 2=0 then [45,55,47,50] else []).length < 1000000
   split <;> decide
  ·show (if y.length % 3=0 then [49,49] else []).length < 1000000
   split <;> decide
end Go.Proofs.YtpjhmeicbjkcdaaGreatDoor
namespace Go.Proofs.YtpjhmeicbjkcdaaGreatDoor
open Go Go.RowKit Go.Dw
theorem VS {k:UI} (g:HF k):SA (D4 k)=(gH (D4 k),0)/\8<=(gH (D4 k)).length/\(gH (D4 k)).length<=7000:=by
 have hl:=VP g;refine⟨?_,?_,hl⟩
 ·unfold SA;rw[if_neg (λc=>c (FI g)),if_neg om]
 ·unfold gH;simp only[d6,d7,i6];omega
theorem WJ {k:UI} (g:HF k) {cs:List Value} (w:World) (hp:vX 4 (Hp.whole w) (D4 k) cs) (hT:dY (Hp.whole w)) :
  j2 Tryz.prog 13 #[.agg cs.toArray] w (v8 w (.tuple #[sv (gH (D4 k)),iQ 0])):=by
 have h:=BW w hp (IJ g) hT;rw[(VS g).1] at h;exact h
set_option maxRecDepth 10000 in
theorem UB {k:UI} (g:HF k) {cs:List Value} (at':Nat) (hat:at' < 65536) (w:World) (hS:OG (Hp.whole w) k cs) (hT:uT (Hp.whole w)) (hP:dY (Hp.whole w)) :
  j2 Tryz.prog 5 #[.agg cs.toArray,.int .u16 at'] w (v8 w (.bool true)):=by
 have hS0:=hS;obtain⟨_,hlo,hhi⟩:=VS g;have hlaw:=λ{n:Nat} (hn:n+1 < (gH (D4 k)).length)=>UD (AH (FI g)) om hn;have hcount:=IJ g;obtain⟨A1,N1,C1,A2,N2,C2,A3,N3,C3,A4,N4,C4,A5,N5,C5,rfl,_⟩:=hS.ex;refine enterZ (cx 51) [.agg #[.int .u8 k.nm,.slice A1 N1 C1,.slice A2 N2 C2,.slice A3 N3 C3,.slice A4 N4 C4,.slice A5 N5 C5],.int .u16 at'] [.tmp 4] Tryz.func5 ?_;intro b2;refine m9 (λ_ kz=>kz _ _ ?_);refine m9 λq' hq'=>?_;refine k7 _ (λw' hm=>GO w' (hT.mono (hm 0 _ rfl).whole) (hP.mono (hm 0 _ rfl).whole)) ?_;apply hq';refine dU rfl ?_;refine m9 λq' hq'=>?_;refine call (λw' hm=>HJ g w' (hS0.mono (hm 0 _ rfl).whole) (hP.mono (hm 0 _ rfl).whole)) ?_;rintro _ _ ⟨H,xs,rfl,rfl,_,hp⟩;obtain⟨a1,n1,c1,a2,n2,c2,a3,n3,c3,a4,n4,c4,a5,n5,c5,rfl,_⟩:=tO hp;intro b5;apply hq';refine nQ [.hp (Hp.whole w),.box b2 [.int .u8 k.nm,.slice A1 N1 C1,.slice A2 N2 C2,.slice A3 N3 C3,.slice A4 N4 C4,.slice A5 N5 C5] 61,.hp H,.box b5 [sv (D4 k).nm,.slice a1 n1 c1,.slice a2 n2 c2,.slice a3 n3 c3,.slice a4 n4 c4,.slice a5 n5 c5] 30] λq' hq'=>?_;refine k7 _ (λw' hm=>WJ g w' (hp.mono (hm 2 _ rfl).whole) (hP.mono (hm 0 _ rfl).whole)) ?_;obtain⟨T,hTt⟩ :∃T,T=gH (D4 k):=⟨_,rfl⟩
 rw[<-hTt] at hlo hhi hlaw ⊢;have hTs:=C8 T;apply hq';refine m9 λq' hq'=>?_;apply hq';refine K9 (by rfl) (λs1=>absurd (of_decide_eq_true s1) om) λ_=>?_;refine nQ [.hp (Hp.whole w),.box b2 [.int .u8 k.nm,.slice A1 N1 C1,.slice A2 N2 C2,.slice A3 N3 C3,.slice A4 N4 C4,.slice A5 N5 C5] 61,.hp H,.box b5 [sv (D4 k).nm,.slice a1 n1 c1,.slice a2 n2 c2,.slice a3 n3 c3,.slice a4 n4 c4,.slice a5 n5 c5] 30] λq' hq'=>?_;(iterate 2 refine nwo ?_);have hm1:at' % (T.length - 1) < T.length - 1:=A6 _ om;refine gF at' (T.length - 1) (at' % (T.length - 1)) rfl om om rfl ?_;obtain⟨n,hn⟩ :∃n,n=at' % (T.length - 1):=⟨_,rfl⟩
 rw[<-hn] at hm1 ⊢;have hlaw:=hlaw (n:=n) om;refine nN cQ (S:=9) rfl rfl 0 n (.inl ⟨rfl,rfl⟩) (.inr ⟨_,_,rfl,rfl⟩) om om ?_;rw[G6];obtain⟨U,hU⟩ :∃U,U=T.take n:=⟨_,rfl⟩
 rw[<-hU] at hlaw ⊢;have hpl:=Bk U;have hpe:(jA U).2.2.2≠0\/qJ (jA U).1 < qJ (D4 k):=by
  unfold jA;by_cases he:(rG U).1.e=0
  ·rw[if_neg (λc=>c he)];exact .inr (hlaw.resolve_left (λc=>c he))
  ·rw[if_pos he];exact .inl he
 have hPa:=λ(w':World) (hm:(Hp.whole w).In w')=>sG U w' (hT.mono hm.whole);generalize jA U=Z at hpl hpe hPa;obtain⟨Q,z1,z2,er⟩:=Z;dsimp only at hpl hpe hPa;refine call (λw' hm=>hPa w' (hm 0 _ rfl)) ?_;rintro _ _ ⟨H2,ys,rfl,rfl,_,hp2⟩;obtain⟨u1,m1,e1,u2,m2,e2,u3,m3,e3,u4,m4,e4,u5,m5,e5,rfl,_⟩:=tO hp2;intro b8;apply hq';have cq9:=λ(w':World) (hp:vX 9 (Hp.whole w') Q [sv Q.nm,.slice u1 m1 e1,.slice u2 m2 e2,.slice u3 m3 e3,.slice u4 m4 e4,.slice u5 m5 e5])=>uO w' hp (by have:=hpl.1;omega) (by have:=hpl.2.1;omega) (by have:=hpl.2.2.1;omega) (by have:=hpl.2.2.2.1;omega) (by have:=hpl.2.2.2.2;omega);have cP:=λ(w':World) (hp:vX 4 (Hp.whole w') (D4 k) [sv (D4 k).nm,.slice a1 n1 c1,.slice a2 n2 c2,.slice a3 n3 c3,.slice a4 n4 c4,.slice a5 n5 c5])=>uO w' hp hcount.np hcount.ni hcount.nd hcount.nc hcount.nr;obtain⟨z,hz⟩ :∃z,z=true:=⟨_,rfl⟩
 refine u6.cut Unit (λ_=>[(4,.v (.bool z))]) (λ_=>[.hp (Hp.whole w)]) (λ_=>True) (u6.by_order cQ (.take 0 <| .take 1 <| .take 2 <| .take 3 <| .take 5 <| .run 4 <| .run 6 <| .take 7 <| .take 8 <| .take 9 <| .done) kr ?_) ?_
 ·refine d9 (λs2=>?_) λs2=>?_
  ·first
   | exact⟨(),trivial,y6.mk (pj [0]) (by rw[hz];rfl) rfl⟩
   | exact⟨sK,(),trivial,y6.mk (pj [0]) (by rw[hz];rfl) rfl⟩
   | exact⟨sK,sK,(),trivial,y6.mk (pj [0]) (by rw[hz];rfl) rfl⟩
  ·have hlt:=hpe.resolve_left (λc=>s2 c);refine k7 _ (λw' hm=>cq9 w' (hp2.mono (hm 4 _ rfl).whole)) ?_;refine⟨sK,?_⟩;refine k7 _ (λw' hm=>cP w' (hp.mono (hm 2 _ rfl).whole)) ?_;refine⟨sK,?_⟩;exact⟨(),trivial,y6.mk (pj [0]) (by rw[show z=decide (((qJ Q:Nat):Int) < ((qJ (D4 k):Nat):Int)) from hz.trans (decide_eq_true om).symm];rfl) rfl⟩
 intro _ _ _;rw[hz];exact⟨[],⟨rfl,rfl⟩,pk [0]⟩
end Go.Proofs.YtpjhmeicbjkcdaaGreatDoor
namespace Go.Proofs.YtpjhmeicbjkcdaaGreatDoor
open Go Go.RowKit Go.Dw Go.ChangeShapes Go.WideShapes Go.ChangeAt
set_option maxRecDepth 100000 in
theorem mL (os:Os) (started:os.Started) (H:Type) (enc:TypeId×Value->H) :
  ReturnsInHanded {} Tryz.checked os 5 .any (λw args=>(Rows.documentBeginsSpec.pre enc Tryz.prog Tryz.f5 [] false w args/\laidMetH Tryz.prog kZ w)/\sizedMet enc Tryz.prog Tryz.f5 (OpenSpec.ofChange Rows.documentBeginsSpec) false w args)
   (Rows.documentBeginsSpec.post enc Tryz.prog Tryz.f5 false true false false):=by
 refine returnsInHanded_of_change_and (C:=Tryz.checked) (X:=λw _=>laidMetH Tryz.prog kZ w) (λ_ _ _ hh h=>h.of_heap hh) own started kr Tryz.func5
  (ChangeSpec.witness_shaped (enc:=enc) (C:=Tryz.checked) (os:=os) (X:=λw _=>laidMetH Tryz.prog kZ w) false (World.laidAll Tryz.prog os kZ) #[.agg #[.int .u8 0,zl,zl,zl,zl,zl],.int .u16 0] 8 (World.laidAll_os _ _ _)
   (SP os _) kr kr kr (Hk os _)) ?_
 intro W base args ds gs before hval0 hW _ _ hL _;have hval :∀(j:Nat) t v,Tryz.f5.params[j]?=some t->args[j]?=some v->Value.okWide Tryz.prog W .any base t v:=hval0;have hW':=hW;obtain⟨p,q,hA0,hV,rfl,hfz,hnd⟩:=hW;have hA:DataW.TrodAll enc Tryz.prog W 0 (λ_=>true) true Tryz.f5.params.toList args.toList ds p:=hA0;rw[Tryz.params5] at hA hval;obtain⟨v0,v1,d0,d1,p0,p1,rfl,rfl,rfl,h0,h1⟩:=trodAll_two hA;obtain⟨k0,cs0,rfl,g0,hS0⟩:=Gy (hval 0 _ v0 rfl rfl) h0;obtain⟨u1,rfl,_,_,hw1⟩:=open_int Tryz.underlying62 (hval 1 _ v1 rfl rfl) h1;obtain⟨hb1,hc1⟩:=MB hw1;obtain⟨n1,rfl⟩:=S8 hb1;exact XX rfl kr kr hW' rfl rfl rfl (UB g0 n1 om W hS0 (FD hL) (FE hL))
theorem sE:Rows.DocumentBeginsSaid:=
 OpenClaim.holds_of_wide 5 Tryz.f5 rfl rfl rfl rfl rfl rfl rfl ⟨rfl,rfl,rfl,rfl,rfl⟩ rfl rfl rfl rfl rfl kr Tryz.func5 oK
  (of_decide_eq_true kr) (by unfold Func.isWrapper;first | (rw[if_pos (by decide +kernel)];kernel_rfl) | (rw[if_neg (by decide +kernel)];exact⟨rfl,rfl⟩))
  (λos started H enc _=>mL os started H enc)
theorem documentBegins_holds:Rows.DocumentBeginsCardSaid:=
 Claim7.holds_tied_plain_at .later [] [.data,.data,.data,.data,.sentinel,.sentinel,.listed,.data,.pinned] true (true,"5524b49a99c14b84714612f17c4273e75e7ba66b67a78b9d8144231c70c6d12f") true
  sE (λ_ h=>by cases h) kr (λ_ h=>by cases h) documentBegins_row_tie rfl ⟨rfl,rfl⟩ kr rfl
  (λf fn hf hfn=>by
   obtain rfl:f=5:=M0 ((show Tryz.prog.funcNamed "dowel/dowellaw36.DocumentBegins" = some 5 by kernel_rfl).symm.trans hf) |>.symm
   obtain rfl:fn=Tryz.f5:=(M0 (Tryz.func5.symm.trans hfn)).symm;exact⟨kr,λj t ht=>by
    rw[Tryz.params5] at ht;have hm:t∈[61,62]:=by simpa using Array.mem_of_getElem? ht
    have hall:([61,62].all λu=>!Tryz.prog.wantsStandIn u)=true:=kr
    exact (show Tryz.prog.wantsStandIn t=false by simpa using s7.1 hall t hm)⟩)
  qG.symm
end Go.Proofs.YtpjhmeicbjkcdaaGreatDoor
