/- Parts of one proof, joined. No condition of its own. -/
import Derived.Test.YtpjhmeicbjkcdaaGreatDoorZB1
import Derived.Lib.AppendZeros
import Derived.Shelf.Strings.Search1
import Derived.Ground.NamesProg
import Derived.Test.YtpjhmeicbjkcdaaGreatDoorProg
import Derived.Shelf.Pu.ParseUintPublic10
import Derived.Ground.MpProg
import Derived.Shelf.Strings.SlTrimAscii
import Derived.Shelf.Strconv.Itoa3
import Derived.Laws.CopyRow
import Derived.Tactics
import Derived.Tactics2
import Derived.Defers
import Derived.Laws.Pointers
import Derived.Laws.LoneSync
import Derived.RegionTactic
import Derived.RegionCalls
import Derived.ChangeAlike
import Derived.Shelf.Abstract
import Derived.Laws.IdiomStrings
import Derived.Shelf.Strings.Fields
import Derived.Laws.BytesArg
import Derived.Shelf.Strings.Builder1
import Derived.OrdersHeld
open Bool renaming false_eq_true->iN,and_true->Nf,false_and->U4,and_eq_true->k6,or_eq_true->U8,and_false->uV,true_and->F6,eq_iff_iff->L6,or_true->kB,false_or->AV,not_eq_true'->Z7,false_ne_true->H0
open Classical renaming byContradiction->j9,not_not->l9
open Int renaming natCast_nonneg->S4,tmod_eq_emod_of_nonneg->Lu,natCast_ediv->Fx,eq_ofNat_of_zero_le->aS
open List renaming drop_eq_getElem_cons->r5,drop_eq_nil_of_le->H4,drop_zero->H6,append_assoc->o6,eq_nil_of_length_eq_zero->w9,getElem_mem->j0,length_append->d6,length_drop->k9,length_replicate->O9,length_take->j8,mem_append->G1,mem_cons->A8,mem_of_mem_drop->E8,mem_of_mem_take->C6,mem_singleton->E2,nil_append->N6,not_mem_nil->Q0,replicate->p7,take_length->p9,all_eq_true->z6,append_nil->p8,getD_eq_getElem?_getD->i7,getElem?_eq_getElem->i6,getElem?_eq_none->X4,mem_range->aP,range->z8,replicate_succ->qF,take_of_length_le->u7,cons_append->BT,drop_of_length_le->bW,drop_drop->R2,drop_left'->FJ,length_cons->d7,length_nil->d9,length_set->N8,set_eq_take_append_cons_drop->YD,take_append_drop->E4,take_left'->Y7,takeWhile_cons->D8,all_cons->T6,any_eq_false->J8,mem_map->G6,any_eq_true->E6,find?_eq_none->iL,length_map->l7,map_cons->N7,mem_of_find?_eq_some->Ml,length_pos_iff->G2,map_append->E9,mem_iff_getElem->Q1,take_add->SR,all_append->qE,length_singleton->w7,flatMap_append->V1,size_toArray->Z6,getElem?_eq_some_iff->q9,getElem?_drop->bV,length->F7,take_succ_cons->SK,mem_cons_of_mem->A9,mem_of_getElem?->MX,getElem?_append_left->Y0,getElem?_append_right->N0
open Nat renaming lt_trichotomy->Bp,add_mul->D9,add_zero->G3,div_eq_of_lt->Fu,div_lt_iff_lt_mul->L7,min_eq_left->Y5,mod_eq_of_lt->C9,mul_comm->q8,mul_le_mul->Q9,mul_le_mul_right->y9,one_mul->P9,pos_of_ne_zero->F8,sub_self->bS,zero_le->f8,beq->X3,ble->R0,blt->PB,div_le_self->D7,eq_of_beq_eq_true->J4,le_of_ble_eq_true->E0,lt_of_le_of_lt->s7,lt_of_lt_of_le->S3,mod_lt->C8,mul_div_cancel_left->Ni,mul_left_comm->jZ,mul_lt_mul_of_pos_right->Ji,pow_add->iO,two_pow_pos->cA,zero_mul->Z4,add_sub_cancel->XV,mul_add->B9,mul_assoc->A0,mul_le_mul_left->B8,mul_one->E3,pow_pos->MU,zero_add->y8,le_of_lt->kA,mul_zero->jY,pow_le_pow_right->I4,blt_eq->Lp,gcd->I5,strongRecOn->gY,eq_zero_or_pos->w6,lt_irrefl->nW,le_refl->k8,le_add_right->aO,lt_or_ge->K8,pow_succ->O3,not_lt_zero->H5,add_comm->V9,succ_mul->Z5,le_trans->v8,le_max_left->Y6,le_max_right->W4,le_of_succ_le_succ->E1,max->tI,zero_lt_succ->O2,succ_ne_zero->Ft
open Option.some renaming injEq->m9
namespace Go.Proofs.YtpjhmeicbjkcdaaGreatDoor
open Go Go.RowKit Go.Dw
theorem RN {a b:List Nat} {i:Nat} (hi:i < a.length) (hi2:i < b.length) (h:a.drop (i+1)=b.drop (i+1)) (e:a[i]=b[i]):a.drop i=b.drop i:=by
 rw[r5 hi,r5 hi2,h,e]
theorem mI {La Lb:List Nat} {a1 a2:Option Addr} {n1 c1 n2 c2 x y:Nat} (w:World) (ha:Sl (B0 fW) 1 (Hp.whole w) a1 n1 c1 La) (hb:Sl (B0 fW) 1 (Hp.whole w) a2 n2 c2 Lb) (hca:fG La x) (hcb:fG Lb y) (h2:Lb.length < 1000000) :
  j6 Tryz.prog 215 #[.slice a1 n1 c1,.slice a2 n2 c2] w (v7 w (iQ (BM x y))):=by
 have hn1:=ha.len;have hn2:=hb.len;refine enterZ (cx 41) [.slice a1 n1 c1,.slice a2 n2 c2] [.tmp 4] Tryz.func215 ?_;refine d8 (λh3=>?_) λh3=>?_
 ·refine d8 (λh4=>?_) λh4=>?_
  ·have:=hca.shorter hcb om;exact⟨[],⟨by unfold BM;rw[if_pos this],rfl⟩,pk [0]⟩
  ·have:=hcb.shorter hca om;exact⟨[],⟨by unfold BM;rw[if_neg om,if_pos this],rfl⟩,pk [0]⟩
 ·refine nwo ?_;refine u6.mk Int (λg=>[(0,.v (.slice a1 n1 c1)),(1,.v (.slice a2 n2 c2)),(5,.v (iQ g))]) (λ_=>[.hp (Hp.whole w)])
   (λg=>-1<=g/\g < n1/\La.drop (g+1).toNat=Lb.drop (g+1).toNat) (λg=>(g+1).toNat) (n1 - 1) ⟨om,om,by
    rw[H4 om,H4 om]⟩ (v6.mk (λ_ _ h=>h) rfl rfl) ?_
  rintro g ⟨hg1,hg2,hg3⟩;dsimp only at *;refine d8 (λh5=>?_) λh5=>?_
  ·obtain⟨k,hk⟩ :∃k:Nat,g=k:=⟨g.toNat,om⟩
   subst hk;have hk1:k < La.length:=om
   have hk2:k < Lb.length:=om
   have hg3:La.drop (k+1)=Lb.drop (k+1):=hg3;refine s6.by_order cQ (.take 0 <| .take 1 <| .take 2 <| .take 3 <| .take 4 <| .take 5 <| .take 6 <| .take 7 <| .take 8 <| .done) kr ?_;refine I1 cQ (e:=247) rfl ha k rfl hk1 λb9 o9 cs hcs hR hcell4=>?_;subst hR;refine lQ 0 (hcell4 0 _ rfl) ?_;refine I1 cQ (e:=247) rfl hb k rfl hk2 λb9 o9 cs hcs hR hcell5=>?_;subst hR;refine lQ 0 (hcell5 0 _ rfl) ?_;refine d8 (λh6=>?_) λh6=>?_
   ·refine s6.by_order cQ (.take 0 <| .take 1 <| .take 2 <| .take 3 <| .take 4 <| .take 5 <| .take 6 <| .take 7 <| .take 8 <| .done) kr ?_;refine I1 cQ (e:=247) rfl ha k rfl hk1 λb9 o9 cs hcs hR hcell7=>?_;subst hR;refine lQ 0 (hcell7 0 _ rfl) ?_;refine I1 cQ (e:=247) rfl hb k rfl hk2 λb9 o9 cs hcs hR hcell8=>?_;subst hR;refine lQ 0 (hcell8 0 _ rfl) ?_;refine d8 (λh9=>?_) λh9=>?_
    ·have:=NX om hca.l hk1 hk2 hg3 om;rw[hca.v,hcb.v] at this;exact⟨[],⟨by unfold BM;rw[if_pos this],rfl⟩,pk [0]⟩
    ·have:=NX om hcb.l hk2 hk1 hg3.symm om;rw[hca.v,hcb.v] at this;exact⟨[],⟨by unfold BM;rw[if_neg om,if_pos this],rfl⟩,pk [0]⟩
   ·refine nwo ?_;exact⟨(k:Int) - 1,⟨om,om,by
     have e:((k:Int) - 1+1).toNat=k:=om
     rw[e];exact RN hk1 hk2 hg3 om⟩,om,v6.mk (λ_ _ h=>h) rfl rfl⟩
  ·have e:(g+1).toNat=0:=om
   rw[e,H6,H6] at hg3;have:x=y:=by rw[<-hca.v,<-hcb.v,hg3]
   exact⟨[],⟨by unfold BM;rw[if_neg om,if_neg om],rfl⟩,pk [0]⟩
def aG (neg:Bool) (m:Nat):Int:=if neg=true then -(m:Int) else m
theorem UJ {s:List Ch} {xo yo:Operand} {x y:Bool} {q:TV->Prop} (h:q (.v (.bool (!(x==y))))) :
  B7 Tryz.prog s (do eqGuard .neq 4 xo yo (.bool x) (.bool y);binOp .neq 4 (.bool x) (.bool y)) q:=by
 refine⟨_,λw _=>?_,h⟩;have hun:(underlying 4).run Tryz.prog w=.ok .bool w:=by simp[underlying,Tryz.underlying4]
 have hg:(eqGuard .neq 4 xo yo (.bool x) (.bool y)).run Tryz.prog w=.ok () w:=by simp[eqGuard]
 rw[Sem.run_bind,hg];simp only[Result.andThen_ok,binOp,Sem.run_bind];unfold Op.equal Op.maxDepth;rw[show (10000:Nat)=9999+1 from rfl];unfold Op.equalIn;simp only[Sem.run_bind,hun,Result.andThen_ok];rfl
theorem cU {La Lb:List Nat} {g1 g2:Bool} {a1 a2:Option Addr} {n1 c1 n2 c2 x y:Nat} (w:World) (ha:Sl (B0 fW) 1 (Hp.whole w) a1 n1 c1 La) (hb:Sl (B0 fW) 1 (Hp.whole w) a2 n2 c2 Lb) (hca:fG La x) (hcb:fG Lb y) (h1:La.length < 1000000) (h2:Lb.length < 1000000) (p1:g1=true->0 < x) (p2:g2=true->0 < y) :
  j6 Tryz.prog 182 #[U9 g1 a1 n1 c1,U9 g2 a2 n2 c2] w (v7 w (iQ (iC (aG g1 x) (aG g2 y)))):=by
 refine enterZ (cx 26) [U9 g1 a1 n1 c1,U9 g2 a2 n2 c2] [.tmp 4] Tryz.func182 ?_;intro b2;intro b3;refine UJ ?_;refine s8 (λh3=>?_) λh3=>?_
 ·refine s8 (λh4=>?_) λh4=>?_
  ·subst h4;have:g2=false:=by cases g2 with | false=>rfl | true=>cases h3
   subst this;have:=p1 rfl;exact⟨[],⟨by unfold iC;rw[if_pos (show aG true x < aG false y from show -(x:Int) < (y:Int) by omega)],rfl⟩,pk [0]⟩
  ·subst h4;have:g2=true:=by cases g2 with | true=>rfl | false=>cases h3
   subst this;have:=p2 rfl;exact⟨[],⟨by unfold iC;rw[if_neg (show ¬ aG false x < aG true y from show ¬ (x:Int) < -(y:Int) by omega),if_pos (show aG true y < aG false x from show -(y:Int) < (x:Int) by omega)],rfl⟩,pk [0]⟩
 ·have hg:g1=g2:=by cases g1 <;> cases g2 <;> first | rfl | cases h3
  subst hg;refine s8 (λh4=>?_) λh4=>?_
  ·refine k7 _ (λw' hm=>mI w' (hb.mono (j7 _) (hm 0 _ rfl)) (ha.mono (j7 _) (hm 0 _ rfl)) hcb hca h1) ?_;exact⟨[],⟨by
    subst h4;unfold BM iC aG;congr 1
    simp only[if_true];rcases Bp x y with g | g | g
    ·rw[if_neg om,if_pos om,if_neg om,if_pos om]
    ·rw[if_neg om,if_neg om,if_neg om,if_neg om]
    ·rw[if_pos om,if_pos om],rfl⟩,pk [0]⟩
  ·refine k7 _ (λw' hm=>mI w' (ha.mono (j7 _) (hm 0 _ rfl)) (hb.mono (j7 _) (hm 0 _ rfl)) hca hcb h2) ?_;exact⟨[],⟨by
    subst h4;unfold BM iC aG;congr 1
    simp only[iN,if_false];rcases Bp x y with g | g | g
    ·rw[if_pos om,if_pos om]
    ·rw[if_neg om,if_neg om,if_neg om,if_neg om]
    ·rw[if_neg om,if_pos om,if_neg om,if_pos om],rfl⟩,pk [0]⟩
end Go.Proofs.YtpjhmeicbjkcdaaGreatDoor
namespace Go.Proofs.YtpjhmeicbjkcdaaGreatDoor
open Go Go.RowKit Go.Dw
theorem OZ {u:Nat} (h:u < 18446744073709551616):P3 [u % 4294967296,u / 4294967296 % 4294967296]/\u9 [u % 4294967296,u / 4294967296 % 4294967296]=u:=by
 refine⟨λd hd=>?_,?_⟩
 ·simp only[A8,Q0,or_false] at hd;unfold Bs;rcases hd with rfl | rfl <;> omega
 ·simp only[u9];unfold Bs;omega
theorem TE {L:List Nat} (hL:P3 L):trN L=0↔u9 L=0:=by
 have h:=W2 hL;rw[h.zero,<-gP];exact⟨w9,λe=>by rw[e];rfl⟩
theorem iA {h:Hp} {L:List Nat} {a:Option Addr} {n c:Nat} (hs:Sl (B0 fW) 1 h a n c L):Sl (B0 fW) 1 h a (trN L) c (JK L):=hs.upto (by rw[hs.len];exact lK L)
theorem uB (x:Int) (hx1 : -9223372036854775808<=x) (hx2:x<=9223372036854775807) (w:World) :
  j6 Tryz.prog 148 #[iQ x] w (fD w λv cs=>∃g a n c L,cs = [.hp g]/\v=U9 (decide (x < 0)) a n c/\Sl (B0 fW) 1 g a n c L/\fG L x.natAbs):=by
 refine enterZ (cx 19) [iQ x] [.cell 2 139] Tryz.func148 ?_;intro b2;refine wY (y:=x % 18446744073709551616) rfl ?_;refine d8 (λh1=>?_) λh1=>?_
 ·refine wY (y:=(x.natAbs:Nat)) om ?_;refine gU x.natAbs rfl ?_;refine pA x.natAbs 32 rfl rfl dc ?_;refine gU (x.natAbs / 2 ^ 32) rfl ?_;intro b17;obtain⟨hL,hV⟩:=OZ (u:=x.natAbs) om;refine k7 _ (λw' hm=>aV _ w' (Sl.box (f:=fW) (λ_=>rfl) dc (hm 2 _ rfl) [x.natAbs % 4294967296,x.natAbs / 4294967296 % 4294967296] rfl rfl sQ) sQ) ?_;have ho:=w8.sl (f:=fW) (sz:=1) (λ_=>rfl) dc (w8.ofBox (sz:=1) (f:=fW) (b:=b17) (T:=247) (λ_=>rfl) [x.natAbs % 4294967296,x.natAbs / 4294967296 % 4294967296] rfl rfl sQ);refine⟨_,⟨_,_,_,_,_,rfl,?_,iA ho,by have:=W2 hL;rw[hV] at this;exact this⟩,λw' h=>(h.pick [0,2] rfl rfl).boxHp⟩;have:0 < trN [x.natAbs % 4294967296,x.natAbs / 4294967296 % 4294967296]:=F8 λe=>by
   rw[TE hL,hV] at e;omega
  rw[decide_eq_true this,Nf];rfl
 ·refine gU x.natAbs om ?_;refine pA x.natAbs 32 om rfl dc ?_;refine gU (x.natAbs / 2 ^ 32) rfl ?_;intro b17;obtain⟨hL,hV⟩:=OZ (u:=x.natAbs) om;refine k7 _ (λw' hm=>aV _ w' (Sl.box (f:=fW) (λ_=>rfl) dc (hm 2 _ rfl) [x.natAbs % 4294967296,x.natAbs / 4294967296 % 4294967296] rfl rfl sQ) sQ) ?_;have ho:=w8.sl (f:=fW) (sz:=1) (λ_=>rfl) dc (w8.ofBox (sz:=1) (f:=fW) (b:=b17) (T:=247) (λ_=>rfl) [x.natAbs % 4294967296,x.natAbs / 4294967296 % 4294967296] rfl rfl sQ);refine⟨_,⟨_,_,_,_,_,rfl,?_,iA ho,by have:=W2 hL;rw[hV] at this;exact this⟩,λw' h=>(h.pick [0,2] rfl rfl).boxHp⟩;rw[decide_eq_false h1,U4];rfl
def vL (by':Nat) (L:List Nat) (plus:Nat):List Nat:=(V5 by' L plus).1++[(V5 by' L plus).2]
theorem QC {by' plus:Nat} (hb:by' < Bs) (hp:plus < Bs) {L:List Nat} (hL:P3 L):u9 (vL by' L plus)=u9 L*by'+plus/\P3 (vL by' L plus)/\(vL by' L plus).length=L.length+1:=by
 obtain⟨h1,h2,h3,h4⟩:=rE hb L plus hL hp;refine⟨?_,λd hd=>?_,by unfold vL;rw[d6,h2];rfl⟩
 ·unfold vL;rw[Y8,h2];omega
 ·rcases G1.1 hd with g | g
  ·exact h3 d g
  ·rw[E2] at g;rw[g];exact h4
theorem yE {L:List Nat} {a:Option Addr} {n c m:Nat} (w:World) (by' plus:Nat) (hs:Sl (B0 fW) 1 (Hp.whole w) a n c L) (hc:fG L m) (hl:L.length < 900000) (hb:by' < Bs) (hp:plus < Bs) :
  j6 Tryz.prog 258 #[.slice a n c,.int .u32 by',.int .u32 plus] w (fD w λv cs=>∃g a' n' c' L',cs = [.hp g]/\v=.slice a' n' c'/\Sl (B0 fW) 1 g a' n' c' L'/\fG L' (m*by'+plus)/\L'.length<=L.length+1):=by
 have hn:=hs.len;refine enterZ (cx 47) [.slice a n c,.int .u32 by',.int .u32 plus] [.tmp 6] Tryz.func258 ?_;refine nwo ?_;refine Er (f:=fW) cQ (e:=247) rfl (L.length+1) 0 rfl om om rfl om λo14 ho14n ho14=>?_;refine J9 plus rfl (by unfold Bs at hp;omega) ?_;refine u6.mk (Nat×Dw.Os) (λg=>[(0,.v (.slice a n c)),(1,.v (.int .u32 by')),(7,.v (g.2.v)),(8,.v (.int .u64 ((V5 by' (L.take g.1) plus).2:Nat))),(17,.v (.slice a n c)),(18,.v (iQ n)),(19,.v (iQ g.1))]) (λg=>[.hp (Hp.whole w),.hp g.2.h])
  (λg=>g.1<=L.length/\w8 fW 247 1 g.2 ((V5 by' (L.take g.1) plus).1++(p7 (L.length - g.1+1) 0++[]))) (λg=>L.length - g.1) (0,o14) ⟨f8 _,by simpa [V5] using ho14⟩ (v6.mk (λ_ _ h=>h) rfl rfl) ?_
 rintro⟨i,o⟩ ⟨hi,ho⟩;dsimp only at *;have hv:=rE hb (L.take i) plus (λd hd=>hc.l d (C6 hd)) hp;have hlen:=yF by' (L.take i) plus
 rw[j8,Y5 hi] at hlen;refine d8 (λh1=>?_) λh1=>?_
 ·have hi':i < L.length:=om
  have hd:=hc.l L[i] (j0 hi');have hdb:L[i]*by'<=(Bs - 1)*(Bs - 1):=Q9 om om
  have hc4:=hv.2.2.2;have hsn:=tU by' (L.take i) L[i] plus
  rw[<-I8 L i hi'] at hsn;refine I1 cQ (e:=247) rfl hs i rfl hi' λb9 o9 cs hcs hR hcell2=>?_;subst hR;refine lQ 0 (hcell2 0 _ rfl) ?_;refine J9 L[i] rfl (by unfold Bs at hd;omega) ?_;refine J9 by' rfl (by unfold Bs at hb;omega) ?_
  refine J9 (L[i]*by') sQ (by unfold Bs at hdb;omega) ?_;refine J9 ((V5 by' (L.take i) plus).2+L[i]*by') sQ (by unfold Bs at hdb hc4;omega) ?_;refine gU ((V5 by' (L.take i) plus).2+L[i]*by') rfl ?_;refine aW cQ (e:=247) rfl rfl ho i rfl (by simp;omega) λb3 hb3=>?_;refine kI (g:=λx:Nat=>.int .u32 x) (λ_=>rfl) cQ (i:=1) rfl hb3 ho (by simp;omega) rfl rfl (((V5 by' (L.take i) plus).2+L[i]*by') % Bs) rfl rfl rfl λo2 f1 f2 f3 ho2=>?_;refine pA ((V5 by' (L.take i) plus).2+L[i]*by') 32 rfl rfl dc ?_;refine nwo ?_;refine⟨(i+1,o2),⟨om,?_⟩,by dsimp only;omega,v6.mk (λ_ _ h=>h) ?_ rfl⟩
  ·have e:=DX (V5 by' (L.take i) plus).1 0 (((V5 by' (L.take i) plus).2+L[i]*by') % Bs) (L.length - (i+1)+1) [];rw[hlen] at e;rw[show L.length - i+1=L.length - (i+1)+1+1 by omega] at ho2;rw[e] at ho2;rw[hsn];exact ho2
  ·dsimp only[Os.v];rw[hsn,f1,f2,f3];rfl
 ·have hi':i=L.length:=om
  subst hi';rw[p9] at hv hlen ho ⊢;have hc4:=hv.2.2.2;refine gU ((V5 by' L plus).2) rfl ?_;refine aW cQ (e:=247) rfl rfl ho L.length om (by simp;omega) λb3 hb3=>?_;refine kI (g:=λx:Nat=>.int .u32 x) (λ_=>rfl) cQ (i:=1) rfl hb3 ho (by simp;omega) rfl rfl ((V5 by' L plus).2 % Bs) rfl rfl rfl λo2 f1 f2 f3 ho2=>?_;have e:((V5 by' L plus).1++(p7 (L.length - L.length+1) 0++[])).set L.length ((V5 by' L plus).2 % Bs)=vL by' L plus:=by
   have:=DX (V5 by' L plus).1 0 ((V5 by' L plus).2 % Bs) 0 [];rw[hlen] at this;rw[bS,this,C9 hc4];simp[vL]
  rw[e] at ho2;have hr:=QC hb hp hc.l;have ho3:=w8.sl (f:=fW) (sz:=1) (λ_=>rfl) dc ho2;rw[f1,f2,f3] at ho3;refine k7 _ (λw' hm=>aU w' (ho3.mono (j7 _) (hm 1 _ rfl)) (by rw[hr.2.2];omega)) ?_;exact⟨[.hp o2.h],⟨_,_,_,_,_,rfl,rfl,iA ho3,by have:=W2 hr.2.1;rw[hr.1,hc.v] at this;exact this,by have:=lK (vL by' L plus);have:=hr.2.2;rw[gP];omega⟩,pk [0,1]⟩
theorem yC {L:List Nat} {a:Option Addr} {n c:Nat} (w:World) (by':Nat) (hs:Sl (B0 fW) 1 (Hp.whole w) a n c L) (hc:P3 L) (hl:L.length < 900000) (h0:0 < by') (hb:by' < Bs) :
  j6 Tryz.prog 198 #[.slice a n c,.int .u32 by'] w (fD w λv cs=>∃g a' n' c' L',cs = [.hp g]/\v=.tuple #[.slice a' n' c',.int .u32 ((u9 L % by':Nat):Int)]/\Sl (B0 fW) 1 g a' n' c' L'/\fG L' (u9 L / by')):=by
 have hn:=hs.len;have hb':by' < 4294967296:=hb
 refine enterZ (cx 43) [.slice a n c,.int .u32 by'] [.tmp 4,.tmp 5] Tryz.func198 ?_;refine Er (f:=fW) cQ (e:=247) rfl L.length 0 rfl om om rfl om λo11 ho11n ho11=>?_;refine nwo ?_;refine u6.mk (Int×Dw.Os) (λg=>[(0,.v (.slice a n c)),(1,.v (.int .u32 by')),(6,.v (g.2.v)),(7,.v (.int .u64 ((fK by' (L.drop (g.1+1).toNat)).2:Nat))),(8,.v (iQ g.1))]) (λg=>[.hp (Hp.whole w),.hp g.2.h])
  (λg=>-1<=g.1/\g.1 < n/\w8 fW 247 1 g.2 (p7 (g.1+1).toNat 0++(fK by' (L.drop (g.1+1).toNat)).1)) (λg=>(g.1+1).toNat) ((n:Int) - 1,o11) ⟨by dsimp only;omega,by dsimp only;omega,by
   have e:((n:Int) - 1+1).toNat=L.length:=om
   dsimp only;rw[e,List.drop_length];simpa [fK] using ho11⟩ (v6.mk (λ_ _ h=>h) (by
    have e:((n:Int) - 1+1).toNat=L.length:=om
    dsimp only;rw[e,List.drop_length];rfl) rfl) ?_
 rintro⟨i,o⟩ ⟨hi1,hi2,ho⟩;dsimp only at *;refine d8 (λh1=>?_) λh1=>?_
 ·obtain⟨k,hk⟩ :∃k:Nat,i=k:=⟨i.toNat,om⟩
  subst hk;have hk1:k < L.length:=om
  have ek:((k:Int)+1).toNat=k+1:=om
  rw[ek] at ho ⊢;have hd:=hc L[k] (j0 hk1);have hsv:=yD h0 hb (L.drop (k+1)) λd hd=>hc d (E8 hd);have hsd:=PS by' L k hk1
  have hsl:=GB by' (L.drop (k+1))
  generalize hS:fK by' (L.drop (k+1))=S at *
  have hr:=hsv.2.2.2;have hdl:(L.drop (k+1)).length=L.length - (k+1):=k9;refine EH S.2 32 rfl rfl dc ?_;have e1:S.2*2 ^ 32 % 18446744073709551616=2 ^ 32*S.2:=by
   rw[q8];exact C9 om
  rw[e1];refine I1 cQ (e:=247) rfl hs k rfl hk1 λb9 o9 cs hcs hR hcell2=>?_;subst hR;refine lQ 0 (hcell2 0 _ rfl) ?_;refine J9 L[k] rfl (by unfold Bs at hd;omega) ?_;refine NU (2 ^ 32*S.2) L[k] rfl rfl om (by unfold Bs at hd;omega) ?_;rw[EL (k:=32) rfl hd];have e2:2 ^ 32*S.2+L[k]=S.2*Bs+L[k]:=by rw[q8];rfl
  rw[e2];have hB:S.2*Bs+L[k] < 18446744073709551616:=by unfold Bs at hd ⊢;omega
  refine J9 by' rfl om ?_
  refine UI (S.2*Bs+L[k]) by' rfl rfl h0 hB ?_
  refine gU ((S.2*Bs+L[k]) / by') rfl ?_;have hq:(S.2*Bs+L[k]) / by' < Bs:=by
   rw[L7 h0];have:(S.2+1)*Bs<=by'*Bs:=y9 _ om
   rw[D9,P9,q8 by' Bs] at this;omega
  have e3:(S.2*Bs+L[k]) / by' % 4294967296=(S.2*Bs+L[k]) / by':=C9 hq
  rw[e3];have hkl:k < (p7 (k+1) 0++S.1).length:=by simp;omega
  refine aW cQ (e:=247) rfl rfl ho k rfl hkl λb3 hb3=>?_;refine kI (g:=λx:Nat=>.int .u32 x) (λ_=>rfl) cQ (i:=1) rfl hb3 ho hkl rfl rfl ((S.2*Bs+L[k]) / by') rfl rfl rfl λo2 f1 f2 f3 ho2=>?_;refine J9 by' rfl om ?_
  refine UH (S.2*Bs+L[k]) by' rfl rfl h0 hB ?_
  refine nwo ?_;have e4:((k:Int) - 1+1).toNat=k:=om
  refine⟨((k:Int) - 1,o2),⟨by dsimp only;omega,by dsimp only;omega,?_⟩,by dsimp only;omega,v6.mk (λ_ _ h=>h) ?_ rfl⟩
  ·dsimp only;rw[e4,hsd];rw[List.replicate_succ',o6] at ho2;have:=rD (p7 k 0) 0 ((S.2*Bs+L[k]) / by') S.1;rw[O9] at this;rw[List.singleton_append,this,o6] at ho2;exact ho2
  ·dsimp only[Os.v];rw[e4,hsd,f1,f2,f3];rfl
 ·have e:(i+1).toNat=0:=om
  rw[e,H6] at ho ⊢;have hsv:=yD h0 hb L hc;have hr:=hsv.2.2.2;have ho3:=w8.sl (f:=fW) (sz:=1) (λ_=>rfl) dc ho;rw[List.replicate_zero,N6] at ho3;refine k7 _ (λw' hm=>aU w' (ho3.mono (j7 _) (hm 1 _ rfl)) (by rw[hsv.2.1];omega)) ?_;refine gU (fK by' L).2 rfl ?_;have hdm:u9 (fK by' L).1=u9 L / by'/\(fK by' L).2=u9 L % by':=by
   have h:=hsv.1;rw[q8] at h;constructor
   ·rw[<-h,Nat.mul_add_div h0,Fu hr,G3]
   ·rw[<-h,Nat.mul_add_mod,C9 hr]
  have hcan:=W2 hsv.2.2.1;rw[hdm.1] at hcan;exact⟨[.hp o.h],⟨_,_,_,_,_,rfl,by rw[C9 om,hdm.2],iA ho3,hcan⟩,pk [0,1]⟩
end Go.Proofs.YtpjhmeicbjkcdaaGreatDoor
namespace Go.Dw
open Go Go.RowKit
theorem fM {x y:Int} {q:Int->Prop} (h:x % 256=y) (hq:q y):bR .u8 x q:=⟨y,by rw[IntKind.wrap_u8',h],hq⟩
section
variable {P:Program} {s:List Ch} {ty:Nat} {q:TV->Prop}
theorem KM (a n:Nat) {x y:Int} (hx:x=a) (hy:y=n) (hn:n < 32) (h:q (.v (.int .u32 ((a / 2 ^ n:Nat):Int)))):B7 P s (binOp .shr ty (.int .u32 x) (.int .u64 y)) q:=by
 subst hx hy;exact⟨_,λw _=>CA a n .u64 hn w,h⟩
def Bu (x:ByteArray):Bool:=X3 x.size 256 && (z8 256).all λn=>PB n (2 ^ (x.get! n).toNat) && R0 (x.get! n).toNat 8 && (X3 n 0 || PB 0 (x.get! n).toNat)
theorem ZO {x:ByteArray} {X:R5} (hx:Bu x=true) (hX:X.Good) {S:Nat} {ti:TI} (ht:I2 X.tt S=some ti) (hk:ti.k=.str) {k:IntKind} {i:Int} (n:Nat) (hi:i=n) (hn:n < 256) (h :∀r:Nat,n < 2 ^ r->r<=8->(0 < n->0 < r)->q (.v (.int .u8 (r:Int)))) :
  B7 X.P s (Instr.index S (.string x) (.int k i)) q:=by
 unfold Bu at hx;rw[k6] at hx;have hs:=J4 hx.1;have ha:=z6.1 hx.2 n (aP.2 hn);rw[k6,k6,U8] at ha;obtain⟨⟨h1,h2⟩,h3⟩:=ha;refine Cd hX ht hk n hi om (h _ ?_ (E0 h2) λh0=>?_)
 ·exact E0 h1
 ·rcases h3 with g | g
  ·have:=J4 g;omega
  ·exact E0 g
end
end Go.Dw
namespace Go.Proofs.YtpjhmeicbjkcdaaGreatDoor
open Go Go.RowKit Go.Dw
theorem EJ {n x r k:Nat} (h:x / 2 ^ k < 2 ^ r) (hn:n=k+r):x < 2 ^ n:=by
 rw[L7 (cA k),q8,<-iO] at h;rw[hn];exact h
theorem LM (x:Nat) (hx:x < 4294967296) (w:World):j6 Tryz.prog 296 #[.int .u32 x] w (fD w λv cs=>cs = []/\∃r:Nat,v=iQ r/\x < 2 ^ r/\r<=32/\(0 < x->0 < r)):=by
 refine enterZ (cx 19) [.int .u32 x] [.tmp 2] Tryz.func296 ?_;refine d8 (λh1=>?_) λh1=>?_
 ·refine KM (ty:=247) x 16 rfl rfl dc ?_;refine d8 (λh2=>?_) λh2=>?_
  ·refine KM (ty:=247) (x / 2 ^ 16) 8 rfl rfl dc ?_;refine nwo ?_;refine fM (y:=((x / 2 ^ 16 / 2 ^ 8:Nat):Int)) om ?_;refine ZO kr cQ rfl rfl (x / 2 ^ 16 / 2 ^ 8) rfl om λr r1 r2 r3=>?_;(iterate 2 refine nwo ?_);exact⟨[],⟨rfl,24+r,sQ,EJ (EJ r1 rfl) om,om,λ_=>by omega⟩,pk [0]⟩
  ·refine fM (y:=((x / 2 ^ 16:Nat):Int)) om ?_;refine ZO kr cQ rfl rfl (x / 2 ^ 16) rfl om λr r1 r2 r3=>?_;(iterate 2 refine nwo ?_);exact⟨[],⟨rfl,16+r,sQ,EJ r1 rfl,om,λ_=>by omega⟩,pk [0]⟩
 ·refine d8 (λh2=>?_) λh2=>?_
  ·refine KM (ty:=247) x 8 rfl rfl dc ?_;refine nwo ?_;refine fM (y:=((x / 2 ^ 8:Nat):Int)) om ?_;refine ZO kr cQ rfl rfl (x / 2 ^ 8) rfl om λr r1 r2 r3=>?_;(iterate 2 refine nwo ?_);exact⟨[],⟨rfl,8+r,sQ,EJ r1 rfl,om,λ_=>by omega⟩,pk [0]⟩
  ·refine fM (y:=((x:Nat):Int)) om ?_;refine ZO kr cQ rfl rfl x rfl om λr r1 r2 r3=>?_;(iterate 2 refine nwo ?_);exact⟨[],⟨rfl,r,sQ,r1,om,r3⟩,pk [0]⟩
theorem HL (x:Nat) (hx:x < 4294967296) (h0:0 < x) (w:World):j6 Tryz.prog 271 #[.int .u32 x] w (fD w λv cs=>cs = []/\∃r:Nat,v=iQ r/\x*2 ^ r < Bs/\r < 32):=by
 refine enterZ (cx 6) [.int .u32 x] [.tmp 2] Tryz.func271 ?_;refine call (λw' hm=>LM x hx w') ?_;rintro _ _ ⟨rfl,r,rfl,r1,r2,r3⟩;have:=r3 h0;refine nwo ?_;refine⟨[],⟨rfl,32 - r,by congr 1;omega,?_,om⟩,λw' h=>h⟩;have e:2 ^ r*2 ^ (32 - r)=Bs:=by rw[<-iO,show r+(32 - r)=32 by omega];rfl
 rw[<-e];exact Ji r1 (cA _)
theorem IV {a:Option Addr} {n c:Nat} {L:List Nat} (w:World) (hL:Sl (B0 fW) 1 (Hp.whole w) a n c L) (hn:n < 1000000000) :
  j6 Tryz.prog 297 #[.slice a n c] w (fD w λv cs=>∃o,v=o.v/\cs = [.hp o.h]/\w8 fW 247 1 o L):=by
 have hlen:=hL.len;refine enterZ (cx 8) [.slice a n c] [.tmp 2] Tryz.func297 ?_;refine KN rfl ?_;refine s8 (λh=>?_) λh=>?_
 ·refine⟨[.hp Hp.emp],⟨Os.nil,rfl,rfl,?_⟩,λw' h=>h.emp⟩;have:L = []:=by
   cases a with
   | none=>cases L with
    | nil=>rfl
    | cons x r=>obtain⟨b,off,cs,h1,_⟩:=hL.cells 0 sQ;cases h1
   | some _=>simp at h
  rw[this];exact w8.nil _ _ _
 ·intro b;refine Is cQ (e:=247) rfl (λ_=>rfl) (λ_=>rfl) (k:=0) rfl hL rfl om λo' ho'=>?_;exact⟨[.hp o'.h],⟨o',rfl,rfl,ho'⟩,pk [0,2]⟩
theorem tX {k:Nat} (hk:k < 32):2 ^ k*2 ^ (32 - k)=Bs/\2 ^ k < Bs:=by
 have e:2 ^ k*2 ^ (32 - k)=Bs:=by rw[<-iO,show k+(32 - k)=32 by omega];rfl
 exact⟨e,S3 (Nat.pow_lt_pow_right dc hk) dc⟩
theorem vK {L:List Nat} {a:Option Addr} {n c:Nat} (w:World) (k:Nat) (hs:Sl (B0 fW) 1 (Hp.whole w) a n c L) (hc:P3 L) (hl:L.length < 900000) (hk:k < 32) :
  j6 Tryz.prog 272 #[.slice a n c,iQ k] w (fD w λv cs=>∃o:Dw.Os,cs = [.hp o.h]/\v=o.v/\w8 fW 247 1 o (gI (2 ^ k) L)):=by
 have hn:=hs.len;obtain⟨hps,hpB⟩:=tX hk;have hp0:=cA k;generalize hp:2 ^ k=p at *;refine enterZ (cx 40) [.slice a n c,iQ k] [.tmp 4] Tryz.func272 ?_;refine nwo ?_;refine Er (f:=fW) cQ (e:=247) rfl (L.length+1) 0 rfl om om rfl om λo11 ho11n ho11=>?_;refine u6.mk (Nat×Dw.Os) (λg=>[(1,.v (iQ k)),(5,.v (g.2.v)),(12,.v (.slice a n c)),(13,.v (iQ n)),(14,.v (iQ g.1))]) (λg=>[.hp (Hp.whole w),.hp g.2.h])
  (λg=>g.1<=L.length/\w8 fW 247 1 g.2 (gI p (L.take g.1)++(p7 (L.length - g.1) 0++[]))) (λg=>L.length - g.1) (0,o11) ⟨f8 _,by
   have e:gI p (L.take 0)++(p7 (L.length - 0) 0++[])=p7 (L.length+1) 0:=by simp[gI,V5,qF]
   rw[e];exact ho11⟩ (v6.mk (λ_ _ h=>h) rfl rfl) ?_
 rintro⟨i,o⟩ ⟨hi,ho⟩;dsimp only at *;have hlen:=yF p (L.take i) 0;rw[j8,Y5 hi] at hlen;refine d8 (λh1=>?_) λh1=>?_
 ·have hi':i < L.length:=om
  have hd:=hc L[i] (j0 hi');have hcar:=yG hps (L.take i) 0 (λd hd=>hc d (C6 hd)) hp0;have hsn:=tU p (L.take i) L[i] 0;rw[<-I8 L i hi'] at hsn;generalize hS:V5 p (L.take i) 0=S at *;have hdp:L[i]*p<=(Bs - 1)*(Bs - 1):=Q9 om om;obtain⟨q1,q2⟩:=PU (d:=L[i]) hp.symm hps hcar;refine I1 cQ (e:=247) rfl hs i rfl hi' λb9 o9 cs hcs hR hcell2=>?_;subst hR;refine lQ 0 (hcell2 0 _ rfl) ?_;have e0:gI p (L.take i)++(p7 (L.length - i) 0++[])=S.1++S.2::(p7 (L.length - (i+1)+1) 0++[]):=by
   unfold gI;rw[hS,show L.length - i=L.length - (i+1)+1 by omega];simp
  rw[e0] at ho;have hSc:S.2 < 4294967296:=Nat.lt_trans hcar hpB;have hdB:L[i] < 4294967296:=hd;have hil:i < (S.1++S.2::(p7 (L.length - (i+1)+1) 0++[])).length:=by simp;omega
  have hgi:(S.1++S.2::(p7 (L.length - (i+1)+1) 0++[]))[i]=S.2:=by
   have:=xB S.1 S.2 (p7 (L.length - (i+1)+1) 0++[]) sQ;simpa only[hlen] using this
  refine s6.by_order cQ (.take 0 <| .take 1 <| .take 2 <| .take 3 <| .take 4 <| .take 5 <| .take 6 <| .take 7 <| .take 8 <| .run 9 <| .done) kr ?_;refine aW cQ (e:=247) rfl rfl ho i rfl hil λb3 hb3=>?_;refine rQ (g:=λx:Nat=>.int .u32 x) (λ_=>rfl) cQ (i:=1) rfl hb3 ho hil rfl ?_;rw[hgi];refine ZR L[i] k rfl rfl hk ?_;rw[hp];refine Cc S.2 (L[i]*p % 4294967296) rfl rfl hSc (C8 _ dc) ?_;have q1':S.2 ||| L[i]*p % 4294967296=(S.2+L[i]*p) % Bs:=q1
  rw[q1'];refine aW cQ (e:=247) rfl rfl ho i rfl hil λb4 hb4=>?_;refine kI (g:=λx:Nat=>.int .u32 x) (λ_=>rfl) cQ (i:=1) rfl hb4 ho hil rfl rfl ((S.2+L[i]*p) % Bs) rfl rfl rfl λo2 f1 f2 f3 ho2=>?_;have e1:=rD S.1 S.2 ((S.2+L[i]*p) % Bs) (p7 (L.length - (i+1)+1) 0++[]);rw[hlen] at e1;rw[e1] at ho2;refine nwo ?_;refine J9 L[i] rfl om ?_;refine NS L[i] k rfl rfl om ?_;rw[hp];have e2:L[i]*p % 18446744073709551616=L[i]*p:=C9 (by unfold Bs at hdp;omega);rw[e2];refine pA (L[i]*p) 32 rfl rfl dc ?_;refine gU (L[i]*p / 2 ^ 32) rfl ?_;have e3:L[i]*p / 2 ^ 32 % 4294967296=(S.2+L[i]*p) / Bs:=by
   rw[show L[i]*p / 2 ^ 32=(S.2+L[i]*p) / Bs from q2];refine C9 ?_;rw[<-q2];show L[i]*p / Bs < Bs
   rw[L7 dc];unfold Bs at hdp ⊢;omega
  rw[e3];have ho2':w8 fW 247 1 o2 ((S.1++[(S.2+L[i]*p) % Bs])++(p7 (L.length - (i+1)+1) 0++[])):=ho2;have hl2:(S.1++[(S.2+L[i]*p) % Bs]).length=i+1:=by simp[hlen]
  have hil2:i+1 < ((S.1++[(S.2+L[i]*p) % Bs])++(p7 (L.length - (i+1)+1) 0++[])).length:=by rw[d6,hl2];simp
  have ev2:o2.v=o.v:=by unfold Os.v;rw[f1,f2,f3]
  rw[<-ev2];refine aW cQ (e:=247) rfl rfl ho2' (i+1) om hil2 λb5 hb5=>?_;refine kI (g:=λx:Nat=>.int .u32 x) (λ_=>rfl) cQ (i:=1) rfl hb5 ho2' hil2 rfl rfl ((S.2+L[i]*p) / Bs) rfl rfl rfl λo3 g1 g2 g3 ho3=>?_;have e4:=DX (S.1++[(S.2+L[i]*p) % Bs]) 0 ((S.2+L[i]*p) / Bs) (L.length - (i+1)) [];rw[hl2] at e4;rw[e4] at ho3;refine nwo ?_;exact⟨(i+1,o3),⟨om,by unfold gI;rw[hsn];exact ho3⟩,by dsimp only;omega,v6.mk (λ_ _ h=>h) (by dsimp only[Os.v];rw[g1,g2,g3];rfl) rfl⟩
 ·have hi':i=L.length:=om
  subst hi';rw[p9,bS,List.replicate_zero,N6,p8] at ho;exact⟨[.hp o.h],⟨o,rfl,rfl,ho⟩,pk [0,1]⟩
theorem ER {L:List Nat} {a:Option Addr} {n c:Nat} (w:World) (k:Nat) (hs:Sl (B0 fW) 1 (Hp.whole w) a n c L) (hc:P3 L) (hl:L.length < 900000) (hk:k < 32) :
  j6 Tryz.prog 274 #[.slice a n c,iQ k] w (fD w λv cs=>∃g a' n' c' L',cs = [.hp g]/\v=.slice a' n' c'/\Sl (B0 fW) 1 g a' n' c' L'/\fG L' (u9 L / 2 ^ k)):=by
 have hn:=hs.len;obtain⟨hps,hpB⟩:=tX hk;have hp0:=cA k;generalize hp:2 ^ k=p at *;have hs0:2 ^ (32 - k)=2 ^ (32 - k):=rfl;generalize hsd:2 ^ (32 - k)=sd at hps hs0;refine enterZ (cx 45) [.slice a n c,iQ k] [.tmp 4] Tryz.func274 ?_;refine call (λw' hm=>IV w' (hs.mono (j7 _) (hm 0 _ rfl)) om) ?_;rintro _ _ ⟨o0,rfl,rfl,ho0⟩;have hlo:=zF p sd L;have hon:o0.n=L.length:=ho0.len;refine u6.mk (Nat×Dw.Os) (λg=>[(0,.v (.slice a n c)),(1,.v (iQ k)),(5,.v (g.2.v)),(10,.v (iQ (o0.n:Nat))),(11,.v (iQ g.1))]) (λg=>[.hp (Hp.whole w),.hp g.2.h])
  (λg=>g.1<=L.length/\w8 fW 247 1 g.2 ((eE p sd L).take g.1++L.drop g.1)) (λg=>L.length - g.1) (0,o0) ⟨f8 _,ho0⟩ (v6.mk (λ_ _ h=>h) rfl rfl) ?_
 rintro⟨i,o⟩ ⟨hi,ho⟩;dsimp only at *;refine d8 (λh1=>?_) λh1=>?_
 ·have hi':i < L.length:=om
  have hd:=hc L[i] (j0 hi');have hdB:L[i] < 4294967296:=hd;have htk:((eE p sd L).take i).length=i:=by rw[j8];omega
  rw[r5 hi'] at ho;have hil:i < ((eE p sd L).take i++L[i]::L.drop (i+1)).length:=by simp;omega
  have hgi:((eE p sd L).take i++L[i]::L.drop (i+1))[i]=L[i]:=by
   have:=xB ((eE p sd L).take i) L[i] (L.drop (i+1)) (by rw[htk];exact hil);simpa only[htk] using this
  have hlg:=VL (p:=p) (s:=sd) hi' om;have htk2:=I8 (eE p sd L) i om;rw[hlg] at htk2;refine aW cQ (e:=247) rfl rfl ho i rfl hil λb3 hb3=>?_;refine rQ (g:=λx:Nat=>.int .u32 x) (λ_=>rfl) cQ (i:=1) rfl hb3 ho hil rfl ?_;rw[hgi];refine ZQ L[i] k rfl rfl hk ?_;rw[hp];refine aW cQ (e:=247) rfl rfl ho i rfl hil λb4 hb4=>?_;refine kI (g:=λx:Nat=>.int .u32 x) (λ_=>rfl) cQ (i:=1) rfl hb4 ho hil rfl rfl (L[i] / p) rfl rfl rfl λo2 f1 f2 f3 ho2=>?_;have e1:=rD ((eE p sd L).take i) L[i] (L[i] / p) (L.drop (i+1));rw[htk] at e1;rw[e1] at ho2;have ev2:o2.v=o.v:=by unfold Os.v;rw[f1,f2,f3]
  refine nwo ?_;refine d8 (λh4=>?_) λh4=>?_
  ·have hi2:i+1 < L.length:=om
   have he:=hc L[i+1] (j0 hi2);have heB:L[i+1] < 4294967296:=he;have hgd:L.getD (i+1) 0=L[i+1]:=by rw[i7,i6 hi2];rfl
   rw[hgd] at htk2;have ho2':w8 fW 247 1 o2 ((eE p sd L).take i++(L[i] / p)::L.drop (i+1)):=by
    have:((eE p sd L).take i++[L[i] / p])++L.drop (i+1)=(eE p sd L).take i++(L[i] / p)::L.drop (i+1):=sQ
    rw[this] at ho2;exact ho2
   have hil2:i < ((eE p sd L).take i++(L[i] / p)::L.drop (i+1)).length:=by simp;omega
   have hgi2:((eE p sd L).take i++(L[i] / p)::L.drop (i+1))[i]=L[i] / p:=by
    have:=xB ((eE p sd L).take i) (L[i] / p) (L.drop (i+1)) (by rw[htk];exact hil2);simpa only[htk] using this
   refine s6.by_order cQ (.take 0 <| .take 1 <| .take 2 <| .take 3 <| .take 4 <| .take 5 <| .take 6 <| .take 7 <| .take 8 <| .take 9 <| .take 10 <| .take 11 <| .take 12 <| .take 13 <| .take 14 <| .take 15 <| .run 16 <| .done) kr ?_;rw[<-ev2];refine aW cQ (e:=247) rfl rfl ho2' i rfl hil2 λb5 hb5=>?_;refine rQ (g:=λx:Nat=>.int .u32 x) (λ_=>rfl) cQ (i:=1) rfl hb5 ho2' hil2 rfl ?_;rw[hgi2];refine nwo ?_;refine I1 cQ (e:=247) rfl hs (i+1) om hi2 λb9 o9 cs hcs hR hcell6=>?_;subst hR;refine lQ 0 (hcell6 0 _ rfl) ?_;refine J9 L[i+1] rfl om ?_;refine EH L[i+1] 32 rfl rfl dc ?_;have e2:L[i+1]*2 ^ 32 % 18446744073709551616=L[i+1]*2 ^ 32:=C9 om;rw[e2];refine ZP (L[i+1]*2 ^ 32) k rfl rfl om ?_;rw[hp];have e3:L[i+1]*2 ^ 32 / p=L[i+1]*sd:=by
    rw[show (2:Nat) ^ 32=p*sd from hps.symm,jZ,Ni _ hp0]
   rw[e3];refine gU (L[i+1]*sd) rfl ?_;have hdp:L[i] / p < 4294967296:=s7 (D7 _ _) hdB;refine Cc (L[i] / p) (L[i+1]*sd % 4294967296) rfl rfl hdp (C8 _ dc) ?_;have e4:(L[i] / p) ||| (L[i+1]*sd % 4294967296)=L[i] / p+L[i+1]*sd % Bs:=PQ (k:=32 - k) hsd.symm hps hp0 hd
   rw[e4];refine aW cQ (e:=247) rfl rfl ho2' i rfl hil2 λb6 hb6=>?_;refine kI (g:=λx:Nat=>.int .u32 x) (λ_=>rfl) cQ (i:=1) rfl hb6 ho2' hil2 rfl rfl (L[i] / p+L[i+1]*sd % Bs) rfl rfl rfl λo3 g1 g2 g3 ho3=>?_;have e5:=rD ((eE p sd L).take i) (L[i] / p) (L[i] / p+L[i+1]*sd % Bs) (L.drop (i+1));rw[htk] at e5;rw[e5,<-htk2] at ho3;refine nwo ?_;exact⟨(i+1,o3),⟨om,ho3⟩,by dsimp only;omega,v6.mk (λ_ _ h=>h) (by dsimp only[Os.v];rw[g1,g2,g3];rfl) rfl⟩
  ·have hgd:L.getD (i+1) 0=0:=by rw[i7,X4 om];rfl
   simp only[hgd,Z4,Nat.zero_mod,G3] at htk2;rw[<-htk2] at ho2;refine nwo ?_;exact⟨(i+1,o2),⟨om,ho2⟩,by dsimp only;omega,v6.mk (λ_ _ h=>h) (by dsimp only[Os.v];rw[f1,f2,f3];rfl) rfl⟩
 ·have hi':i=L.length:=om
  subst hi';rw[u7 om,List.drop_length,p8] at ho;have ho3:=w8.sl (f:=fW) (sz:=1) (λ_=>rfl) dc ho;have hlim:=HK hps hp0 hc;refine k7 _ (λw' hm=>aU w' (ho3.mono (j7 _) (hm 1 _ rfl)) om) ?_;have hcan:=W2 hlim;rw[HJ hps hp0 L hc] at hcan;exact⟨[.hp o.h],⟨_,_,_,_,_,rfl,rfl,iA ho3,hcan⟩,pk [0,1]⟩
end Go.Proofs.YtpjhmeicbjkcdaaGreatDoor
namespace Go.Dw
open Go Go.RowKit
theorem dB {X:R5} {s:List Ch} (hX:X.Good) {T e:Nat} {te:TI} (hT:bM X T=some (e,te)) (h1:te.size=1) {b off n c:Nat} {x:Int} (k j:Nat) (hx:x=k) (hk:k < n) (hj:off+k=j) {q:TV->Prop} (hq:q (.v (.pointer (some ⟨b,0+j,none⟩)))) :
  B7 X.P s (Instr.indexAt T (.slice (some ⟨b,off,none⟩) n c) (iQ x)) q:=by
 subst hx;refine⟨_,λw _=>lP hX hT hk w,?_⟩;rw[h1,E3,hj,<-y8 j];exact hq
end Go.Dw
namespace Go.Proofs.YtpjhmeicbjkcdaaGreatDoor
open Go Go.RowKit Go.Dw
theorem iG {α:Type} {L a b:List α} {x:α} {k:Nat} (hL:L=a++x::b) (hk:k=a.length) (h:k < L.length):L[k]=x:=by
 subst hL hk;exact xB a x b h
theorem DY {α:Type} {L a b:List α} {y:α} {k:Nat} (hL:L=a++y::b) (hk:k=a.length) (x:α):L.set k x=a++x::b:=by
 subst hL hk;rw[rD];simp
theorem xP (ul:List Nat) (u2 u1:Nat):u9 (ul++[u2,u1])=u9 ul+Bs ^ ul.length*(u2+Bs*u1):=by
 rw[X7];simp[u9]
theorem CY {ul vl:List Nat} {u2 u1 tt v2 v1 q r:Nat} (hl:ul.length=vl.length) (hlu:P3 (ul++[u2,u1])) (hlv:P3 (vl++[v2,v1])) (h0:v1≠0)
  (hw:u9 (ul++[u2,u1])+Bs ^ (ul++[u2,u1]).length*tt < Bs*u9 (vl++[v2,v1])) :
  tt<=v1/\(BQ tt u1 u2 v1 v2 q r->¬ (r < Bs/\(Bs<=q\/r*Bs+u2 < q*v2))->q < Bs/\q*u9 (vl++[v2,v1]) < u9 (ul++[u2,u1])+Bs ^ (ul++[u2,u1]).length*tt+u9 (vl++[v2,v1])/\u9 (ul++[u2,u1])+Bs ^ (ul++[u2,u1]).length*tt < (q+1)*u9 (vl++[v2,v1])):=by
 have h1:u1 < Bs:=hlu u1 sQ;have h2:u2 < Bs:=hlu u2 sQ;have h3:v2 < Bs:=hlv v2 sQ;have hP:0 < Bs ^ vl.length:=MU dc;have hul:=bD (m:=ul) λd hd=>hlu d (by simp[hd]);have hvl:=bD (m:=vl) λd hd=>hlv d (by simp[hd]);have hlen:(ul++[u2,u1]).length=vl.length+2:=by simp[hl]
 rw[hlen] at hw ⊢;have eU:u9 (ul++[u2,u1])+Bs ^ (vl.length+2)*tt=((tt*Bs+u1)*Bs+u2)*Bs ^ vl.length+u9 ul:=by
  rw[xP,hl,iO];generalize Bs ^ vl.length=P;show u9 ul+P*(u2+Bs*u1)+P*(Bs*Bs)*tt=_
  rw[D9,D9,D9,B9];have e1:P*(Bs*Bs)*tt=tt*Bs*Bs*P:=by rw[q8 _ tt,q8 P,A0 tt Bs Bs,A0 tt]
  have e2:P*(Bs*u1)=u1*Bs*P:=by rw[q8 P,q8 Bs u1]
  have e3:P*u2=u2*P:=q8 _ _;omega
 have eV:u9 (vl++[v2,v1])=(v1*Bs+v2)*Bs ^ vl.length+u9 vl:=by
  rw[xP];generalize Bs ^ vl.length=P;rw[D9,B9];have e2:P*(Bs*v1)=v1*Bs*P:=by rw[q8 P,q8 Bs v1]
  have e3:P*v2=v2*P:=q8 _ _;omega
 rw[hl] at hul;have hle:tt<=v1:=by
  refine j9 λhn=>?_;have hn:v1+1<=tt:=om
  rw[eU,eV] at hw;have g1:(v1+1)*(Bs*Bs*Bs ^ vl.length)<=tt*(Bs*Bs*Bs ^ vl.length):=y9 _ hn;have g2:(tt*Bs*Bs)*Bs ^ vl.length<=((tt*Bs+u1)*Bs+u2)*Bs ^ vl.length:=y9 _ (by rw[D9];omega);have g3:tt*(Bs*Bs*Bs ^ vl.length)=(tt*Bs*Bs)*Bs ^ vl.length:=by rw[<-A0,<-A0]
  have g4:(v1*Bs+v2+1)*Bs ^ vl.length<=((v1+1)*Bs)*Bs ^ vl.length:=y9 _ (by rw[D9 v1 1 Bs];omega);have g5:Bs*(((v1+1)*Bs)*Bs ^ vl.length)=(v1+1)*(Bs*Bs*Bs ^ vl.length):=by
   rw[A0 (v1+1) Bs,jZ Bs (v1+1),A0 Bs Bs]
  have g6:Bs*((v1*Bs+v2)*Bs ^ vl.length+u9 vl)<=Bs*(((v1+1)*Bs)*Bs ^ vl.length):=by
   refine B8 _ ?_;rw[D9 _ 1 (Bs ^ vl.length),P9] at g4;omega
  omega
 refine⟨hle,λhq hc=>?_⟩;obtain⟨k1,k2⟩:=hq.done h1 h3 hle hc;refine⟨k1,?_⟩;have hV1:Bs*Bs ^ vl.length<=u9 (vl++[v2,v1]):=by
  rw[eV];have:1*Bs*Bs ^ vl.length<=(v1*Bs+v2)*Bs ^ vl.length:=y9 _ (by
   have:1*Bs<=v1*Bs:=y9 _ om;omega)
  rw[P9] at this;omega
 exact Hs eU hul eV hvl k2 k1 hq.m hw hV1
set_option maxRecDepth 10000 in
theorem MC {A B ul vl:List Nat} {u2 u1 tt v2 v1:Nat} {b N C cu:Nat} {h:Hp} {av:Option Addr} {nv cv:Nat} (w:World) (hin:h.In w) (ho:w8 fW 247 1 ⟨some ⟨b,0,none⟩,N,C,h⟩ (A++(ul++[u2,u1]++tt::B)))
  (hv:Sl (B0 fW) 1 ((Hp.whole w).minus h) av nv cv (vl++[v2,v1])) (hl:ul.length=vl.length) (hlu:P3 (ul++[u2,u1])) (htt:tt < Bs) (hlv:P3 (vl++[v2,v1])) (h0:v1≠0) (hN:(A++(ul++[u2,u1]++tt::B)).length < 1000000)
  (hw:u9 (ul++[u2,u1])+Bs ^ (ul++[u2,u1]).length*tt < Bs*u9 (vl++[v2,v1])) :
  j6 Tryz.prog 273 #[.slice (some ⟨b,A.length,none⟩) (nv+1) cu,.slice av nv cv] w (O6 w h λv h' cs=>cs = []/\∃(q:Nat) (w':List Nat),v=.int .u32 (q:Nat)/\q < Bs/\w8 fW 247 1 ⟨some ⟨b,0,none⟩,N,C,h'⟩ (A++(w'++B))/\
   w'.length=nv+1/\P3 w'/\u9 w'+q*u9 (vl++[v2,v1])=u9 (ul++[u2,u1])+Bs ^ (ul++[u2,u1]).length*tt/\u9 w' < u9 (vl++[v2,v1])):=by
 have hnv:nv=vl.length+2:=by have:=hv.len;simpa using this
 have b1:u1 < 4294967296:=hlu u1 sQ;have b2:u2 < 4294967296:=hlu u2 sQ;have b3:v2 < 4294967296:=hlv v2 sQ;have b4:v1 < 4294967296:=hlv v1 sQ;have b5:tt < 4294967296:=htt;obtain⟨hle,hnum⟩:=CY (q:=0) (r:=0) hl hlu hlv h0 hw;have hnum :∀{q r:Nat},_:=λ{q r}=>(CY (q:=q) (r:=r) hl hlu hlv h0 hw).2;have hlen:(A++(ul++[u2,u1]++tt::B)).length=A.length+(vl.length+2+(B.length+1)):=by simp[hl];omega
 have hvlen:(vl++[v2,v1]).length=vl.length+2:=sQ
 have lT:A++(ul++[u2,u1]++tt::B)=(A++(ul++[u2,u1]))++tt::B:=sQ
 have l1:A++(ul++[u2,u1]++tt::B)=(A++(ul++[u2]))++u1::(tt::B):=sQ
 have l2:A++(ul++[u2,u1]++tt::B)=(A++ul)++u2::(u1::tt::B):=sQ
 have m1:vl++[v2,v1]=(vl++[v2])++v1::[]:=sQ
 have m2:vl++[v2,v1]=vl++v2::[v1]:=sQ
 have hkT:A.length+nv < (A++(ul++[u2,u1]++tt::B)).length:=om
 have hk1:A.length+(vl.length+1) < (A++(ul++[u2,u1]++tt::B)).length:=om
 have hk2:A.length+vl.length < (A++(ul++[u2,u1]++tt::B)).length:=om
 have gT:=iG lT (k:=A.length+nv) (by simp;omega) hkT;have g1:=iG l1 (k:=A.length+(vl.length+1)) (by simp;omega) hk1;have g2:=iG l2 (k:=A.length+vl.length) (by simp;omega) hk2;have gv1:=iG m1 (k:=vl.length+1) sQ om;have gv2:=iG m2 (k:=vl.length) rfl om;refine enterMZ (cx 173) [.slice (some ⟨b,A.length,none⟩) (nv+1) cu,.slice av nv cv] hin [.tmp 4] Tryz.func273 ?_;refine s6.by_order cQ (.take 0 <| .take 1 <| .take 2 <| .take 3 <| .take 4 <| .take 5 <| .take 6 <| .take 7 <| .take 8 <| .take 9 <| .take 10 <| .take 11 <| .take 12 <| .take 13 <| .done) kr ?_;refine dB cQ (e:=247) rfl rfl nv (A.length+nv) rfl om rfl ?_;refine rQ (o:=⟨some ⟨b,0,none⟩,N,C,h⟩) (g:=λx:Nat=>.int .u32 x) (λ_=>rfl) cQ (i:=1) rfl rfl ho hkT rfl ?_;rw[gT];refine J9 tt rfl om ?_;refine EH tt 32 rfl rfl dc ?_;have e1:tt*2 ^ 32 % 18446744073709551616=2 ^ 32*tt:=by
  rw[q8];exact C9 om
 rw[e1];refine nwo ?_;refine dB cQ (e:=247) rfl rfl (vl.length+1) (A.length+(vl.length+1)) om om rfl ?_;refine rQ (o:=⟨some ⟨b,0,none⟩,N,C,h⟩) (g:=λx:Nat=>.int .u32 x) (λ_=>rfl) cQ (i:=1) rfl rfl ho hk1 rfl ?_;rw[g1];refine J9 u1 rfl om ?_;refine NU (2 ^ 32*tt) u1 rfl rfl om om ?_;rw[EL (k:=32) rfl b1];have e2:2 ^ 32*tt+u1=tt*Bs+u1:=by rw[q8];rfl
 rw[e2];have hH:tt*Bs+u1 < 18446744073709551616:=by unfold Bs;omega
 refine s6.by_order cQ (.take 0 <| .take 1 <| .take 2 <| .take 3 <| .take 4 <| .take 5 <| .take 6 <| .take 7 <| .take 8 <| .take 9 <| .take 10 <| .take 11 <| .take 12 <| .take 13 <| .take 14 <| .take 15 <| .take 16 <| .take 17 <| .done) kr ?_;refine nwo ?_;refine I1 cQ (e:=247) rfl hv (vl.length+1) om om λb9 o9 cs hcs hR hcell3=>?_;rw[gv1] at hR;subst hR;refine lQ 0 (hcell3 0 _ rfl) ?_;refine J9 v1 rfl om ?_;refine UI (tt*Bs+u1) v1 rfl rfl om hH ?_;refine nwo ?_;refine I1 cQ (e:=247) rfl hv (vl.length+1) om om λb9 o9 cs hcs hR hcell4=>?_;rw[gv1] at hR;subst hR;refine lQ 0 (hcell4 0 _ rfl) ?_;refine J9 v1 rfl om ?_;refine UH (tt*Bs+u1) v1 rfl rfl om hH ?_;refine u6.mk (Nat×Nat×Int×Int) (λg=>[(0,.v (.slice (some ⟨b,A.length,none⟩) (nv+1) cu)),(1,.v (.slice av nv cv)),(5,.v (iQ nv)),(7,.v (.int .u64 g.2.2.1)),(8,.v (.int .u64 g.2.2.2))]) (λ_=>[.hp ((Hp.whole w).minus h),.hp h])
  (λg=>g.2.2.1=g.1/\g.2.2.2=g.2.1/\g.1 < 18446744073709551616/\g.2.1 < 8589934592/\BQ tt u1 u2 v1 v2 g.1 g.2.1) (λg=>g.1) ((tt*Bs+u1) / v1,(tt*Bs+u1) % v1,_,_) ⟨rfl,rfl,s7 (D7 _ _) hH,by have:=C8 (tt*Bs+u1) (F8 h0);dsimp only;omega,BQ.start (F8 h0) b2⟩ (v6.mk (λ_ _ h=>h) rfl rfl) ?_
 rintro⟨q,r,zq,zr⟩ ⟨hzq,hzr,hq1,hr1,hQ⟩;dsimp only at *;refine s6.cut Bool (λg=>[(0,.v (.slice (some ⟨b,A.length,none⟩) (nv+1) cu)),(1,.v (.slice av nv cv)),(5,.v (iQ nv)),(7,.v (.int .u64 zq)),(8,.v (.int .u64 zr)),(73,.v (.bool g))]) (λ_=>[.hp ((Hp.whole w).minus h),.hp h])
  (λg=>g=true↔(r < Bs/\(Bs<=q\/r*Bs+u2 < q*v2))) (s6.by_order cQ (.take 0 <| .take 1 <| .take 2 <| .take 3 <| .take 4 <| .take 5 <| .take 6 <| .take 7 <| .take 8 <| .take 9 <| .take 10 <| .take 11 <| .take 12 <| .take 13 <| .take 14 <| .take 15 <| .take 16 <| .take 17 <| .take 18 <| .take 19 <| .take 20 <| .take 21 <| .take 22 <| .take 23 <| .take 24 <| .take 25 <| .done) kr ?_) ?_
 ·refine d8 (λh5=>?_) λh5=>?_
  ·refine d8 (λh6=>?_) λh6=>?_
   ·exact⟨true,⟨λ_=>⟨by unfold Bs;omega,.inl (by unfold Bs;omega)⟩,λ_=>rfl⟩,v6.mk (λ_ _ h=>h) rfl rfl⟩
   ·have hqB:q < 4294967296:=om
    have hqv:q*v2<=4294967295*4294967295:=Q9 om om;refine nwo ?_;refine I1 cQ (e:=247) rfl hv vl.length om om λb9 o9 cs hcs hR hcell7=>?_;rw[gv2] at hR;subst hR;refine lQ 0 (hcell7 0 _ rfl) ?_;refine J9 v2 rfl om ?_;refine J9 (q*v2) (by rw[hzq];simp) om ?_;refine EH r 32 hzr rfl dc ?_;have e3:r*2 ^ 32 % 18446744073709551616=2 ^ 32*r:=by
     rw[q8];exact C9 om
    rw[e3];refine nwo ?_;refine dB cQ (e:=247) rfl rfl vl.length (A.length+vl.length) om om rfl ?_;refine rQ (o:=⟨some ⟨b,0,none⟩,N,C,h⟩) (g:=λx:Nat=>.int .u32 x) (λ_=>rfl) cQ (i:=1) rfl rfl ho hk2 rfl ?_;rw[g2];refine J9 u2 rfl om ?_;refine NU (2 ^ 32*r) u2 rfl rfl om om ?_;rw[EL (k:=32) rfl b2];have e4:2 ^ 32*r+u2=r*Bs+u2:=by rw[q8];rfl
    rw[e4];refine⟨decide (((q*v2:Nat):Int) > ((r*Bs+u2:Nat):Int)),?_,v6.mk (λ_ _ h=>h) rfl rfl⟩;rw[decide_eq_true_eq];constructor
    ·intro g;exact⟨by unfold Bs;omega,.inr om⟩
    ·rintro⟨_,g | g⟩
     ·unfold Bs at g;omega
     ·omega
  ·exact⟨false,⟨nofun,by rintro⟨g,_⟩;unfold Bs at g;omega⟩,v6.mk (λ_ _ h=>h) rfl rfl⟩
 rintro g hg hsat;dsimp only;refine s8 (λh9=>?_) λh9=>?_
 ·have h9:=hg.1 h9;obtain⟨hq0,hQ2⟩:=hQ.step h9.2;have hrB:r < 4294967296:=h9.1;refine J9 (q - 1) om om ?_;refine nwo ?_;refine I1 cQ (e:=247) rfl hv (vl.length+1) om om λb9 o9 cs hcs hR hcell10=>?_;rw[gv1] at hR;subst hR;refine lQ 0 (hcell10 0 _ rfl) ?_;refine J9 v1 rfl om ?_;refine J9 (r+v1) (by rw[hzr];simp) om ?_;exact⟨(q - 1,r+v1,_,_),⟨rfl,rfl,by dsimp only;omega,by dsimp only;omega,hQ2⟩,by dsimp only;omega,v6.mk (λ_ _ h=>h) rfl rfl⟩
 ·have h9 : ¬ (r < Bs/\(Bs<=q\/r*Bs+u2 < q*v2)):=λc=>by rw[hg.2 c] at h9;cases h9
  obtain⟨hqB,k1,k2⟩:=hnum hQ h9;clear hnum hQ hq1 hg hsat h9 gT g1 g2 gv1 gv2 lT l1 l2 m1 m2 hkT hk1 hk2;have hqB':q < 4294967296:=hqB;generalize hus:ul++[u2,u1]=us at *;generalize hV:vl++[v2,v1]=V at *;have husl:us.length=nv:=by rw[<-hus];simp;omega
  have hVl:V.length=nv:=om
  have hfit:=RR (t:=tt) (by omega:us.length=V.length) hlu hlv hqB k1 k2;refine u6.mk (Nat×Hp) (λg=>[(0,.v (.slice (some ⟨b,A.length,none⟩) (nv+1) cu)),(1,.v (.slice av nv cv)),(5,.v (iQ nv)),(7,.v (.int .u64 zq)),(9,.v (.int .u64 ((bJ q (us.take g.1) (V.take g.1) 0 0).2.1:Nat))),(10,.v (iQ ((bJ q (us.take g.1) (V.take g.1) 0 0).2.2:Nat))),(84,.v (.slice av nv cv)),(85,.v (iQ nv)),(86,.v (iQ g.1))]) (λg=>[.hp ((Hp.whole w).minus h),.hp g.2])
   (λg=>g.1<=nv/\w8 fW 247 1 ⟨some ⟨b,0,none⟩,N,C,g.2⟩ (A++((bJ q (us.take g.1) (V.take g.1) 0 0).1++(us.drop g.1++tt::B)))) (λg=>nv - g.1) (0,h) ⟨f8 _,by simpa [bJ] using ho⟩ (v6.mk (λ_ _ h=>h) rfl rfl) ?_
  rintro⟨k,hh⟩ ⟨hk,hoh⟩;dsimp only at *;have htl:(us.take k).length=(V.take k).length:=by rw[j8,j8];omega
  have hSl:=HF q (us.take k) (V.take k) 0 0 htl;rw[j8,show min k us.length=k by omega] at hSl;have hSv:=yW hqB (us.take k) (V.take k) 0 0 htl (λd hd=>hlu d (C6 hd)) (λd hd=>hlv d (C6 hd)) dc dc;refine d8 (λh11=>?_) λh11=>?_
  ·have hku:k < us.length:=om
   have hkv:k < V.length:=om
   have hdv:V[k] < 4294967296:=hlv V[k] (j0 hkv);have hdu:us[k] < 4294967296:=hlu us[k] (j0 hku);have hsn:=CL q (us.take k) (V.take k) us[k] V[k] 0 0 htl;rw[<-I8 us k hku,<-I8 V k hkv] at hsn;generalize hS:bJ q (us.take k) (V.take k) 0 0=S at *;obtain⟨D,c,bw⟩:=S;dsimp only at *;have hcB:c < 4294967296:=hSv.2.2.2.1;have hbw:bw<=1:=hSv.2.2.2.2;have hqv:q*V[k]<=4294967295*4294967295:=Q9 om om;refine I1 cQ (e:=247) rfl hv k rfl om λb9 o9 cs hcs hR hcell12=>?_;subst hR;refine lQ 0 (hcell12 0 _ rfl) ?_;refine J9 V[k] rfl om ?_;refine J9 (q*V[k]) (by rw[hzq];simp) om ?_;refine J9 (c+q*V[k]) sQ om ?_;have lk:A++(D++(us.drop k++tt::B))=(A++D)++us[k]::(us.drop (k+1)++tt::B):=by
    rw[r5 hku];simp only[o6,BT]
   have hkl:A.length+k < (A++(D++(us.drop k++tt::B))).length:=by rw[lk];simp;omega
   have gk:=iG lk (k:=A.length+k) (by simp;omega) hkl;refine dB cQ (e:=247) rfl rfl k (A.length+k) rfl om rfl ?_;refine rQ (o:=⟨some ⟨b,0,none⟩,N,C,hh⟩) (g:=λx:Nat=>.int .u32 x) (λ_=>rfl) cQ (i:=1) rfl rfl hoh hkl rfl ?_;rw[gk];refine nwo ?_;refine nwo ?_;refine gU (c+q*V[k]) rfl ?_;have hx:=C8 (c+q*V[k]) (show 4294967296 > 0 by decide);generalize hX:(c+q*V[k]) % 4294967296=x at *;refine nwo ?_;refine nwo ?_;refine pA (c+q*V[k]) 32 rfl rfl dc ?_;refine rR (y:=(((us[k]+2*Bs - bw - x) % Bs:Nat):Int)) (by unfold Bs;omega) ?_;refine dB cQ (e:=247) rfl rfl k (A.length+k) rfl om rfl ?_;refine kI (o:=⟨some ⟨b,0,none⟩,N,C,hh⟩) (g:=λx:Nat=>.int .u32 x) (λ_=>rfl) cQ (i:=1) rfl rfl hoh hkl rfl rfl ((us[k]+2*Bs - bw - x) % Bs) rfl rfl rfl λo2 f1 f2 f3 ho2=>?_;obtain⟨ja,jn,jc,h2⟩:=o2;simp only at f1 f2 f3;subst ja jn jc;rw[DY lk (by simp;omega)] at ho2;have hX':(c+q*V[k]) % Bs=x:=hX;rw[hX'] at hsn;have el:(A++D)++((us[k]+2*Bs - bw - x) % Bs)::(us.drop (k+1)++tt::B)=A++((D++[(us[k]+2*Bs - bw - x) % Bs])++(us.drop (k+1)++tt::B)):=sQ
   rw[el] at ho2;refine d8 (λh15=>?_) λh15=>?_;focus
    refine nwo ?_;rw[if_pos om] at hsn
   rotate_left
   focus
    refine nwo ?_;rw[if_neg om] at hsn
   all_goals
    exact⟨(k+1,h2),⟨by dsimp only;omega,by dsimp only;rw[hsn];exact ho2⟩,by dsimp only;omega,v6.mk (λ_ _ h=>h) (by dsimp only;rw[hsn];rfl) rfl⟩
  ·have hkn:k=nv:=om
   subst hkn;rw[u7 om,u7 om] at hSl hSv hoh ⊢;rw[bW om,N6] at hoh;generalize hS:bJ q us V 0 0=S at *;obtain⟨D,c,bw⟩:=S;dsimp only at *;have hcB:c < 4294967296:=hSv.2.2.2.1;have hbw:bw<=1:=hSv.2.2.2.2;have lk:A++(D++tt::B)=(A++D)++tt::B:=sQ
   have hkl:A.length+k < (A++(D++tt::B)).length:=by rw[lk];simp;omega
   have gk:=iG lk (k:=A.length+k) (by simp;omega) hkl;refine dB cQ (e:=247) rfl rfl k (A.length+k) rfl om rfl ?_;refine rQ (o:=⟨some ⟨b,0,none⟩,N,C,hh⟩) (g:=λx:Nat=>.int .u32 x) (λ_=>rfl) cQ (i:=1) rfl rfl hoh hkl rfl ?_;rw[gk];(iterate 4 refine nwo ?_);refine rR (y:=(((tt+2*Bs - bw - c) % Bs:Nat):Int)) (by unfold Bs;omega) ?_;refine dB cQ (e:=247) rfl rfl k (A.length+k) rfl om rfl ?_;refine kI (o:=⟨some ⟨b,0,none⟩,N,C,hh⟩) (g:=λx:Nat=>.int .u32 x) (λ_=>rfl) cQ (i:=1) rfl rfl hoh hkl rfl rfl ((tt+2*Bs - bw - c) % Bs) rfl rfl rfl λo2 f1 f2 f3 ho2=>?_;obtain⟨ja,jn,jc,h2⟩:=o2;simp only at f1 f2 f3;subst ja jn jc;rw[DY lk (by simp;omega)] at ho2;have hDl:P3 D:=hSv.2.2.1;refine d8 (λh18=>?_) λh18=>?_
   ·refine pC q hzq om ?_;have hle2:c+bw<=tt:=om
    have hf:=hfit.1 hle2;have et:(tt+2*Bs - bw - c) % Bs=tt - (c+bw):=by unfold Bs;omega
    rw[et] at ho2;have ew:u9 (D++[tt - (c+bw)])=u9 D+Bs ^ us.length*(tt - (c+bw)):=by rw[Y8,hSl,husl]
    refine⟨h2,[],⟨rfl,q,D++[tt - (c+bw)],rfl,hqB,by rw[o6] at ho2 ⊢;exact ho2,by simp;omega,λd hd=>?_,by rw[ew];exact hf,?_⟩,λw' h=>h⟩
    ·rcases G1.1 hd with g | g
     ·exact hDl d g
     ·rw[E2] at g;unfold Bs;omega
    ·rw[ew];rw[D9,P9] at k2;omega
   ·obtain⟨hq0,ht1,hm1,hm2⟩:=hfit.2 om;have et:(tt+2*Bs - bw - c) % Bs=Bs - 1:=by unfold Bs;omega
    rw[et] at ho2;have hDV:D.length=V.length:=om
    refine u6.mk (Nat×Hp) (λg=>[(0,.v (.slice (some ⟨b,A.length,none⟩) (k+1) cu)),(5,.v (iQ k)),(7,.v (.int .u64 zq)),(9,.v (.int .u64 ((dI (D.take g.1) (V.take g.1) 0).2:Nat))),(137,.v (.slice av k cv)),(138,.v (iQ k)),(139,.v (iQ g.1))]) (λg=>[.hp ((Hp.whole w).minus h),.hp g.2])
     (λg=>g.1<=k/\w8 fW 247 1 ⟨some ⟨b,0,none⟩,N,C,g.2⟩ (A++((dI (D.take g.1) (V.take g.1) 0).1++(D.drop g.1++(Bs - 1)::B)))) (λg=>k - g.1) (0,h2) ⟨f8 _,by rw[o6] at ho2;exact ho2⟩ (v6.mk (λ_ _ h=>h) rfl rfl) ?_
    rintro⟨m,hh3⟩ ⟨hm,hoh3⟩;dsimp only at *;have htl3:(D.take m).length=(V.take m).length:=by rw[j8,j8];omega
    have hMl:=HH (D.take m) (V.take m) 0 htl3;rw[j8,show min m D.length=m by omega] at hMl;have hMv:=yZ (D.take m) (V.take m) 0 htl3 (λd hd=>hDl d (C6 hd)) (λd hd=>hlv d (C6 hd)) dc;refine d8 (λh19=>?_) λh19=>?_
    ·have hku:m < D.length:=om
     have hkv:m < V.length:=om
     have hdv:V[m] < 4294967296:=hlv V[m] (j0 hkv);have hdu:D[m] < 4294967296:=hDl D[m] (j0 hku);have hsn:=CM (D.take m) (V.take m) D[m] V[m] 0 htl3;rw[<-I8 D m hku,<-I8 V m hkv] at hsn;generalize hM:dI (D.take m) (V.take m) 0=M at *;obtain⟨E,c3⟩:=M;dsimp only at *;have hc3:c3<=1:=hMv.2.2.2;refine I1 cQ (e:=247) rfl hv m rfl om λb9 o9 cs hcs hR hcell20=>?_;subst hR;refine lQ 0 (hcell20 0 _ rfl) ?_;have lk3:A++(E++(D.drop m++(Bs - 1)::B))=(A++E)++D[m]::(D.drop (m+1)++(Bs - 1)::B):=by
      rw[r5 hku];simp only[o6,BT]
     have hkl3:A.length+m < (A++(E++(D.drop m++(Bs - 1)::B))).length:=by rw[lk3];simp;omega
     have gk3:=iG lk3 (k:=A.length+m) (by simp;omega) hkl3;refine dB cQ (e:=247) rfl rfl m (A.length+m) rfl om rfl ?_;refine rQ (o:=⟨some ⟨b,0,none⟩,N,C,hh3⟩) (g:=λx:Nat=>.int .u32 x) (λ_=>rfl) cQ (i:=1) rfl rfl hoh3 hkl3 rfl ?_;rw[gk3];refine J9 D[m] rfl om ?_;refine J9 V[m] rfl om ?_;refine J9 (D[m]+V[m]) sQ om ?_;refine J9 (c3+D[m]+V[m]) (by simp;omega) om ?_;refine gU (c3+D[m]+V[m]) rfl ?_;refine dB cQ (e:=247) rfl rfl m (A.length+m) rfl om rfl ?_;refine kI (o:=⟨some ⟨b,0,none⟩,N,C,hh3⟩) (g:=λx:Nat=>.int .u32 x) (λ_=>rfl) cQ (i:=1) rfl rfl hoh3 hkl3 rfl rfl ((c3+D[m]+V[m]) % Bs) rfl rfl rfl λo2 f1 f2 f3 ho2=>?_;obtain⟨ja,jn,jc,h3⟩:=o2;simp only at f1 f2 f3;subst ja jn jc;rw[DY lk3 (by simp;omega)] at ho2;refine pA (c3+D[m]+V[m]) 32 rfl rfl dc ?_;refine nwo ?_;have el:(A++E)++((c3+D[m]+V[m]) % Bs)::(D.drop (m+1)++(Bs - 1)::B)=A++((E++[(c3+D[m]+V[m]) % Bs])++(D.drop (m+1)++(Bs - 1)::B)):=sQ
     rw[el] at ho2;exact⟨(m+1,h3),⟨by dsimp only;omega,by dsimp only;rw[hsn];exact ho2⟩,by dsimp only;omega,v6.mk (λ_ _ h=>h) (by dsimp only;rw[hsn];rfl) rfl⟩
    ·have hmn:m=k:=om
     subst hmn;rw[u7 om,u7 om] at hMl hMv hoh3 ⊢;rw[bW om,N6] at hoh3;generalize hM:dI D V 0=M at *;obtain⟨E,c3⟩:=M;dsimp only at *;subst hm1;have lk3:A++(E++(Bs - 1)::B)=(A++E)++(Bs - 1)::B:=sQ
     have hkl3:A.length+m < (A++(E++(Bs - 1)::B)).length:=by rw[lk3];simp;omega
     have gk3:=iG lk3 (k:=A.length+m) (by simp;omega) hkl3;refine dB cQ (e:=247) rfl rfl m (A.length+m) rfl om rfl ?_;refine rQ (o:=⟨some ⟨b,0,none⟩,N,C,hh3⟩) (g:=λx:Nat=>.int .u32 x) (λ_=>rfl) cQ (i:=1) rfl rfl hoh3 hkl3 rfl ?_;rw[gk3];refine pC 1 rfl dc ?_;refine rR (y:=((0:Nat):Int)) dc ?_;refine dB cQ (e:=247) rfl rfl m (A.length+m) rfl om rfl ?_;refine kI (o:=⟨some ⟨b,0,none⟩,N,C,hh3⟩) (g:=λx:Nat=>.int .u32 x) (λ_=>rfl) cQ (i:=1) rfl rfl hoh3 hkl3 rfl rfl 0 rfl rfl rfl λo2 f1 f2 f3 ho2=>?_;obtain⟨ja,jn,jc,h3⟩:=o2;simp only at f1 f2 f3;subst ja jn jc;rw[DY lk3 (by simp;omega)] at ho2;refine J9 (q - 1) om om ?_;refine pC (q - 1) rfl om ?_;have ew:u9 (E++[0])=u9 E:=by rw[Y8];simp
     refine⟨h3,[],⟨rfl,q - 1,E++[0],rfl,om,by rw[o6] at ho2 ⊢;exact ho2,by simp;omega,λd hd=>?_,by rw[ew];exact hm2,?_⟩,λw' h=>h⟩
     ·rcases G1.1 hd with g | g
      ·exact hMv.2.2.1 d g
      ·rw[E2] at g;rw[g];decide
     ·rw[ew];have hD1:=bD hDl;rw[hSl] at hD1;have hS1:=hSv.1;rw[<-ht1,B9,E3,husl] at hS1;rw[husl] at hm2;clear hSv hMv ho2 hoh hoh3 lk lk3 gk gk3 hkl hkl3;obtain⟨p,rfl⟩ :∃p,q=p+1:=⟨q - 1,om⟩
      rw[D9,P9] at hS1;rw[XV] at hm2;omega
end Go.Proofs.YtpjhmeicbjkcdaaGreatDoor
namespace Go.Dw
open Go Go.RowKit
theorem Hp.le_left (h k:Hp):h.le (h.join k):=λx o e=>by unfold Hp.join;rw[e]
theorem FF.leR {s:List Ch} (h:FF s) (i j:Nat) {c d:Ch} (hi:m8 s i=some c) (hj:m8 s j=some d):d.h.le (c.h.join d.h):=
 let ⟨_,_,hok⟩:=h;Hp.le_join_in (hok.mem i c hi) (hok.mem j d hj)
theorem l6 {P:Program} {s:List Ch} {f:Nat} {args:List Value} {q:TV->List Ch->Prop} {i:Nat} {h:Hp} (hi:m8 s i=some (.hp h)) {R:Value->Hp->List Ch->Prop}
  (hc :∀w0 w,Ok w0 s w->j6 P f args.toArray w (O6 w h R)) (k :∀v h' cs,R v h' cs->q (.v v) (x9 s i (.hp h')++cs)):Q8 P s f args q:=by
 refine⟨λw0 w hok=>⟨(hc w0 w hok).1,(hc w0 w hok).2.mono λe w' he=>?_⟩⟩;obtain⟨v,h',cs,rfl,h1,h2⟩:=he;exact⟨v,_,rfl,hok.callM hi h1,(J6.set hi (λb cs T e=>by cases e)).trans (J6.app _ cs),k v h' cs h2⟩
theorem Ms {X:R5} {s:List Ch} (hX:X.Good) {T e:Nat} {te:TI} (hT:bM X T=some (e,te)) (h1:te.size=1) {b n c:Nat} (l m:Nat) {k1 k2:IntKind} {x y:Int} (hx:x=l) (hy:y=m) (hlm:l < m) (hmc:m<=c) {q:TV->Prop}
  (hq:q (.v (.slice (some ⟨b,l,none⟩) (m - l) (c - l)))):B7 X.P s (Instr.sliceAt T (.slice (some ⟨b,0,none⟩) n c) (some (.int k1 x)) (some (.int k2 y)) none) q:=by
 refine Jb hX hT l m (.inr ⟨_,_,rfl,hx⟩) (.inr ⟨_,_,rfl,hy⟩) om hmc ?_;rw[if_neg om,h1];have e:(some (⟨b,0,none⟩:Addr)).map (·.add (l*1))=some ⟨b,l,none⟩:=by simp[Addr.add_mk]
 rw[e];exact hq
theorem w8.addr {α:Type} {f:α->List Value} {T sz:Nat} {o:Os} {L:List α} (h:w8 f T sz o L) (h0:0 < L.length) :∃b,o.a=some ⟨b,0,none⟩:=by
 rcases h.2.2 with ⟨g,_⟩ | ⟨b,arr,g,_⟩
 ·have:=h.len;omega
 ·exact⟨b,g⟩
end Go.Dw
namespace Go.Proofs.YtpjhmeicbjkcdaaGreatDoor
open Go Go.RowKit Go.Dw
theorem fG.le_len {a b:List Nat} {x y:Nat} (ha:fG a x) (hb:fG b y) (h:x<=y):a.length<=b.length:=by
 refine j9 λg=>?_;have:=hb.shorter ha om;omega
def bT (h:Hp) (v:Value) (m:Nat):Prop:=∃a n c L,v=.slice a n c/\Sl (B0 fW) 1 h a n c L/\fG L m/\L.length<=800000
theorem bT.mono {h k:Hp} {v:Value} {m:Nat} (hl:h.le k):bT h v m->bT k v m
 | ⟨a,n,c,L,h1,h2,h3,h4⟩=>⟨a,n,c,L,h1,h2.mono (j7 _) hl,h3,h4⟩
theorem zH {L:List Nat} (h:2<=L.length) :∃l v2 v1,L=l++[v2,v1]/\l.length+2=L.length/\L.getD (L.length - 1) 0=v1:=by
 obtain⟨a,p,e,hl,hp⟩:=rA (m:=L) om;obtain⟨a2,p2,e2,hl2,_⟩:=rA (m:=a) om;exact⟨a2,p2,p,by rw[e,e2];simp,om,hp⟩
theorem TN {x y p la lb:Nat} (hx:x < Bs ^ la) (hy:Bs ^ (lb - 1)<=y) (h1:0 < lb) (h2:lb<=la) (hp:0 < p) {A D:Nat} (e:x*p=A+Bs ^ (la - lb+1)*D):D < y*p:=by
 refine j9 λhn=>?_;have hn:y*p<=D:=om
 have g1:Bs ^ (lb - 1)*p<=y*p:=y9 _ hy;have g2:Bs ^ (la - lb+1)*(Bs ^ (lb - 1)*p)<=Bs ^ (la - lb+1)*D:=B8 _ om;rw[<-A0,<-iO,show la - lb+1+(lb - 1)=la by omega] at g2;have g3:x*p < Bs ^ la*p:=Ji hx hp;omega
theorem JO {u:List Nat} {k nv V:Nat} (hk:k+nv < u.length) (hr:u9 (u.drop (k+1)) < V) (hV:V<=Bs ^ nv):u9 (u.drop (k+nv+1))=0/\u9 (u.drop k)=u9 ((u.drop k).take nv)+Bs ^ nv*u[k+nv]:=by
 have e1:=lH (u.drop (k+1)) nv;rw[R2,show k+1+nv=k+nv+1 by omega,show ((u.drop (k+1)).take nv).length=nv by rw[j8,k9];omega] at e1;have z:u9 (u.drop (k+nv+1))=0:=by
  refine j9 λhn=>?_;have:Bs ^ nv*1<=Bs ^ nv*u9 (u.drop (k+nv+1)):=B8 _ om;omega
 refine⟨z,?_⟩;have e2:=lH (u.drop k) nv;rw[R2,show ((u.drop k).take nv).length=nv by rw[j8,k9];omega,r5 (show k+nv < u.length from hk)] at e2;rw[e2];show _+Bs ^ nv*(u[k+nv]+Bs*u9 (u.drop (k+nv+1)))=_
 rw[z];simp
theorem JP {u:List Nat} {k nv:Nat} (hk:k+nv < u.length):u=u.take k++((u.drop k).take nv++u[k+nv]::u.drop (k+nv+1)):=by
 rw[<-r5 hk];have:u.drop (k+nv)=(u.drop k).drop nv:=by rw[R2]
 rw[this,E4,E4]
theorem RQ {La Lb:List Nat} {x y p m:Nat} (ca:fG La x) (cb:fG Lb y) (hb0:0 < Lb.length) (hll:Lb.length<=La.length) (hp0:0 < p) (hpB:p < Bs) (hm:m=La.length - Lb.length+1) {z:Int} (hz:z+1=m) {Lq:List Nat} (hq:Lq.length<=m) :
  BU (x*p) (y*p) Lb.length (gI p La) (z+1).toNat (u9 (Lq.drop (z+1).toNat)):=by
 have hra:=yK hpB ca.l;rw[ca.v] at hra;rw[hz,show ((m:Nat):Int).toNat=m from rfl,bW hq];have hcut:=lH (gI p La) m;have hl:((gI p La).take m).length=m:=by
  have:=hra.2.2;rw[j8];omega
 rw[hra.1,hl] at hcut;refine⟨hra.2.1,?_,?_⟩
 ·rw[hra.1];show x*p+y*p*(Bs ^ m*0)=x*p
  rw[jY,jY,G3]
 ·subst hm;exact TN ca.lt (cb.ge hb0) hb0 hll hp0 hcut
theorem RP {α:Type} {L:List α} {m:Nat} (h:m < L.length) (x:α):(L.set m x).drop m=x::L.drop (m+1):=by
 rw[YD,if_pos h,FJ (by rw[j8];omega)]
theorem vX {va vb:Value} {x y:Nat} (w:World) (ha:bT (Hp.whole w) va x) (hb:bT (Hp.whole w) vb y) (hy:0 < y) :
  j6 Tryz.prog 240 #[va,vb] w (fD w λv cs=>∃g vq vr,cs = [.hp g]/\v=.tuple #[vq,vr]/\bT g vq (x / y)/\(vr=va/\x < y\/bT g vr (x % y))):=by
 obtain⟨a,n,c,La,rfl,sa,ca,la⟩:=ha;obtain⟨a2,n2,c2,Lb,rfl,sb,cb,lb⟩:=hb;have hn:=sa.len;have hn2:=sb.len;have hb0:0 < Lb.length:=F8 λe=>by
  have:=cb.zero.2 (w9 e);omega
 refine enterZ (cx 79) [.slice a n c,.slice a2 n2 c2] [.tmp 4,.tmp 5] Tryz.func240 ?_;refine k7 _ (λw' hm=>mI w' (sa.mono (j7 _) (hm 0 _ rfl)) (sb.mono (j7 _) (hm 0 _ rfl)) ca cb om) ?_;refine d8 (λh1=>?_) λh1=>?_
 ·have hlt:x < y:=by
   unfold BM at h1;split at h1
   ·assumption
   ·split at h1 <;> omega
  exact⟨[.hp Hp.emp],⟨_,_,_,rfl,rfl,⟨_,_,_,[],rfl,Sl.nil _ _ _ _ _,by rw[Fu hlt];exact fG.nil,sQ⟩,.inl ⟨rfl,hlt⟩⟩,λw' h=>h.emp⟩
 ·have hge:y<=x:=by
   unfold BM at h1;split at h1
   ·omega
   ·omega
  have hll:=cb.le_len ca hge;refine d8 (λh2=>?_) λh2=>?_
  ·obtain⟨d,hd⟩ :∃d,Lb = [d]:=List.length_eq_one_iff.1 om;subst hd;have hdB:d < Bs:=cb.l d sQ;have hdy:d=y:=by have:=cb.v;simpa [u9] using this
   subst hdy;refine I1 cQ (e:=247) rfl sb 0 rfl sQ λb9 o9 cs hcs hR hcell3=>?_;subst hR;refine lQ 0 (hcell3 0 _ rfl) ?_;refine call (λw' hm=>yC w' d (sa.mono (j7 _) (hm 0 _ rfl)) ca.l om hy hdB) ?_;rintro _ _ ⟨g,aq,nq,cq,Lq,rfl,rfl,sq,cq'⟩;rw[ca.v] at cq' ⊢;intro b30;have hrB:x % d < 4294967296:=S3 (C8 _ hy) (kA hdB);refine DB (λw' hm=>aU (L:=[x % d]) w' (Sl.box (f:=fW) (λ_=>rfl) dc (hm 2 _ rfl) [x % d] rfl rfl sQ) sQ) ?_;rintro _ _ ⟨rfl,rfl⟩ hsat;have hlim:P3 [x % d]:=λe he=>by rw[E2] at he;rw[he];exact hrB
   have hb3:=w8.sl (f:=fW) (sz:=1) (λ_=>rfl) dc (w8.ofBox (sz:=1) (f:=fW) (b:=b30) (T:=247) (λ_=>rfl) [x % d] rfl rfl sQ);have hcan:=W2 hlim;rw[show u9 [x % d]=x % d by simp[u9]] at hcan;exact⟨[.hp (g.join (Ch.box b30 [.int .u32 ((x % d:Nat):Int)] 247).h)],⟨_,_,_,rfl,rfl,⟨_,_,_,_,rfl,sq.mono (j7 _) (Hp.le_left _ _),cq',by have:=cq'.le_len ca (D7 _ _);omega⟩,
    .inr ⟨_,_,_,_,rfl,(iA hb3).mono (j7 _) (hsat.leR 1 2 rfl rfl),hcan,by rw[gP];have:=lK [x % d];simp at this;omega⟩⟩,λw' h=>Ok.join (h.pick [0,1,2] rfl rfl)⟩
  ·have hl2:2<=Lb.length:=om
   obtain⟨tl,tv2,tv1,etl,htl,htop⟩:=zH hl2;have htop0:tv1≠0:=by
    rw[<-htop];exact cb.t _ hb0 om
   have htopB:tv1 < Bs:=cb.l tv1 (by rw[etl];simp);have hgt:Lb[Lb.length - 1]'(by omega)=tv1:=iG (a:=tl++[tv2]) (b:=[]) (by rw[etl];simp) (by simp;omega) om;refine nwo ?_;refine I1 cQ (e:=247) rfl sb (Lb.length - 1) om om λb9 o9 cs hcs hR hcell4=>?_;rw[hgt] at hR;subst hR;refine lQ 0 (hcell4 0 _ rfl) ?_;refine call (λw' hm=>HL tv1 htopB (F8 htop0) w') ?_;rintro _ _ ⟨rfl,k,rfl,hk1,hk⟩;obtain⟨hps,hpB⟩:=tX hk;have hp0:=cA k;generalize hp:2 ^ k=p at hk1 hps hpB hp0;have hra:=yK hpB ca.l;have hrb:=yK hpB cb.l;rw[ca.v] at hra;rw[cb.v] at hrb;refine call (λw' hm=>vK w' k (sa.mono (j7 _) (hm 0 _ rfl)) ca.l om hk) ?_;rintro _ _ ⟨o1,rfl,rfl,ho1⟩;refine call (λw' hm=>vK w' k (sb.mono (j7 _) (hm 0 _ rfl)) cb.l om hk) ?_;rintro _ _ ⟨o2,rfl,rfl,ho2⟩;rw[hp] at ho1 ho2;have s2:=w8.sl (f:=fW) (sz:=1) (λ_=>rfl) dc ho2;have cV:=W2 hrb.2.1;rw[hrb.1] at cV;have hyp:y*p < Bs ^ Lb.length:=by
    have e:y=u9 tl+Bs ^ tl.length*(tv2+Bs*tv1):=by rw[<-cb.v,etl,xP]
    have h1:=bD (m:=tl) λd hd=>cb.l d (by rw[etl];simp[hd]);have h2:tv2 < Bs:=cb.l tv2 (by rw[etl];simp);have e2:Bs ^ Lb.length=Bs ^ tl.length*(Bs*Bs):=by rw[<-htl,iO];rfl
    have h3:y < Bs ^ tl.length*(Bs*(tv1+1)):=by
     have g1:Bs ^ tl.length*(tv2+Bs*tv1+1)<=Bs ^ tl.length*(Bs*(tv1+1)):=B8 _ (by rw[B9];omega);rw[B9 _ _ 1,E3] at g1;omega
    have h4:(tv1+1)*p<=Bs:=by
     have g2:=hk1;rw[D9,P9];have g3:tv1*p < p*2 ^ (32 - k):=by rw[hps];exact g2
     rw[q8 tv1 p] at g3;have g4:=Nat.lt_of_mul_lt_mul_left g3;have g5:p*(tv1+1)<=p*2 ^ (32 - k):=B8 _ g4;rw[hps,B9,E3,q8 p tv1] at g5;exact g5
    have h5:y*p < Bs ^ tl.length*(Bs*(tv1+1))*p:=Ji h3 hp0;have h6:Bs ^ tl.length*(Bs*(tv1+1))*p=Bs ^ tl.length*(Bs*((tv1+1)*p)):=by rw[A0,A0]
    have h7:Bs ^ tl.length*(Bs*((tv1+1)*p))<=Bs ^ tl.length*(Bs*Bs):=B8 _ (B8 _ h4);omega
   have hVl:(JK (gI p Lb)).length=Lb.length:=by
    rcases Bp (JK (gI p Lb)).length Lb.length with g | g | g
    ·have:=cV.lt;have h2:=cb.ge hb0;have h3:Bs ^ (JK (gI p Lb)).length<=Bs ^ (Lb.length - 1):=I4 dc om;have h4:y*1<=y*p:=B8 _ hp0;omega
    ·exact g
    ·have h2:=cV.ge om;have h3:Bs ^ Lb.length<=Bs ^ ((JK (gI p Lb)).length - 1):=I4 dc om;omega
   have hvn:trN (gI p Lb)=Lb.length:=by rw[<-gP];exact hVl
   refine k7 _ (λw' hm=>aU w' (s2.mono (j7 _) (hm 2 _ rfl)) (by rw[hrb.2.2];omega)) ?_;have sV:=iA s2;rw[hvn] at sV ⊢;obtain⟨vl,v2,v1,eV,hvl,hv1⟩:=zH (L:=JK (gI p Lb)) om;have hv0:v1≠0:=by rw[<-hv1];exact cV.t _ om om
   have cV':=cV;rw[eV] at cV' sV;(iterate 2 refine nwo ?_);refine Er (f:=fW) cQ (e:=247) rfl (La.length - Lb.length+1) 0 rfl om om rfl om λo52 ho52n ho52=>?_;refine nwo ?_;obtain⟨b1,hb1⟩:=ho1.addr (by rw[hra.2.2];omega);obtain⟨a1',n1',c1',h1'⟩:=o1;simp only at hb1;subst hb1;have hn1':n1'=La.length+1:=by have:=ho1.len;rw[hra.2.2] at this;exact this
   subst hn1';have hnp:=hra.2.2;refine u6.mk (Int×Hp×Dw.Os×List Nat×List Nat) (λg=>[(4,.v g.2.2.1.v),(8,.v (iQ k)),(9,.v (.slice (some ⟨b1,0,none⟩) (La.length+1) c1')),(10,.v (.slice o2.a Lb.length o2.c)),(11,.v (iQ g.1))]) (λg=>[.hp (Hp.whole w),.hp g.2.1,.hp o2.h,.hp g.2.2.1.h])
    (λg=>-1<=g.1/\g.1<=La.length - Lb.length/\w8 fW 247 1 ⟨some ⟨b1,0,none⟩,La.length+1,c1',g.2.1⟩ g.2.2.2.1/\g.2.2.2.1.length=La.length+1/\w8 fW 247 1 g.2.2.1 g.2.2.2.2/\g.2.2.2.2.length=La.length - Lb.length+1/\P3 g.2.2.2.2/\
     BU (x*p) (y*p) Lb.length g.2.2.2.1 (g.1+1).toNat (u9 (g.2.2.2.2.drop (g.1+1).toNat))) (λg=>(g.1+1).toNat) ((o52.n:Int) - 1,h1',o52,gI p La,p7 (La.length - Lb.length+1) 0)
    ⟨by dsimp only;omega,by dsimp only;omega,ho1,hnp,ho52,sQ,λd hd=>by rw[List.eq_of_mem_replicate hd];decide,RQ ca cb hb0 hll hp0 hpB rfl om sQ⟩ (v6.mk (λ_ _ h=>h) rfl rfl) ?_
   rintro⟨i,hu,oq,u,Lq⟩ ⟨hi1,hi2,hou,hul,hoq,hql,hqlim,hD⟩;dsimp only at *;refine d8 (λh5=>?_) λh5=>?_
   ·obtain⟨m,hm⟩ :∃m:Nat,i=m:=⟨i.toNat,om⟩
    subst hm;have em:((m:Int)+1).toNat=m+1:=om
    rw[em] at hD;have hmu:m+Lb.length < u.length:=om
    have hwin:=hD.window (by omega:m < u.length);obtain⟨z0,hwv⟩:=JO hmu hD.r (kA hyp);have hcutu:=JP hmu;obtain⟨ul,u2,u1,eu,hul2,_⟩:=zH (L:=(u.drop m).take Lb.length) (by rw[j8,k9];omega);have hulen:((u.drop m).take Lb.length).length=Lb.length:=by rw[j8,k9];omega
    have hAl:(u.take m).length=m:=by rw[j8];omega
    rw[eu] at hcutu hwv hulen;have hlimW:P3 (ul++[u2,u1]):=λd hd=>hD.l d (by
     rw[<-eu] at hd;exact E8 (C6 hd))
    refine nwo ?_;refine nwo ?_;refine Ms cQ (e:=247) rfl rfl m (m+Lb.length+1) rfl om om (by have:=hou.2.cap;dsimp only at this;omega) ?_;rw[show m+Lb.length+1 - m=Lb.length+1 by omega];have hou2:w8 fW 247 1 ⟨some ⟨b1,0,none⟩,La.length+1,c1',hu⟩ (u.take m++(ul++[u2,u1]++u[m+Lb.length]::u.drop (m+Lb.length+1))):=by
     rw[<-hcutu];exact hou
    have htt:u[m+Lb.length] < Bs:=hD.l _ (j0 hmu);rw[hwv,<-cV'.v] at hwin;refine l6 (i:=1) rfl (λw0 w' hok=>by
     have hsV:=sV.mono (j7 _) (Hp.le_minus (hok.mem 2 _ rfl).whole (hok.disj 2 1 _ _ om rfl rfl));have:=MC (cu:=c1' - m) w' (hok.mem 1 _ rfl) hou2 hsV (by have h9:=hulen;simp only[d6,d7,d9] at h9;omega) hlimW htt cV'.l hv0 (by rw[<-hcutu];omega) (by rw[hulen];exact hwin);rw[hAl] at this;exact this) ?_
    rintro _ hu3 _ ⟨rfl,qd,w2,rfl,hqdB,hou3,hw2l,hw2m,hw2v,hw2r⟩;have hmq:m < Lq.length:=om
    refine aW cQ (e:=247) rfl rfl hoq m rfl hmq λb3 hb3=>?_;refine kI (g:=λx:Nat=>.int .u32 x) (λ_=>rfl) cQ (i:=3) rfl hb3 hoq hmq rfl rfl qd rfl rfl rfl λo3 f1 f2 f3 ho3=>?_;refine nwo ?_;have e0:((m:Int) - 1+1).toNat=m:=om
    have hdr:(u.take m++(w2++u.drop (m+Lb.length+1))).drop m=w2++u.drop (m+Lb.length+1):=FJ hAl;have hw2z:u9 (w2++u.drop (m+Lb.length+1))=u9 w2:=by rw[X7,z0];simp
    have hnext:BU (x*p) (y*p) Lb.length (u.take m++(w2++u.drop (m+Lb.length+1))) m (qd+Bs*u9 (Lq.drop (m+1))):=by
     refine hD.next om (λd hd=>?_) (by simp only[d6,k9,hAl,hw2l];omega) (Y7 hAl) ?_ ?_
     ·rcases G1.1 hd with g | g
      ·exact hD.l d (C6 g)
      ·rcases G1.1 g with g | g
       ·exact hw2m d g
       ·exact hD.l d (E8 g)
     ·rw[hdr,hw2z,hwv];rw[cV'.v,hulen] at hw2v;exact hw2v
     ·rw[hdr,hw2z];rw[cV'.v] at hw2r;exact hw2r
    refine⟨((m:Int) - 1,hu3,o3,_,Lq.set m qd),⟨by dsimp only;omega,by dsimp only;omega,hou3,by simp only[d6,k9,hAl,hw2l];omega,ho3,by rw[N8];exact hql,λd hd=>?_,?_⟩,by dsimp only;omega,v6.mk (λ_ _ h=>h) (by dsimp only[Os.v];rw[f1,f2,f3];rfl) rfl⟩
    ·rcases List.mem_or_eq_of_mem_set hd with g | g
     ·exact hqlim d g
     ·rw[g];exact hqdB
    ·dsimp only;rw[e0,RP hmq];exact hnext
   ·have ei:(i+1).toNat=0:=om
    rw[ei,H6] at hD;obtain⟨hQ,hR⟩:=hD.fin;rw[Nat.mul_div_mul_right _ _ hp0] at hQ;rw[Nat.mul_mod_mul_right] at hR;have sq:=w8.sl (f:=fW) (sz:=1) (λ_=>rfl) dc hoq;have su:=w8.sl (f:=fW) (sz:=1) (λ_=>rfl) dc hou;have cq:=W2 hqlim;have cu:=W2 hD.l;rw[hQ] at cq;rw[hR] at cu;refine k7 _ (λw' hm=>aU w' (sq.mono (j7 _) (hm 3 _ rfl)) om) ?_;refine k7 _ (λw' hm=>aU w' (su.mono (j7 _) (hm 1 _ rfl)) om) ?_;refine DB (λw' hm=>ER w' k ((iA su).mono (j7 _) (hm 1 _ rfl)) cu.l (by rw[gP];have:=lK u;omega) hk) ?_;rintro _ _ ⟨g,ar,nr,cr,Lr,rfl,rfl,sr,cr'⟩ hsat;rw[cu.v,hp,Nat.mul_div_cancel _ hp0] at cr';exact⟨[.hp (oq.h.join g)],⟨_,_,_,rfl,rfl,⟨_,_,_,_,rfl,(iA sq).mono (j7 _) (Hp.le_left _ _),cq,by have:=cq.le_len ca (D7 _ _);omega⟩,
     .inr ⟨_,_,_,_,rfl,sr.mono (j7 _) (hsat.leR 3 4 rfl rfl),cr',by have:=cr'.le_len ca (Nat.mod_le _ _);omega⟩⟩,λw' h=>Ok.join (h.pick [0,3,4] rfl rfl)⟩
end Go.Proofs.YtpjhmeicbjkcdaaGreatDoor
namespace Go.Dw
open Go Go.RowKit
section
variable {X:R5} {s:List Ch}
theorem o7 {all r:List Oper} {q:Tm->List Ch->Prop} {t:Tm} (h :∀q':Tm->List Ch->Prop,(∀t s,q t s->q' t s)->Q7 X all r q' t s):Q7 X all r q t s:=h q λ_ _ h=>h
theorem X9 {all r:List Oper} {q:Tm->List Ch->Prop} {t:Tm} {s:List Ch} (s':List Ch) (hs:s=s') (h:Q7 X all r q t s'):Q7 X all r q t s:=by subst hs;exact h
theorem nQ {all r:List Oper} {q:Tm->List Ch->Prop} {t:Tm} {s:List Ch} (s':List Ch) (h :∀q':Tm->List Ch->Prop,(∀t s,q t s->q' t s)->Q7 X all r q' t s') (hs:s=s':=by exact rfl):Q7 X all r q t s:=X9 s' hs (o7 h)
theorem EU (hX:X.Good) {T e len:Nat} {te ti:TI} (ht:I2 X.tt T=some ti) (hk:ti.k=.ar len e) (hte:I2 X.tt e=some te) {b off:Nat} {k:IntKind} {x:Int} (m:Nat) (hx:x=m) (hm:PB m len=true) {q:TV->Prop}
  (hq:q (.v (.pointer (some ⟨b,off+m*te.size,none⟩)))):B7 X.P s (Instr.indexAt T (.pointer (some ⟨b,off,none⟩)) (.int k x)) q:=by
 subst hx;have hlt:m < len:=by simpa [Lp] using hm
 refine⟨_,λw _=>?_,hq⟩;obtain⟨_,sz,by',z⟩:=ti;dsimp only at hk;subst hk;have hu:=(Good.und hX ht).2;have hun:(underlying T).run X.P w=.ok (.array len e) w:=by simp[underlying,show X.P.underlying T=_ from hu]
 have hsz:=(Good.und hX hte).size w;simp only[Instr.indexAt,asIntOf,Sem.run_bind,Sem.run_pure,Result.andThen_ok,hun,Instr.sureAddr];have c:(0:Int)<=(m:Int)/\(m:Int) < (len:Int):=⟨S4 m,om⟩
 rw[if_pos c];simp[hsz,Addr.add_mk]
end
end Go.Dw
namespace Go.Dw
open Go Go.RowKit
theorem tY {x y:Int} {q:Int->Prop} (h:x=y) (h1 : -9223372036854775808<=y) (h2:y<=9223372036854775807) (hq:q y):bR .i64 x q:=by subst h;exact nw h1 h2 hq
section
variable {X:R5} {s:List Ch}
end
end Go.Dw
namespace Go.Proofs.YtpjhmeicbjkcdaaGreatDoor
open Go Go.RowKit Go.Dw
theorem bT.len {h:Hp} {a:Option Addr} {n c m:Nat} (hm:bT h (.slice a n c) m):n=0↔m=0:=by
 obtain⟨a',n',c',L,e,h1,h2,_⟩:=hm;cases e;rw[h2.zero,h1.len];exact⟨w9,λe=>by rw[e];rfl⟩
def Ll (W G:Hp) (t:Option Addr×Nat×Nat) (m:Nat):Prop:=∀k,W.le k->G.le k->bT k (.slice t.1 t.2.1 t.2.2) m
theorem bT.slice {h:Hp} {v:Value} {m:Nat} (hm:bT h v m) :∃t:Option Addr×Nat×Nat,v=.slice t.1 t.2.1 t.2.2:=by
 obtain⟨a,n,c,L,e,_⟩:=hm;exact⟨(a,n,c),e⟩
theorem IB {g1 g2:Bool} {a1 a2:Option Addr} {n1 c1 n2 c2 x y:Nat} {h:Hp} (w:World) (hin:h.In w) (ha:bT h (.slice a1 n1 c1) x) (hb:bT h (.slice a2 n2 c2) y) :
  j6 Tryz.prog 194 #[U9 g1 a1 n1 c1,U9 g2 a2 n2 c2] w (fD w λv cs=>∃g a n c,cs = [.hp g]/\v=U9 false a n c/\∀k,h.le k->g.le k->bT k (.slice a n c) (I5 x y)):=by
 have hW:h.le (Hp.whole w):=hin.whole;refine enterZ (cx 26) [U9 g1 a1 n1 c1,U9 g2 a2 n2 c2] [.cell 4 139] Tryz.func194 ?_;intro b2;intro b3;intro b4;refine s6.by_order cQ (.take 0 <| .take 1 <| .take 2 <| .take 3 <| .take 4 <| .take 5 <| .done) kr ?_;refine u6.mkS ((Option Addr×Nat×Nat)×(Option Addr×Nat×Nat)×Nat×Nat×Hp) (λg=>[(4,.bx 3 0),(5,.v (.slice g.1.1 g.1.2.1 g.1.2.2)),(6,.v (.slice g.2.1.1 g.2.1.2.1 g.2.1.2.2))])
  (λg=>[.hp (Hp.whole w),.box b2 [.bool g1,.slice a1 n1 c1] 139,.box b3 [.bool g2,.slice a2 n2 c2] 139,.box b4 [.bool false,zl] 139,.hp g.2.2.2.2])
  (λg=>Ll h g.2.2.2.2 g.1 g.2.2.1/\Ll h g.2.2.2.2 g.2.1 g.2.2.2.1/\I5 g.2.2.1 g.2.2.2.1=I5 x y) (λg=>g.2.2.2.1) ((a1,n1,c1),(a2,n2,c2),x,y,Hp.emp)
  ⟨λk h1 _=>ha.mono h1,λk h1 _=>hb.mono h1,rfl⟩ (v6.mk (λ_ _ h=>h.emp) rfl rfl) ?_
 rintro⟨⟨ax,nx,cx⟩,⟨ay,ny,cy⟩,X,Y,G⟩ ⟨hX,hY,hg⟩ hsat;dsimp only at *;have hX' :∀k,h.le k->G.le k->bT k (.slice ax nx cx) X:=hX;have hY' :∀k,h.le k->G.le k->bT k (.slice ay ny cy) Y:=hY;have hl:=(hY' ((Hp.whole w).join G) (λb o e=>Hp.le_left _ _ b o (hW b o e)) (hsat.leR 0 4 rfl rfl)).len;refine d8 (λh1=>?_) λh1=>?_
 ·have hYp:0 < Y:=F8 λe=>by
   have:=hl.2 e;omega
  clear hsat;refine DB (λw' hm=>vX w' (hX' _ (λb o e=>(hm 0 _ rfl).whole b o (hW b o e)) (hm 4 _ rfl).whole) (hY' _ (λb o e=>(hm 0 _ rfl).whole b o (hW b o e)) (hm 4 _ rfl).whole) hYp) ?_;rintro _ _ ⟨g,vq,vr,rfl,rfl,_,hr⟩ hsat;have hgl:g.le (G.join g):=hsat.leR 4 5 rfl rfl;have hr2 :∀k,h.le k->(G.join g).le k->bT k vr (X % Y):=λk k1 k2=>by
   rcases hr with ⟨rfl,hlt⟩ | hr
   ·rw[C9 hlt];exact hX' k k1 λb o e=>k2 b o (Hp.le_left _ _ b o e)
   ·exact hr.mono λb o e=>k2 b o (hgl b o e)
  obtain⟨⟨ar,nr,cr⟩,rfl⟩:=(hr2 ((Hp.whole w).join (G.join g)) (λb o e=>Hp.le_left _ _ b o (hW b o e)) (by
   have h1:Hp.le (G.join g) ((Hp.whole w).join (G.join g)):=by
    obtain⟨w0,w1,hok⟩:=hsat;exact Hp.le_join_in (hok.mem 0 _ rfl) (Hp.join_in (hok.mem 4 _ rfl) (hok.mem 5 _ rfl))
   exact h1)).slice
  refine⟨((ay,ny,cy),(ar,nr,cr),Y,X % Y,G.join g),⟨λk k1 k2=>hY' k k1 λb o e=>k2 b o (Hp.le_left _ _ b o e),hr2,?_⟩,C8 _ hYp,v6.mk (λ_ _ h=>(Ok.join (h.pick [0,4,5,1,2,3] rfl rfl)).pick [0,2,3,4,1] rfl rfl) rfl rfl⟩;dsimp only;rw[<-VZ];exact hg
 ·have hY0:Y=0:=hl.1 om;subst hY0;rw[Nat.gcd_zero_right] at hg;subst hg;exact⟨[.hp G],⟨_,_,_,_,rfl,rfl,hX'⟩,pk [0,4]⟩
theorem Ej {u:Nat} {z:Int} {q:Int->Prop} (hz:z=((-(u:Int)) % 18446744073709551616)) (hu:u<=9223372036854775808) (hq:q (-(u:Int))):bR .i64 z q:=by
 refine⟨-(u:Int),?_,hq⟩;subst hz;simp only[IntKind.wrap,IntKind.bits,IntKind.signed];simp;omega
def oG (neg:Bool) (m:Nat):Int×Bool:=if neg=true then (if m<=9223372036854775808 then (-(m:Int),true) else (0,false)) else (if m < 9223372036854775808 then ((m:Int),true) else (0,false))
theorem VR {neg:Bool} {a:Option Addr} {n c m:Nat} (w:World) (ha:bT (Hp.whole w) (.slice a n c) m) :
  j6 Tryz.prog 246 #[U9 neg a n c] w (v7 w (.tuple #[iQ (oG neg m).1,.bool (oG neg m).2])):=by
 obtain⟨a',n',c',L,e,hs,hc,hl⟩:=ha;cases e;have hn:=hs.len;refine enterZ (cx 47) [U9 neg a n c] [.tmp 2,.tmp 3] Tryz.func246 ?_;intro b1;refine d8 (λh1=>?_) λh1=>?_
 ·have h2:=hc.ge om;have h3:Bs ^ 2<=Bs ^ (L.length - 1):=I4 dc om;have h4:Bs ^ 2=18446744073709551616:=rfl;have e:oG neg m=(0,false):=by
   unfold oG;split
   ·rw[if_neg om]
   ·rw[if_neg om]
  exact⟨[],⟨by rw[e],rfl⟩,pk [0]⟩
 ·refine u6.mk (Nat×Int) (λg=>[(1,.bx 1 0),(4,.v (.int .u64 g.2)),(12,.v (.slice a n c)),(13,.v (iQ n)),(14,.v (iQ g.1))]) (λg=>[.hp (Hp.whole w),.box b1 [.bool neg,.slice a n c] 139])
   (λg=>g.1<=L.length/\g.2=((u9 (L.take g.1):Nat):Int)) (λg=>L.length - g.1) (0,0) ⟨f8 _,rfl⟩ (v6.mk (λ_ _ h=>h) rfl rfl) ?_
  rintro⟨i,zu⟩ ⟨hi,hz⟩;dsimp only at *;refine d8 (λh2=>?_) λh2=>?_
  ·have hi':i < L.length:=om
   have hd:L[i] < 4294967296:=hc.l _ (j0 hi');have hp:2 ^ (32*i)=Bs ^ i:=by rw[Nat.pow_mul];rfl
   have htv:=bD (m:=L.take i) λd hd=>hc.l d (C6 hd);rw[j8,Y5 hi] at htv;have hsn:=Y8 (L.take i) L[i];rw[<-I8 L i hi',j8,Y5 hi] at hsn;have hB:Bs ^ i*L[i] < 18446744073709551616/\u9 (L.take i) < 18446744073709551616:=by
    have:i=0\/i=1:=om
    rcases this with rfl | rfl
    ·rw[Nat.pow_zero] at htv ⊢;omega
    ·rw[Nat.pow_one] at htv ⊢;unfold Bs at htv ⊢;omega
   refine I1 cQ (e:=247) rfl hs i rfl hi' λb9 o9 cs hcs hR hcell2=>?_;subst hR;refine lQ 0 (hcell2 0 _ rfl) ?_;refine J9 L[i] rfl om ?_;refine tY (y:=((32*i:Nat):Int)) sQ om om ?_;refine NS L[i] (32*i) rfl rfl om ?_;rw[hp,q8 L[i],C9 hB.1];refine NU (u9 (L.take i)) (Bs ^ i*L[i]) hz rfl hB.2 hB.1 ?_;rw[EK (k:=32*i) hp.symm htv,<-hsn];refine nwo ?_;exact⟨(i+1,_),⟨by dsimp only;omega,rfl⟩,by dsimp only;omega,v6.mk (λ_ _ h=>h) rfl rfl⟩
  ·have hi':i=L.length:=om
   subst hi';rw[p9,hc.v] at hz;have hB:m < 18446744073709551616:=by
    have:=hc.lt;have h3:Bs ^ L.length<=Bs ^ 2:=I4 dc om;have h4:Bs ^ 2=18446744073709551616:=rfl;omega
   refine s8 (λh4=>?_) λh4=>?_
   ·have hneg:neg=false:=by simpa using h4
    subst hneg;refine d8 (λh5=>?_) λh5=>?_
    ·refine nwo ?_;exact⟨[],⟨by unfold oG;rw[if_neg dc,if_pos om,hz],rfl⟩,pk [0]⟩
    ·exact⟨[],⟨by unfold oG;rw[if_neg dc,if_neg om],rfl⟩,pk [0]⟩
   ·have hneg:neg=true:=by simpa using h4
    subst hneg;refine d8 (λh5=>?_) λh5=>?_
    ·refine wY (y:=(-(m:Int)) % 18446744073709551616) (by rw[hz,Int.zero_sub]) ?_;refine Ej rfl om ?_;exact⟨[],⟨by unfold oG;rw[if_pos rfl,if_pos om],rfl⟩,pk [0]⟩
    ·exact⟨[],⟨by unfold oG;rw[if_pos rfl,if_neg om],rfl⟩,pk [0]⟩
theorem cD {neg:Bool} {a:Option Addr} {n c m:Nat} (w:World) (ha:bT (Hp.whole w) (.slice a n c) m) :
  j6 Tryz.prog 192 #[U9 neg a n c] w (v7 w (iQ (if m=0 then 0 else if neg=true then -1 else 1))):=by
 have hl:=ha.len;refine enterZ (cx 11) [U9 neg a n c] [.tmp 2] Tryz.func192 ?_;intro b1;refine d8 (λh1=>?_) λh1=>?_
 ·exact⟨[],⟨by rw[if_pos (hl.1 om)],rfl⟩,pk [0]⟩
 ·have:m≠0:=λe=>by have:=hl.2 e;omega
  refine s8 (λh2=>?_) λh2=>?_
  ·exact⟨[],⟨by rw[if_neg this,if_pos h2],rfl⟩,pk [0]⟩
  ·exact⟨[],⟨by rw[if_neg this,h2];rfl,rfl⟩,pk [0]⟩
end Go.Proofs.YtpjhmeicbjkcdaaGreatDoor
namespace Go.Proofs.YtpjhmeicbjkcdaaGreatDoor
abbrev e8:=List UInt8
def P4 (c:UInt8):Bool:=decide (97<=c.toNat) && decide (c.toNat<=122)
def l8 (c:UInt8):Bool:=decide (48<=c.toNat) && decide (c.toNat<=57)
def K7 (c:UInt8):Bool:=P4 c || l8 c || decide (c=45) || decide (c=95)
def bX (p:Nat×Nat) (c:UInt8):Nat×Nat:=if c=10 then (p.1+1,1) else (p.1,p.2+1)
def K6 (p:Nat×Nat) (l:e8):Nat×Nat:=l.foldl bX p
def s9 (f:UInt8->Bool) (l:e8):Nat:=(l.takeWhile f).length
def T8 (l:e8):Nat:=gK (l.map λc=>c.toNat - 48)
def cM (l:e8):Bool:=decide (0 < l.length) && (decide (l.length=1) || !decide (l.getD 0 0=48))
def bO (s:e8) (k:Nat):Bool:=
 if s.length=k then cM s else cM (s.take k) && (cM (s.drop (k+1)) && (decide (1 < T8 (s.drop (k+1))) && decide (I5 (T8 (s.take k)) (T8 (s.drop (k+1)))=1)))
def M7:e8->Nat->e8->Nat×e8×Int
 | [],_,_=>(0,[],4)
 | [c],i,out=>if c=10 then (0,[],4) else if c=34 then (if 4096 < out.length then (0,[],5) else (i+1,out,0)) else if c.toNat < 32\/126 < c.toNat then (i,[],14) else if c=92 then (i,[],14) else (0,[],4)
 | c::e::r,i,out=>if c=10 then (0,[],4) else if c=34 then (if 4096 < out.length then (0,[],5) else (i+1,out,0)) else if c.toNat < 32\/126 < c.toNat then (i,[],14) else
  if c=92 then (if e=34\/e=92 then M7 r (i+2) (out++[e]) else (i,[],14)) else M7 (e::r) (i+1) (out++[c])
def dD:List e8:=[[46,46],[60,61],[62,61],[45,62]]
def KX:e8:=[123,125,40,41,91,93,44,59,58,61,60,62,43,45,42,47,64]
def P6 (s:e8):Nat:=if dD.any (λx=>decide (s.take 2=x)) then 2 else if s.length≠0/\s.getD 0 0∈KX then 1 else 0
def K5 (s:e8):Nat×Nat:=
 let k:=s9 l8 s
 let m:=s9 l8 (s.drop (k+1))
 if s.getD k 0=47/\k < s.length/\0 < m then (k+1+m,k) else (k,k)
def A6 (s:e8):Nat×Int×e8×Int:=
 let c:=s.getD 0 0
 if c=34 then
  let r:=M7 (s.drop 1) 1 []
  (r.1,3,r.2.1,r.2.2)
 else if P4 c then (if 40 < s9 K7 s then (0,1,[],5) else (s9 K7 s,1,s.take (s9 K7 s),0))
 else if l8 c then
  let n:=K5 s
  if 400 < n.1 then (0,2,[],5) else if bO (s.take n.1) n.2 then (n.1,2,s.take n.1,0) else (0,2,[],3)
 else if P6 s=0 then (0,4,[],14) else (P6 s,4,s.take (P6 s),0)
abbrev kX:=Int×e8×Nat×Nat
def cE:Nat->e8->Nat×Nat->List kX->List kX×Nat×Nat×Int
 | 0,_,p,out=>(out++[(5,[],p.1,p.2)],0,0,0)
 | f+1,s,p,out=>match s with
  | []=>(out++[(5,[],p.1,p.2)],0,0,0)
  | c::r=>
   if c=32\/c=10 then cE f r (bX p c) out
   else if c=35 then cE f (s.drop (s9 (λc=>!decide (c=10)) s)) (K6 p (s.take (s9 (λc=>!decide (c=10)) s))) out
   else
    let t:=A6 s
    if t.2.2.2≠0 then ([],(K6 p (s.take t.1)).1,(K6 p (s.take t.1)).2,t.2.2.2)
    else cE f (s.drop t.1) (K6 p (s.take t.1)) (out++[(t.2.1,t.2.2.1,p.1,p.2)])
def aK (s:e8):List kX×Nat×Nat×Int:=if 65536 < s.length then ([],1,1,5) else cE (s.length+1) s (1,1) []
theorem NH {s:e8} (h0:0 < s.length) (h:(A6 s).2.2.2=0):0 < (A6 s).1:=by
 cases s with
 | nil=>cases h0
 | cons c r=>
  have key :∀(l:e8) (i:Nat) (out:e8),(M7 l i out).2.2=0->i < (M7 l i out).1:=by
   intro l;induction hn:l.length using gY generalizing l with
   | _ n ih=>
    intro i out h;match l,hn with
    | [],_=>simp[M7] at h
    | [c],_=>
     unfold M7 at h ⊢;split at h
     ·cases h
     ·split at h
      ·split at h
       ·cases h
       ·rename_i g1 g2 g3
        rw[if_neg g1,if_pos g2,if_neg g3];exact Nat.lt_succ_self i
      ·split at h
       ·cases h
       ·split at h <;> cases h
    | c::e::r,hn=>
     unfold M7 at h ⊢;split at h
     ·cases h
     ·rename_i g1
      rw[if_neg g1];split at h
      ·rename_i g2
       rw[if_pos g2];split at h
       ·cases h
       ·rename_i g3
        rw[if_neg g3];exact Nat.lt_succ_self i
      ·rename_i g2
       rw[if_neg g2];split at h
       ·cases h
       ·rename_i g3
        rw[if_neg g3];split at h
        ·rename_i g4
         rw[if_pos g4];split at h
         ·rename_i g5
          rw[if_pos g5];have:=ih r.length (by simp at hn;omega) r rfl (i+2) (out++[e]) h;omega
         ·cases h
        ·rename_i g4
         rw[if_neg g4];have:=ih (e::r).length (by simp at hn ⊢;omega) (e::r) rfl (i+1) (out++[c]) h;omega
  have run1 :∀f:UInt8->Bool,f c=true->0 < s9 f (c::r):=λf hf=>by
   unfold s9;rw[D8,if_pos hf];exact Nat.succ_pos _
  unfold A6 at h ⊢;have e:(c::r).getD 0 0=c:=rfl;rw[e] at h ⊢;dsimp only at h ⊢;by_cases c1:c=34
  ·rw[if_pos c1] at h ⊢;have:=key r 1 [] h;show 0 < (M7 r 1 []).1
   omega
  ·rw[if_neg c1] at h ⊢;by_cases c2:P4 c=true
   ·rw[if_pos c2] at h ⊢;have hi:K7 c=true:=by unfold K7;rw[c2];rfl
    split at h
    ·cases h
    ·rename_i g
     rw[if_neg g];exact run1 _ hi
   ·rw[if_neg c2] at h ⊢;by_cases c3:l8 c=true
    ·rw[if_pos c3] at h ⊢;have hk:=run1 l8 c3;have hn:0 < (K5 (c::r)).1:=by
      unfold K5;dsimp only;split
      ·show 0 < s9 l8 (c::r)+1+_;omega
      ·exact hk
     split at h
     ·cases h
     ·rename_i g
      rw[if_neg g];split at h
      ·rename_i g2
       rw[if_pos g2];exact hn
      ·cases h
    ·rw[if_neg c3] at h ⊢;split at h
     ·cases h
     ·rename_i g
      rw[if_neg g];exact F8 g
end Go.Proofs.YtpjhmeicbjkcdaaGreatDoor
namespace Go.Proofs.YtpjhmeicbjkcdaaGreatDoor
def iU (l:e8):Bool:=decide (l.getD 0 0=45) && decide (0 < l.length)
def T0 (l:e8):e8:=if iU l=true then l.drop 1 else l
def W9 (l:e8):Int:=
 if 65536 < l.length then 5 else if T0 l = []\/(T0 l).any (λc=>!l8 c)=true then 14 else if (T0 l).getD 0 0=48/\(1 < (T0 l).length\/iU l=true) then 3 else 0
def L0 (l:e8):e8×e8×Bool:=if s9 (λc=>!decide (c=47)) l < l.length then (l.take (s9 (λc=>!decide (c=47)) l),l.drop (s9 (λc=>!decide (c=47)) l+1),true) else (l,[],false)
def dZ (l:e8):Bool:=decide (l≠[]) && l.all l8
def bB (most:Nat) (l:e8):Int:=
 if most < l.length then 5
 else if (!dZ (T0 (L0 l).1) || (L0 l).2.2 && !dZ (L0 l).2.1)=true then 14
 else if ((L0 l).2.2 && (L0 l).2.1.all λc=>decide (c=48))=true then 19
 else if W9 (L0 l).1≠0 then 3
 else if (L0 l).2.2=false then 0
 else if W9 (L0 l).2.1≠0\/T8 (L0 l).2.1=1\/I5 (T8 (T0 (L0 l).1)) (T8 (L0 l).2.1)≠1 then 3 else 0
theorem EY {c:UInt8} (h:l8 c=true):c≠45/\c≠47:=by
 unfold l8 at h;rw[k6,decide_eq_true_eq,decide_eq_true_eq] at h;refine⟨λe=>?_,λe=>?_⟩ <;> · subst e;revert h;decide
theorem Bm {l:e8} {f:UInt8->Bool} (h:l.all f=true) {i:Nat} (hi:i < l.length):f (l.getD i 0)=true:=by
 rw[i7,i6 hi];exact z6.1 h _ (j0 hi)
theorem wT {l:e8} (h:l.all l8=true):iU l=false/\T0 l=l:=by
 have e:iU l=false:=by
  unfold iU;rcases w6 l.length with g | g
  ·rw[decide_eq_false (show ¬ 0 < l.length by omega),uV]
  ·rw[decide_eq_false (EY (Bm h g)).1,U4]
 exact⟨e,by unfold T0;rw[e];rfl⟩
theorem PA {l:e8} (h:l.all l8=true):l.any (λc=>!l8 c)=false:=by
 rw[J8];intro c hc;rw[z6.1 h c hc];decide
theorem rJ {l:e8} (h:l.all l8=true) (h0:0 < l.length) (h1:l.length<=65536):W9 l=0↔cM l=true:=by
 obtain⟨e1,e2⟩:=wT h;unfold W9 cM;rw[e1,e2,PA h,if_neg om,if_neg (by intro g;rcases g with g | g <;> first | (rw[g] at h0;cases h0) | cases g)];rw[decide_eq_true h0];by_cases c:l.getD 0 0=48/\(1 < l.length\/false=true)
 ·rw[if_pos c];have:1 < l.length:=by rcases c.2 with g | g <;> first | exact g | cases g
  rw[decide_eq_true c.1,decide_eq_false (show ¬ l.length=1 by omega)];simp
 ·rw[if_neg c];simp only[true_iff];by_cases g:l.length=1
  ·rw[decide_eq_true g];rfl
  ·have : ¬ l.getD 0 0=48:=λe=>c ⟨e,.inl om⟩;rw[decide_eq_false this];simp
theorem nD {f:UInt8->Bool} :∀{l:e8},l.all f=true->s9 f l=l.length
 | [],_=>rfl
 | c::l,h=>by
  rw[T6,k6] at h;have:=nD h.2;unfold s9 at *;rw[D8,if_pos h.1,d7,d7,this]
theorem rG {f:UInt8->Bool} :∀{a:e8} {c:UInt8} {b:e8},a.all f=true->f c=false->s9 f (a++c::b)=a.length
 | [],c,b,_,h=>by
  unfold s9;rw[N6,D8,h];rfl
 | d::a,c,b,h,h2=>by
  rw[T6,k6] at h;have:=rG (b:=b) h.2 h2;unfold s9 at *;rw[BT,D8,if_pos h.1,d7,d7,this]
theorem jT {l:e8} (h:l.all l8=true):l.all (λc=>!decide (c=47))=true:=by
 rw[z6] at h ⊢;intro c hc;rw[decide_eq_false (EY (h c hc)).2];rfl
theorem XB {l:e8} (h:l.all l8=true):L0 l=(l,[],false):=by
 unfold L0;rw[nD (jT h),if_neg (nW _)]
theorem XA {a b:e8} (h:a.all l8=true):L0 (a++47::b)=(a,b,true):=by
 unfold L0;rw[rG (jT h) dc,if_pos sQ];simp
theorem IR {l:e8} (h:l.all l8=true):T8 l=0↔(l.all λc=>decide (c=48))=true:=by
 unfold T8;rw[sX];rw[z6] at h ⊢;constructor
 ·intro g c hc;have h1:=g (c.toNat - 48) (G6.2 ⟨c,hc,rfl⟩);have h2:=h c hc;unfold l8 at h2;rw[k6,decide_eq_true_eq,decide_eq_true_eq] at h2;rw[decide_eq_true_eq];apply UInt8.toNat_inj.1;show c.toNat=48
  omega
 ·intro g d hd;obtain⟨c,hc,rfl⟩:=G6.1 hd;have:=g c hc;rw[decide_eq_true_eq] at this;subst this;rfl
theorem GL {l:e8} (h:l.all l8=true) (h0:0 < l.length) (h1:l.length<=400):bB 400 l=0↔bO l l.length=true:=by
 obtain⟨_,e2⟩:=wT h;have hd:dZ l=true:=by unfold dZ;rw[h,decide_eq_true (by intro e;rw[e] at h0;cases h0)];rfl
 have hp:=rJ h h0 om;unfold bB bO;rw[XB h];dsimp only;rw[if_neg om,e2,hd,if_neg dc,if_neg sQ,if_pos rfl];rw[if_pos rfl];by_cases c:W9 l=0
 ·rw[if_neg om];exact⟨λ_=>hp.1 c,λ_=>rfl⟩
 ·rw[if_pos c];exact⟨λg=>(by cases g),λg=>absurd (hp.2 g) c⟩
theorem GK {a b:e8} (ha:a.all l8=true) (hb:b.all l8=true) (h0:0 < a.length) (h1:0 < b.length) (h2:(a++47::b).length<=400):bB 400 (a++47::b)=0↔bO (a++47::b) a.length=true:=by
 obtain⟨_,ea⟩:=wT ha;have hl:(a++47::b).length=a.length+(b.length+1):=sQ
 have hda:dZ a=true:=by unfold dZ;rw[ha,decide_eq_true (by intro e;rw[e] at h0;cases h0)];rfl
 have hdb:dZ b=true:=by unfold dZ;rw[hb,decide_eq_true (by intro e;rw[e] at h1;cases h1)];rfl
 have hpa:=rJ ha h0 om;have hpb:=rJ hb h1 om;have hz:=IR hb;unfold bB bO;rw[XA ha];dsimp only;rw[if_neg om,ea,hda,hdb,if_neg dc,if_neg (show ¬ (a++47::b).length=a.length by omega)];have et:(a++47::b).take a.length=a:=sQ
 have ed:(a++47::b).drop (a.length+1)=b:=by
  rw[List.drop_append];simp
 rw[et,ed,F6];by_cases c1:(b.all λc=>decide (c=48))=true
 ·rw[if_pos c1,hz.2 c1];constructor
  ·intro g;cases g
  ·intro g;simp at g
 ·rw[if_neg c1];have hnz:T8 b≠0:=λe=>c1 (hz.1 e);by_cases c2:W9 a=0
  ·rw[if_neg (show ¬ W9 a≠0 from λg=>g c2),if_neg (show ¬ (true=false) from nofun),hpa.1 c2,F6];by_cases c3:W9 b=0
   ·rw[hpb.1 c3,F6];by_cases c4:T8 b=1
    ·rw[if_pos (.inr (.inl c4)),decide_eq_false (show ¬ 1 < T8 b by omega)];simp
    ·rw[decide_eq_true (show 1 < T8 b by omega),F6];by_cases c5:I5 (T8 a) (T8 b)=1
     ·rw[if_neg (by rintro (g | g | g) <;> first | exact g c3 | exact c4 g | exact g c5),decide_eq_true c5];simp
     ·rw[if_pos (.inr (.inr c5)),decide_eq_false c5];simp
   ·rw[if_pos (.inl c3)];have:cM b=false:=by cases e:cM b with | false=>rfl | true=>exact absurd (hpb.2 e) c3
    rw[this];simp
  ·rw[if_pos c2];have:cM a=false:=by cases e:cM a with | false=>rfl | true=>exact absurd (hpa.2 e) c2
   rw[this];simp
end Go.Proofs.YtpjhmeicbjkcdaaGreatDoor
namespace Go.Proofs
open Go.Shelf
def Tryz.lIB_ren:Go.Shelf.Ren:=⟨λ| 217=>298 | 266=>318 | n=>n,λ| 9=>9 | 5=>5 | 3=>3 | n=>n,λ| n=>n⟩
theorem Tryz.lIB:Go.Proofs.Lays.n217 Tryz.prog Tryz.lIB_ren:={
 mixed:=kr
 f217:=Tryz.func298.trans (congrArg some kr)
 f266:=Tryz.func318.trans (congrArg some kr)
 t3:=Tryz.underlying3
 a3:=Tryz.isAgg3
 z3:=Tryz.sizeOf3
 v3:=Tryz.zeroValue3
 t5:=Tryz.underlying5
 a5:=Tryz.isAgg5
 z5:=Tryz.sizeOf5
 v5:=Tryz.zeroValue5
 t9:=Tryz.underlying9
 a9:=Tryz.isAgg9
 z9:=Tryz.sizeOf9
 v9:=Tryz.zeroValue9 }
end Go.Proofs
namespace Go.Proofs.YtpjhmeicbjkcdaaGreatDoor
open Go Go.RowKit Go.Dw
def Y9 (s p:e8):Bool:=decide (p.length<=s.length) && decide (s.take p.length=p)
theorem dX (s p:e8) (w:World):j6 Tryz.prog 224 #[sv s,sv p] w (v7 w (.bool (Y9 s p))):=by
 have hs:=B6 s;have hp:=B6 p;refine enterZ (cx 18) [sv s,sv p] [.tmp 4] Tryz.func224 ?_;refine d8 (λh1=>?_) λh1=>?_
 ·refine lY cQ rfl rfl 0 p.length (.inl ⟨rfl,rfl⟩) (.inr ⟨_,_,rfl,by rw[hp]⟩) om om ?_;rw[H6];refine W8 ?_;exact⟨[],⟨by unfold Y9;rw[decide_eq_true (show p.length<=s.length by omega),F6],rfl⟩,pk [0]⟩
 ·exact⟨[],⟨by unfold Y9;rw[decide_eq_false (show ¬ p.length<=s.length by omega),U4],rfl⟩,pk [0]⟩
theorem zM (s p:e8) (w:World):j6 Tryz.prog 245 #[sv s,sv p] w (v7 w (.bool (Y9 s p))):=by
 refine enterZ (cx 8) [sv s,sv p] [.tmp 4] Tryz.func245 ?_;refine k7 _ (λw' hm=>dX s p w') ?_;exact⟨[],⟨rfl,rfl⟩,λw' h=>h⟩
theorem GT {s p:e8} (h:Y9 s p=true):p.length<=s.length:=by
 unfold Y9 at h;rw[k6,decide_eq_true_eq] at h;exact h.1
theorem mQ (s p:e8) (w:World):j6 Tryz.prog 134 #[sv s,sv p] w (v7 w (.tuple #[sv (if Y9 s p=true then s.drop p.length else s),.bool (Y9 s p)])):=by
 have h0 :∀w,j6 Tryz.prog 189 #[sv s,sv p] w (v7 w (.tuple #[sv (if Y9 s p=true then s.drop p.length else s),.bool (Y9 s p)])):=by
  intro w;have hp:=B6 p;refine enterZ (cx 15) [sv s,sv p] [.tmp 4,.tmp 5] Tryz.func189 ?_;refine k7 _ (λw' hm=>dX s p w') ?_;refine s8 (λh1=>?_) λh1=>?_
  ·have h1:Y9 s p=false:=by simpa using h1
   exact⟨[],⟨by rw[h1];rfl,rfl⟩,pk [0]⟩
  ·have h1:Y9 s p=true:=by simpa using h1
   have hl:=GT h1;refine lY cQ rfl rfl p.length s.length (.inr ⟨_,_,rfl,by rw[hp]⟩) (.inl ⟨rfl,rfl⟩) hl (k8 _) ?_;rw[p9];exact⟨[],⟨by rw[h1];rfl,rfl⟩,pk [0]⟩
 refine enterZ (cx 11) [sv s,sv p] [.tmp 4,.tmp 5] Tryz.func134 ?_;refine k7 _ (λw' hm=>h0 w') ?_;exact⟨[],⟨rfl,rfl⟩,λw' h=>h⟩
theorem wC (s p:e8) (w:World):j6 Tryz.prog 212 #[sv s,sv p] w (v7 w (sv (if Y9 s p=true then s.drop p.length else s))):=by
 have h0 :∀w,j6 Tryz.prog 248 #[sv s,sv p] w (v7 w (sv (if Y9 s p=true then s.drop p.length else s))):=by
  intro w;have hp:=B6 p;refine enterZ (cx 13) [sv s,sv p] [.tmp 4] Tryz.func248 ?_;refine k7 _ (λw' hm=>dX s p w') ?_;refine s8 (λh1=>?_) λh1=>?_
  ·have hl:=GT h1;refine lY cQ rfl rfl p.length s.length (.inr ⟨_,_,rfl,by rw[hp]⟩) (.inl ⟨rfl,rfl⟩) hl (k8 _) ?_;rw[p9];exact⟨[],⟨by rw[h1];rfl,rfl⟩,pk [0]⟩
  ·exact⟨[],⟨by rw[h1];rfl,rfl⟩,pk [0]⟩
 refine enterZ (cx 8) [sv s,sv p] [.tmp 4] Tryz.func212 ?_;refine k7 _ (λw' hm=>h0 w') ?_;exact⟨[],⟨rfl,rfl⟩,λw' h=>h⟩
def BE (c:UInt8) (l:e8):Int:=if s9 (λd=>!decide (d=c)) l < l.length then (s9 (λd=>!decide (d=c)) l:Nat) else -1
theorem HX (c:UInt8) :∀l:e8,Lib.indexByte l c=BE c l
 | []=>rfl
 | b::l=>by
  have ih:=HX c l;unfold Lib.indexByte;by_cases h:b=c
  ·subst h;rw[if_pos sQ];unfold BE s9;simp
  ·rw[if_neg (by simpa using h),ih];have e:s9 (λd=>!decide (d=c)) (b::l)=s9 (λd=>!decide (d=c)) l+1:=by
    unfold s9;rw[D8,if_pos (by simp[h])];rfl
   unfold BE;rw[e,d7];by_cases h2:s9 (λd=>!decide (d=c)) l < l.length
   ·rw[if_pos h2,if_neg sQ,if_pos om];rfl
   ·rw[if_neg h2,if_pos sQ,if_neg om]
theorem zL (s:e8) (c:UInt8) (w:World):j6 Tryz.prog 298 #[sv s,.int .u8 c.toNat] w (v7 w (iQ (BE c s))):=by
 have hcon:=Any.stringslite_IndexByte Tryz.lIB (bs s) (c.toNat:Int) w;change Calls Tryz.prog 298 _ _ _ at hcon
 refine gC (enters_of Tryz.func298 kr rfl _) hcon ?_;rintro e w' ⟨rfl,rfl⟩;refine⟨?_,Below.refl _ _,k8 _⟩;rw[jV,show (c.toNat:Int).toNat.toUInt8=c by simp,HX]
theorem HV (s:e8) (c:UInt8) (w:World):j6 Tryz.prog 279 #[sv s,sv [c]] w (v7 w (iQ (BE c s))):=by
 have hs:=B6 s;have hp:=B6 [c];refine enterZ (cx 143) [sv s,sv [c]] [.tmp 4] Tryz.func279 ?_;refine W8 ?_;refine d8 (λh2=>?_) λh2=>?_
 ·exact⟨[],⟨by rw[<-h2];unfold BE s9;simp,rfl⟩,pk [0]⟩
 ·refine X0 cQ rfl rfl 0 rfl sQ ?_;refine k7 _ (λw' hm=>zL s c w') ?_;exact⟨[],⟨rfl,rfl⟩,pk [0]⟩
theorem RU (s:e8) (w:World) (hl:s.length < 1000000000):j6 Tryz.prog 210 #[sv s,sv [47]] w (v7 w (.tuple #[sv (L0 s).1,sv (L0 s).2.1,.bool (L0 s).2.2])):=by
 have h0 :∀w,j6 Tryz.prog 247 #[sv s,sv [47]] w (v7 w (.tuple #[sv (L0 s).1,sv (L0 s).2.1,.bool (L0 s).2.2])):=by
  intro w;have hp:=B6 [47];refine enterZ (cx 23) [sv s,sv [47]] [.tmp 4,.tmp 5,.tmp 6] Tryz.func247 ?_;refine k7 _ (λw' hm=>HV s 47 w') ?_;refine d8 (λh1=>?_) λh1=>?_
  ·have h2:s9 (λd=>!decide (d=47)) s < s.length:=by
    unfold BE at h1;split at h1
    ·assumption
    ·omega
   have e1:BE 47 s=(s9 (λd=>!decide (d=47)) s:Nat):=by unfold BE;rw[if_pos h2]
   have e2:L0 s=(s.take (s9 (λd=>!decide (d=47)) s),s.drop (s9 (λd=>!decide (d=47)) s+1),true):=by unfold L0;rw[if_pos h2]
   rw[e1,e2];refine s6.by_order cQ (.take 0 <| .take 1 <| .take 2 <| .take 3 <| .take 4 <| .take 5 <| .take 6 <| .take 7 <| .take 8 <| .take 9 <| .take 10 <| .take 11 <| .done) kr ?_;refine lY cQ rfl rfl 0 (s9 (λd=>!decide (d=47)) s) (.inl ⟨rfl,rfl⟩) (.inr ⟨_,_,rfl,rfl⟩) om om ?_;refine nw (by rw[hp];simp;omega) (by rw[hp];simp;omega) ?_;refine lY cQ rfl rfl (s9 (λd=>!decide (d=47)) s+1) s.length (.inr ⟨_,_,rfl,by rw[hp];simp⟩) (.inl ⟨rfl,rfl⟩) om om ?_;rw[p9,H6];exact⟨[],⟨rfl,rfl⟩,pk [0]⟩
  ·have h2 : ¬ s9 (λd=>!decide (d=47)) s < s.length:=λg=>h1 (by unfold BE;rw[if_pos g];omega);have e2:L0 s=(s,[],false):=by unfold L0;rw[if_neg h2]
   rw[e2];exact⟨[],⟨rfl,rfl⟩,pk [0]⟩
 refine enterZ (cx 13) [sv s,sv [47]] [.tmp 4,.tmp 5,.tmp 6] Tryz.func210 ?_;refine k7 _ (λw' hm=>h0 w') ?_;exact⟨[],⟨rfl,rfl⟩,λw' h=>h⟩
end Go.Proofs.YtpjhmeicbjkcdaaGreatDoor
namespace Go.Proofs
open Go.Shelf
def Tryz.lPu_ren:Go.Shelf.Ren:=⟨λ| 14=>257 | 16=>284 | 17=>285 | 19=>305 | 20=>306 | 21=>307 | 22=>308 | 23=>309 | 24=>310 | 25=>322 | 27=>58 | 26=>323 | 28=>132 | 29=>187 | 30=>219 | 31=>220 | 32=>221 | 33=>222 | 35=>263 | 34=>262 | 36=>264 | 37=>265 | 38=>266 | 39=>292 | 40=>293 | n=>n,λ| 9=>9 | 3=>3 | 22=>248 | 24=>196 | 25=>312 | 4=>4 | 34=>356 | 5=>5 | 36=>135 | 37=>68 | 0=>0 | 39=>358 | 21=>21 | 44=>387 | 47=>239 | 50=>410 | 48=>408 | 2=>2 | 52=>281 | 55=>284 | 59=>319 | 60=>247 | 20=>20 | 61=>320 | 65=>375 | 66=>376 | 67=>206 | n=>n,λ| 0=>8 | 1=>9 | 2=>0 | 3=>3 | 4=>4 | n=>n⟩
theorem Tryz.lPu:Go.Proofs.LaysPu.n14 Tryz.prog Tryz.lPu_ren:={
 mixed:=kr
 f14:=Tryz.func257.trans (congrArg some kr)
 f16:=Tryz.func284.trans (congrArg some kr)
 f17:=Tryz.func285.trans (congrArg some kr)
 f19:=Tryz.func305.trans (congrArg some kr)
 f20:=Tryz.func306.trans (congrArg some kr)
 f21:=Tryz.func307.trans (congrArg some kr)
 f22:=Tryz.func308.trans (congrArg some kr)
 f23:=Tryz.func309.trans (congrArg some kr)
 f24:=Tryz.func310.trans (congrArg some kr)
 f25:=Tryz.func322.trans (congrArg some kr)
 f26:=Tryz.func323.trans (congrArg some kr)
 f27:=Tryz.func58.trans (congrArg some kr)
 f28:=Tryz.func132.trans (congrArg some kr)
 f29:=Tryz.func187.trans (congrArg some kr)
 f30:=Tryz.func219.trans (congrArg some kr)
 f31:=Tryz.func220.trans (congrArg some kr)
 f32:=Tryz.func221.trans (congrArg some kr)
 f33:=Tryz.func222.trans (congrArg some kr)
 f34:=Tryz.func262.trans (congrArg some kr)
 f35:=Tryz.func263.trans (congrArg some kr)
 f36:=Tryz.func264.trans (congrArg some kr)
 f37:=Tryz.func265.trans (congrArg some kr)
 f38:=Tryz.func266.trans (congrArg some kr)
 f39:=Tryz.func292.trans (congrArg some kr)
 f40:=Tryz.func293.trans (congrArg some kr)
 t0:=Tryz.underlying0
 a0:=Tryz.isAgg0
 z0:=Tryz.sizeOf0
 v0:=Tryz.zeroValue0
 i0:=kr
 t2:=Tryz.underlying2
 a2:=Tryz.isAgg2
 z2:=Tryz.sizeOf2
 v2:=Tryz.zeroValue2
 i2:=kr
 t3:=Tryz.underlying3
 a3:=Tryz.isAgg3
 z3:=Tryz.sizeOf3
 v3:=Tryz.zeroValue3
 i3:=kr
 t4:=Tryz.underlying4
 a4:=Tryz.isAgg4
 z4:=Tryz.sizeOf4
 v4:=Tryz.zeroValue4
 i4:=kr
 t5:=Tryz.underlying5
 a5:=Tryz.isAgg5
 z5:=Tryz.sizeOf5
 v5:=Tryz.zeroValue5
 i5:=kr
 t9:=Tryz.underlying9
 a9:=Tryz.isAgg9
 z9:=Tryz.sizeOf9
 v9:=Tryz.zeroValue9
 i9:=kr
 t20:=Tryz.underlying20
 a20:=Tryz.isAgg20
 z20:=Tryz.sizeOf20
 v20:=Tryz.zeroValue20
 i20:=kr
 t21:=Tryz.underlying21
 a21:=Tryz.isAgg21
 z21:=Tryz.sizeOf21
 v21:=Tryz.zeroValue21
 i21:=kr
 t22:=Tryz.underlying248
 a22:=Tryz.isAgg248
 z22:=Tryz.sizeOf248
 v22:=Tryz.zeroValue248
 i22:=kr
 t24:=Tryz.underlying196
 a24:=Tryz.isAgg196
 z24:=Tryz.sizeOf196
 v24:=Tryz.zeroValue196
 i24:=kr
 t25:=Tryz.underlying312
 a25:=Tryz.isAgg312
 z25:=Tryz.sizeOf312
 v25:=Tryz.zeroValue312
 i25:=kr
 t34:=Tryz.underlying356
 a34:=Tryz.isAgg356
 z34:=Tryz.sizeOf356
 v34:=Tryz.zeroValue356
 i34:=kr
 c34:=kr
 t36:=Tryz.underlying135
 a36:=Tryz.isAgg135
 z36:=Tryz.sizeOf135
 v36:=Tryz.zeroValue135
 i36:=kr
 t37:=Tryz.underlying68
 a37:=Tryz.isAgg68
 z37:=Tryz.sizeOf68
 v37:=Tryz.zeroValue68
 i37:=kr
 t39:=Tryz.underlying358
 a39:=Tryz.isAgg358
 z39:=Tryz.sizeOf358
 v39:=Tryz.zeroValue358
 i39:=kr
 t44:=Tryz.underlying387
 a44:=Tryz.isAgg387
 z44:=Tryz.sizeOf387
 v44:=Tryz.zeroValue387
 i44:=kr
 t47:=Tryz.underlying239
 a47:=Tryz.isAgg239
 z47:=Tryz.sizeOf239
 v47:=Tryz.zeroValue239
 i47:=kr
 t48:=Tryz.underlying408
 a48:=Tryz.isAgg408
 z48:=Tryz.sizeOf408
 v48:=Tryz.zeroValue408
 i48:=kr
 t50:=Tryz.underlying410
 a50:=Tryz.isAgg410
 z50:=Tryz.sizeOf410
 v50:=Tryz.zeroValue410
 i50:=kr
 t52:=Tryz.underlying281
 a52:=Tryz.isAgg281
 z52:=Tryz.sizeOf281
 v52:=Tryz.zeroValue281
 i52:=kr
 t55:=Tryz.underlying284
 a55:=Tryz.isAgg284
 z55:=Tryz.sizeOf284
 v55:=Tryz.zeroValue284
 i55:=kr
 t59:=Tryz.underlying319
 a59:=Tryz.isAgg319
 z59:=Tryz.sizeOf319
 v59:=Tryz.zeroValue319
 i59:=kr
 t60:=Tryz.underlying247
 a60:=Tryz.isAgg247
 z60:=Tryz.sizeOf247
 v60:=Tryz.zeroValue247
 i60:=kr
 t61:=Tryz.underlying320
 a61:=Tryz.isAgg320
 z61:=Tryz.sizeOf320
 t65:=Tryz.underlying375
 a65:=Tryz.isAgg375
 z65:=Tryz.sizeOf375
 v65:=Tryz.zeroValue375
 i65:=kr
 t66:=Tryz.underlying376
 a66:=Tryz.isAgg376
 z66:=Tryz.sizeOf376
 v66:=Tryz.zeroValue376
 i66:=kr
 t67:=Tryz.underlying206
 a67:=Tryz.isAgg206
 z67:=Tryz.sizeOf206
 v67:=Tryz.zeroValue206
 i67:=kr
 g0:=kr
 m0:=kr
 g1:=kr
 m1:=kr
 g2:=kr
 m2:=kr
 g3:=kr
 m3:=kr
 g4:=kr
 m4:=by kernel_rfl }
end Go.Proofs
namespace Go.Proofs
open Go.Shelf
def Tryz.lTr_ren:Go.Shelf.Ren:=⟨λ| 160=>213 | 232=>250 | 231=>249 | 227=>251 | 234=>253 | 233=>252 | 236=>255 | 235=>254 | 228=>280 | 271=>283 | 151=>282 | 197=>281 | 120=>304 | 152=>303 | 260=>302 | 137=>320 | 119=>321 | 224=>300 | 225=>299 | 217=>298 | 266=>318 | n=>n,λ| 9=>9 | 4=>4 | 3=>3 | 5=>5 | 117=>308 | 116=>307 | 0=>0 | 124=>311 | 21=>21 | 105=>334 | 46=>135 | 119=>346 | 139=>385 | 138=>384 | n=>n,λ| 3=>6 | 4=>7 | n=>n⟩
theorem Tryz.lTr:Go.Proofs.Lays.n160 Tryz.prog Tryz.lTr_ren:={
 mixed:=kr
 f119:=Tryz.func321.trans (congrArg some kr)
 f120:=Tryz.func304.trans (congrArg some kr)
 f137:=Tryz.func320.trans (congrArg some kr)
 f151:=Tryz.func282.trans (congrArg some kr)
 f152:=Tryz.func303.trans (congrArg some kr)
 f160:=Tryz.func213.trans (congrArg some kr)
 f197:=Tryz.func281.trans (congrArg some kr)
 f217:=Tryz.func298.trans (congrArg some kr)
 f224:=Tryz.func300.trans (congrArg some kr)
 f225:=Tryz.func299.trans (congrArg some kr)
 f227:=Tryz.func251.trans (congrArg some kr)
 f228:=Tryz.func280.trans (congrArg some kr)
 f231:=Tryz.func249.trans (congrArg some kr)
 f232:=Tryz.func250.trans (congrArg some kr)
 f233:=Tryz.func252.trans (congrArg some kr)
 f234:=Tryz.func253.trans (congrArg some kr)
 f235:=Tryz.func254.trans (congrArg some kr)
 f236:=Tryz.func255.trans (congrArg some kr)
 f260:=Tryz.func302.trans (congrArg some kr)
 f266:=Tryz.func318.trans (congrArg some kr)
 f271:=Tryz.func283.trans (congrArg some kr)
 t0:=Tryz.underlying0
 a0:=Tryz.isAgg0
 z0:=Tryz.sizeOf0
 v0:=Tryz.zeroValue0
 t3:=Tryz.underlying3
 a3:=Tryz.isAgg3
 z3:=Tryz.sizeOf3
 v3:=Tryz.zeroValue3
 t4:=Tryz.underlying4
 a4:=Tryz.isAgg4
 z4:=Tryz.sizeOf4
 v4:=Tryz.zeroValue4
 t5:=Tryz.underlying5
 a5:=Tryz.isAgg5
 z5:=Tryz.sizeOf5
 v5:=Tryz.zeroValue5
 t9:=Tryz.underlying9
 a9:=Tryz.isAgg9
 z9:=Tryz.sizeOf9
 v9:=Tryz.zeroValue9
 t21:=Tryz.underlying21
 a21:=Tryz.isAgg21
 z21:=Tryz.sizeOf21
 v21:=Tryz.zeroValue21
 t46:=Tryz.underlying135
 a46:=Tryz.isAgg135
 z46:=Tryz.sizeOf135
 v46:=Tryz.zeroValue135
 t105:=Tryz.underlying334
 a105:=Tryz.isAgg334
 z105:=Tryz.sizeOf334
 v105:=Tryz.zeroValue334
 t116:=Tryz.underlying307
 a116:=Tryz.isAgg307
 z116:=Tryz.sizeOf307
 t117:=Tryz.underlying308
 a117:=Tryz.isAgg308
 z117:=Tryz.sizeOf308
 v117:=Tryz.zeroValue308
 t119:=Tryz.underlying346
 a119:=Tryz.isAgg346
 z119:=Tryz.sizeOf346
 t124:=Tryz.underlying311
 a124:=Tryz.isAgg311
 z124:=Tryz.sizeOf311
 v124:=Tryz.zeroValue311
 t138:=Tryz.underlying384
 a138:=Tryz.isAgg384
 z138:=Tryz.sizeOf384
 v138:=Tryz.zeroValue384
 t139:=Tryz.underlying385
 a139:=Tryz.isAgg385
 z139:=Tryz.sizeOf385
 v139:=Tryz.zeroValue385
 g3:=kr
 g4:=by kernel_rfl }
end Go.Proofs
namespace Go.Proofs.YtpjhmeicbjkcdaaGreatDoor
open Go Go.RowKit Go.Dw
theorem Jt {s:List Ch} {xo yo:Operand} {x y:Bool} {q:TV->Prop} (h:q (.v (.bool (x==y)))) :
  B7 Tryz.prog s (do eqGuard .eql 4 xo yo (.bool x) (.bool y);binOp .eql 4 (.bool x) (.bool y)) q:=by
 refine⟨_,λw _=>?_,h⟩;have hun:(underlying 4).run Tryz.prog w=.ok .bool w:=by simp[underlying,Tryz.underlying4]
 have hg:(eqGuard .eql 4 xo yo (.bool x) (.bool y)).run Tryz.prog w=.ok () w:=by simp[eqGuard]
 rw[Sem.run_bind,hg];simp only[Result.andThen_ok,binOp,Sem.run_bind];unfold Op.equal Op.maxDepth;rw[show (10000:Nat)=9999+1 from rfl];unfold Op.equalIn;simp only[Sem.run_bind,hun,Result.andThen_ok];rfl
def HW (p:Int->Bool) (x:ByteArray):Int:=match (z8 x.size).find? (λi=>p ((x.get! i).toNat:Int)) with
 | some i=>i
 | none=>-1
theorem VW {p:Int->Bool} {x:ByteArray} {k:Nat} (hk:k < x.size) (ho :∀i,i < k->p ((x.get! i).toNat:Int)=false) (h:p ((x.get! k).toNat:Int)=true):HW p x=k:=by
 unfold HW;have:(z8 x.size).find? (λi=>p ((x.get! i).toNat:Int))=some k:=by
  rw[List.find?_range_eq_some];exact⟨h,aP.2 hk,λj hj=>by rw[ho j hj];rfl⟩
 rw[this]
theorem RI {p:Int->Bool} {x:ByteArray} (ho :∀i,i < x.size->p ((x.get! i).toNat:Int)=false):HW p x = -1:=by
 unfold HW;have:(z8 x.size).find? (λi=>p ((x.get! i).toNat:Int))=none:=by
  rw[iL];intro i hi;rw[ho i (aP.1 hi)];simp
 rw[this]
theorem zK (g:Nat) (p:Int->Bool) (x:ByteArray) (w:World) (hp :∀w' (r:Int),j6 Tryz.prog g #[.int .i32 r] w' (v7 w' (.bool (p r)))) (hh :∀r:Int,128<=r->p r=true) :
  j6 Tryz.prog 209 #[.string x,.func (.func g) #[] #[],.bool true] w (v7 w (iQ (HW p x))):=by
 refine enterZ (cx 21) [.string x,.func (.func g) #[] #[],.bool true] [.tmp 6] Tryz.func209 ?_;refine NQ cQ rfl rfl λb=>?_;refine u6.mk Nat (λ_=>[(1,.v (.func (.func g) #[] #[])),(2,.v (.bool true)),(10,.v (pQ b))]) (λk=>[.hp (Hp.whole w),.hp (Hp.one b (.stringIter x k))])
  (λk=>k<=x.size/\∀i,i < k->p ((x.get! i).toNat:Int)=false) (λk=>x.size - k) 0 ⟨f8 _,λi hi=>by omega⟩ (v6.mk (λ_ _ h=>h) rfl rfl) ?_
 rintro k ⟨hk,ho⟩;refine VF (i:=1) rfl (λhlt=>?_) λhge=>?_
 ·obtain⟨r,hr⟩ :∃r:Int,r=((Utf8.decode x k).1:Nat):=⟨_,rfl⟩
  refine k7 (.bool (p r)) (λw' hm=>by rw[hr];exact hp w' _) ?_;refine Jt ?_;have hb:128<=(x.get! k).toNat->p r=true:=λh=>hh r (by have:=Dw.decode_high (x:=x) (i:=k) h;omega);have hl:(x.get! k).toNat < 128->Utf8.decode x k=((x.get! k).toNat,1):=Dw.decode_low;refine s8 (λh=>?_) λh=>?_
  ·have hpr:p r=true:=by simpa using h
   have:p ((x.get! k).toNat:Int)=true:=by
    rcases K8 (x.get! k).toNat 128 with h1 | h1
    ·rw[hl h1] at hr;rw[<-hr];exact hpr
    ·exact hh _ om
   exact⟨[],⟨by rw[VW hlt ho this],rfl⟩,pk [0]⟩
  ·have hpr:p r=false:=by simpa using h
   have h1:(x.get! k).toNat < 128:=by
    rcases K8 (x.get! k).toNat 128 with h1 | h1
    ·exact h1
    ·rw[hb h1] at hpr;cases hpr
   rw[hl h1] at hr ⊢;have hr':r=((x.get! k).toNat:Int):=hr;rw[hr'] at hpr;exact⟨k+1,⟨om,λi hi=>by
    rcases K8 i k with h2 | h2
    ·exact ho i h2
    ·have:i=k:=om
     subst this;exact hpr⟩,om,v6.mk (λ_ _ h=>h) rfl rfl⟩
 ·exact⟨[],⟨by rw[RI λi hi=>ho i om],rfl⟩,pk [0]⟩
theorem qX (g:Nat) (p:Int->Bool) (x:ByteArray) (w:World) (hp :∀w' (r:Int),j6 Tryz.prog g #[.int .i32 r] w' (v7 w' (.bool (p r)))) (hh :∀r:Int,128<=r->p r=true) :
  j6 Tryz.prog 178 #[.string x,.func (.func g) #[] #[]] w (v7 w (iQ (HW p x))):=by
 refine enterZ (cx 8) [.string x,.func (.func g) #[] #[]] [.tmp 4] Tryz.func178 ?_;refine k7 _ (λw' _=>zK g p x w' hp hh) ?_;exact⟨[],⟨rfl,rfl⟩,λw' h=>h⟩
theorem VX (p:Int->Bool) (x:ByteArray):decide (HW p x>=0)=(z8 x.size).any λi=>p ((x.get! i).toNat:Int):=by
 unfold HW;cases h:(z8 x.size).find? (λi=>p ((x.get! i).toNat:Int)) with
 | none=>
  rw[iL] at h;symm
  rw[decide_eq_false dc,J8];intro i hi;exact h i hi
 | some i=>
  have:=List.find?_some h;have hm:=Ml h;dsimp only;rw[decide_eq_true om];symm
  rw[E6];exact⟨i,hm,this⟩
theorem lL (g:Nat) (p:Int->Bool) (x:ByteArray) (w:World) (hp :∀w' (r:Int),j6 Tryz.prog g #[.int .i32 r] w' (v7 w' (.bool (p r)))) (hh :∀r:Int,128<=r->p r=true) :
  j6 Tryz.prog 108 #[.string x,.func (.func g) #[] #[]] w (v7 w (.bool ((z8 x.size).any λi=>p ((x.get! i).toNat:Int)))):=by
 rw[<-VX];refine enterZ (cx 9) [.string x,.func (.func g) #[] #[]] [.tmp 4] Tryz.func108 ?_;refine k7 _ (λw' _=>qX g p x w' hp hh) ?_;exact⟨[],⟨rfl,rfl⟩,λw' h=>h⟩
theorem Mb (M:Nat) (hM:M < 18446744073709551616) :∀(l:e8) (acc:Nat),l.all l8=true->acc*10 ^ l.length+T8 l<=M->Lib.parseUintM M acc l=.ok (acc*10 ^ l.length+T8 l)
 | [],acc,_,_=>by
  show Lib.NumEnd.ok acc=.ok (acc*10 ^ 0+T8 [])
  congr 1
  simp[T8,gK]
 | c::r,acc,h,hle=>by
  rw[T6,k6] at h;have hc:=h.1;unfold l8 at hc;rw[k6,decide_eq_true_eq,decide_eq_true_eq] at hc;have e:T8 (c::r)=(c.toNat - 48)*10 ^ r.length+T8 r:=by
   unfold T8;have:=fZ [c.toNat - 48] (r.map λc=>c.toNat - 48);rw[l7] at this;rw[N7];show gK ([c.toNat - 48]++_)=_
   rw[this];simp[gK]
  have e2:acc*10 ^ (r.length+1)+((c.toNat - 48)*10 ^ r.length+T8 r)=(acc*10+(c.toNat - 48))*10 ^ r.length+T8 r:=by
   rw[O3,D9,q8 (10 ^ r.length) 10,<-A0];omega
  have hl:(c::r).length=r.length+1:=rfl;rw[hl,e,e2] at hle ⊢;have hp:1<=10 ^ r.length:=MU dc;have h3:(acc*10+(c.toNat - 48))*1<=(acc*10+(c.toNat - 48))*10 ^ r.length:=B8 _ hp;unfold Lib.parseUintM;rw[if_pos ⟨hc.1,hc.2⟩,if_neg om,if_neg om];exact Mb M hM r _ h.2 hle
theorem AD {l:e8} (h:l.all l8=true):T8 l < 10 ^ l.length:=by
 unfold T8;have:=WY (l:=l.map λc=>c.toNat - 48) λd hd=>by
  obtain⟨c,hc,rfl⟩:=G6.1 hd;have:=z6.1 h c hc;unfold l8 at this;rw[k6,decide_eq_true_eq,decide_eq_true_eq] at this;omega
 rwa [l7] at this
theorem mB (s:e8) (h:s.all l8=true) (h0:0 < s.length) (h9:s.length<=9) (w:World):j6 Tryz.prog 257 #[sv s,iQ 10,iQ 32] w (v7 w (.tuple #[.int .u64 (T8 s:Nat),.nilIface])):=by
 have hlt:=AD h;have h10:10 ^ s.length<=10 ^ 9:=I4 dc h9;have hp:=Mb (2 ^ 32 - 1) dc s 0 h (by rw[Z4,y8];omega);rw[Z4,y8] at hp;have hu:Lib.parseUintB 32 (bs s).data.toList=.ok (T8 s):=by
  rw[jV];unfold Lib.parseUintB;rw[if_neg (by intro e;rw[e] at h0;cases h0)];exact hp
 have hcon:=Any.strconv_ParseUint_10_at32_ok Tryz.lPu (bs s) (by rw[B6];omega) (T8 s) hu w;change Calls Tryz.prog 257 _ _ _ at hcon
 refine gC (enters_of Tryz.func257 kr rfl _) hcon ?_;rintro e w' ⟨rfl,hw⟩;rcases hw with rfl | rfl
 ·exact⟨rfl,Below.refl _ _,k8 _⟩
 ·refine⟨rfl,?_,?_⟩
  ·exact Lib.below_freeze ((Below.refl w.heap.size w).drew.alloc (k8 _) _) (k8 _) _
  ·unfold Lib.bytesWorld World.freeze;split
   ·exact Nat.le_succ _
   ·exact Nat.le_succ _
theorem nP {f:UInt8->Bool} :∀{l:e8},l.dropWhile f = []↔l.all f=true
 | []=>by simp
 | c::l=>by
  rw[List.dropWhile_cons,T6];by_cases h:f c=true
  ·rw[if_pos h,h,F6];exact nP
  ·rw[if_neg h];constructor
   ·intro g;cases g
   ·intro g;rw[k6] at g;exact absurd g.1 h
theorem FU {l cs:e8}:Lib.trimS l cs = []↔l.all (λc=>cs.contains c)=true:=by
 unfold Lib.trimS Lib.trimLeftS;rw[nP];unfold Lib.trimRightS;rw[List.all_reverse];constructor
 ·intro h;have h2:(l.reverse.dropWhile λc=>cs.contains c) = []:=by
   cases hd:l.reverse.dropWhile (λc=>cs.contains c) with
   | nil=>rfl
   | cons c r=>
    have hn:cs.contains c=false:=by
     have:=List.head?_dropWhile_not (λc=>cs.contains c) l.reverse;rw[hd] at this;simpa using this
    rw[hd] at h;rw[T6,hn] at h;cases h
  rw[nP,List.all_reverse] at h2;exact h2
 ·intro h;rw[<-List.all_reverse,<-nP] at h;rw[h];rfl
theorem JS (s cs:e8) (hs:s.length < 1000000) (h2:2<=cs.length) (hcs:cs.length < 1000) (ha:cs.all (λb=>decide (b.toNat < 128))=true) (w:World):j6 Tryz.prog 213 #[sv s,sv cs] w (v7 w (sv (Lib.trimS s cs))):=by
 have he:=enters_of (args:=#[sv s,sv cs]) Tryz.func213 kr rfl;by_cases h0:s.length=0
 ·have hcon:=Any.strings_Trim_empty Tryz.lTr (bs s) (bs cs) w (.inl (by rw[B6];exact h0));change Calls Tryz.prog 213 _ _ _ at hcon
  refine gC he hcon ?_;rintro e w' ⟨rfl,rfl⟩;have:s = []:=w9 h0;subst this;exact⟨rfl,Below.refl _ _,k8 _⟩
 ·have h116:(Tryz.prog.info? (Tryz.lTr_ren.t 116)).map (λi=>(i.zero,i.size))=some (some (.agg (Array.replicate 256 (.bool false))),256):=kr
  have hcon:=Any.strings_Trim_set Tryz.lTr (zero_of_info h116).1 (zero_of_info h116).2 (bs s) (bs cs) w (by rw[B6];exact h2) (by rw[B6];omega) (by rw[B6];omega) (by rw[B6];omega) (by rw[jV];exact ascii_of_all ha);change Calls Tryz.prog 213 _ _ _ at hcon
  refine gC he hcon ?_;rintro e w' ⟨rfl,q,rfl⟩;refine⟨rfl,?_,?_⟩
  ·exact (((Below.refl _ _).alloc (k8 _) _).alloc sQ _).trans ⟨rfl,rfl,rfl,k8 _,λ_ _=>rfl⟩
  ·exact aO _ _
theorem JT (s:e8) (c:UInt8) (hs:s.length < 1000000) (ha:c.toNat < 128) (w:World):j6 Tryz.prog 213 #[sv s,sv [c]] w (v7 w (sv (Lib.trimS s [c]))):=by
 have he:=enters_of (args:=#[sv s,sv [c]]) Tryz.func213 kr rfl;have hcon:=Any.strings_Trim_one Tryz.lTr (bs s) c ha w (by rw[B6];omega);change Calls Tryz.prog 213 _ _ _ at hcon
 refine gC he hcon ?_;rintro e w' ⟨rfl,hw⟩;rw[Lib.trimS_one];rcases hw with rfl | rfl
 ·exact⟨rfl,Below.refl _ _,k8 _⟩
 ·exact⟨rfl,(Below.refl _ _).drew,Nat.le_succ _⟩
end Go.Proofs.YtpjhmeicbjkcdaaGreatDoor
namespace Go.Dw
open Go Go.RowKit
theorem Cb {P:Program} {s:List Ch} {ty:Nat} (a b:Nat) {k:IntKind} {x y:Int} (hx:x=a) (hy:y=b) (hb:0 < b) {q:TV->Prop} (h:q (.v (.int k ((a % b:Nat):Int)))):B7 P s (binOp .rem ty (.int k x) (.int k y)) q:=by
 subst hx hy;refine⟨_,λw _=>?_,h⟩;have h0 : ¬ b=0:=om
 rw[Int.natCast_emod];simp[binOp,Op.intDiv,h0];exact Lu (S4 _)
end Go.Dw
namespace Go.Proofs.YtpjhmeicbjkcdaaGreatDoor
open Go Go.RowKit Go.Dw
theorem yM (s:e8) (c:UInt8):Y9 s [c]=(decide (s.getD 0 0=c) && decide (0 < s.length)):=by
 cases s with
 | nil=>unfold Y9;simp
 | cons d r=>
  unfold Y9;rw[L6];simp
theorem BK (s:e8) (w:World):j6 Tryz.prog 134 #[sv s,sv [45]] w (v7 w (.tuple #[sv (T0 s),.bool (iU s)])):=by
 have h:=mQ s [45] w;have e:Y9 s [45]=iU s:=yM s 45;rw[e] at h;exact h
theorem Fq (f:UInt8->Bool) (l:e8):((z8 (bs l).size).any λi=>f ((bs l).get! i))=l.any f:=by
 rw[L6,E6,E6];constructor
 ·rintro⟨i,hi,h⟩;have hi:i < l.length:=by rw[<-B6];exact aP.1 hi
  rw[MK hi] at h;exact⟨_,j0 hi,h⟩
 ·rintro⟨c,hc,h⟩;obtain⟨i,hi,rfl⟩:=Q1.1 hc;exact⟨i,aP.2 (by rw[B6];exact hi),by rw[MK hi];exact h⟩
def vN (r:Int):Bool:=decide (r < 48) || decide (r > 57)
theorem LC (c:UInt8):vN (c.toNat:Int) = !l8 c:=by
 unfold vN l8;rw[L6];simp;omega
theorem GW (r:Int) (w:World):j6 Tryz.prog 256 #[.int .i32 r] w (v7 w (.bool (vN r))):=by
 refine enterZ (cx 9) [.int .i32 r] [.tmp 2] Tryz.func256 ?_;refine d8 (λh1=>?_) λh1=>?_
 ·exact⟨[],⟨by unfold vN;rw[decide_eq_true h1];rfl,rfl⟩,pk [0]⟩
 ·exact⟨[],⟨by unfold vN;rw[decide_eq_false h1];rfl,rfl⟩,pk [0]⟩
theorem FC (s:e8) (w:World):j6 Tryz.prog 108 #[sv s,.func (.func 256) #[] #[]] w (v7 w (.bool (s.any λc=>!l8 c))):=by
 have h:=lL 256 vN (bs s) w (λw' r=>GW r w') (λr hr=>by unfold vN;rw[decide_eq_true (show r > 57 by omega),kB]);have e:((z8 (bs s).size).any λi=>vN (((bs s).get! i).toNat:Int))=s.any λc=>!l8 c:=by
  rw[<-Fq];congr 1
  funext i
  exact LC _
 rw[e] at h;exact h
theorem aN (a b:e8):T8 (a++b)=T8 a*10 ^ b.length+T8 b:=by
 unfold T8;rw[E9,fZ,l7]
theorem EZ {l:e8} (h:l.all l8=true) (h0:0 < l.length) (h1:l.getD 0 0≠48):0 < T8 l:=by
 unfold T8;refine Bb (λd hd=>?_) (by rw[l7];exact h0) ?_
 ·obtain⟨c,hc,rfl⟩:=G6.1 hd;have:=z6.1 h c hc;unfold l8 at this;rw[k6,decide_eq_true_eq,decide_eq_true_eq] at this;omega
 ·cases l with
  | nil=>cases h0
  | cons c r=>
   have hc:=z6.1 h c sQ;unfold l8 at hc;rw[k6,decide_eq_true_eq,decide_eq_true_eq] at hc;intro e;have e:c.toNat - 48=0:=e;apply h1;show c=48
   apply UInt8.toNat_inj.1;show c.toNat=48
   omega
theorem wZ (h:Hp):bT h zl 0:=⟨_,_,_,[],rfl,Sl.nil _ _ _ _ _,fG.nil,sQ⟩
def Iw (s:e8) (g:Hp) (v:Value):Prop:=∃neg a n c m,v=.tuple #[U9 neg a n c,iQ (W9 s)]/\bT g (.slice a n c) m/\(neg=true->0 < m)/\(W9 s=0->neg=iU s/\m=T8 (T0 s))/\(W9 s≠0->neg=false/\m=0)
theorem yO {s:e8} (h:W9 s≠0) (g:Hp):Iw s g (.tuple #[U9 false none 0 0,iQ (W9 s)]):=
 ⟨false,none,0,0,0,rfl,wZ g,nofun,λe=>absurd e h,λ_=>⟨rfl,rfl⟩⟩
set_option maxRecDepth 10000 in
theorem iF (s:e8) (hs:s.length < 1000000000) (w:World) :
  j6 Tryz.prog 214 #[sv s] w (fD w λv cs=>∃g,cs = [.hp g]/\Iw s g v):=by
 have hsz:=B6 s;refine enterZ (cx 71) [sv s] [.cell 2 139,.tmp 3] Tryz.func214 ?_;intro b2;refine d8 (λh1=>?_) λh1=>?_
 ·have e:W9 s=5:=by unfold W9;rw[if_pos om]
  exact⟨[.hp Hp.emp],⟨_,rfl,by have:=yO (s:=s) (by rw[e];decide) Hp.emp;rw[e] at this;exact this⟩,λw' h=>(h.pick [0] rfl rfl).emp⟩
 ·refine k7 _ (λw' hm=>BK s w') ?_;generalize hD:T0 s=D;generalize hB:iU s=B;have hDl:D.length<=s.length:=by rw[<-hD];unfold T0;split <;> simp
  have hDz:=B6 D;refine W8 (b:=[]) ?_;refine d8 (λh2=>?_) λh2=>?_;focus
   have e:W9 s=14:=by unfold W9;rw[if_neg om,hD,if_pos (.inl h2)]
  rotate_left
  focus
   refine k7 _ (λw' hm=>FC D w') ?_;refine s8 (λh3=>?_) λh3=>?_;focus
    have e:W9 s=14:=by unfold W9;rw[if_neg om,hD,if_pos (.inr h3)]
   rotate_left
   ·have hall:D.all l8=true:=by
     rw[z6];intro c hc;have:=J8.1 h3 c hc;simpa using this
    have hE:W9 s=if D.getD 0 0=48/\(1 < D.length\/B=true) then 3 else 0:=by
     have hno : ¬ (T0 s = []\/(T0 s).any (λc=>!l8 c)=true):=by
      rw[hD,h3];intro g;rcases g with g | g
      ·exact h2 g
      ·cases g
     unfold W9;rw[if_neg om,if_neg hno,hD,hB]
    have h0:0 < D.length:=G2.2 h2;refine X0 cQ rfl rfl 0 rfl h0 ?_;refine d8 (λh5=>?_) λh5=>?_
    ·have h5:D.getD 0 0=48:=UInt8.toNat_inj.1 (by show (D.getD 0 0).toNat=48;omega);refine d8 (λh6=>?_) λh6=>?_;focus
      have e:W9 s=3:=by rw[hE,if_pos ⟨h5,.inl om⟩]
     rotate_left
     focus
      refine s8 (λh7=>?_) λh7=>?_;focus
       have e:W9 s=3:=by rw[hE,if_pos ⟨h5,.inr h7⟩]
      rotate_left
      ·have he:W9 s=0:=by
        rw[hE,if_neg];intro g;rcases g.2 with g | g
        ·omega
        ·rw[h7] at g;cases g
       have hneg:B=true->0 < T8 D:=λg=>by rw[h7] at g;cases g
       refine u6.mk (Nat×(Option Addr×Nat×Nat)×List Nat×Hp) (λg=>[(2,.bx 1 0),(4,.v (sv (D.drop g.1))),(5,.v (.bool B)),(6,.v (.slice g.2.1.1 g.2.1.2.1 g.2.1.2.2))]) (λg=>[.hp (Hp.whole w),.box b2 [.bool false,zl] 139,.hp g.2.2.2])
        (λg=>g.1<=D.length/\Sl (B0 fW) 1 g.2.2.2 g.2.1.1 g.2.1.2.1 g.2.1.2.2 g.2.2.1/\fG g.2.2.1 (T8 (D.take g.1))/\g.2.2.1.length<=g.1) (λg=>D.length - g.1) (0,(none,0,0),[],Hp.emp) ⟨f8 _,Sl.nil _ _ _ _ _,fG.nil,k8 _⟩ (v6.mk (λ_ _ h=>h.emp) rfl rfl) ?_
       rintro⟨k,⟨ax,nx,cx'⟩,L,G⟩ ⟨hk,hL,hC,hLl⟩;dsimp only at *;have hrl:=B6 (D.drop k);rw[k9] at hrl;refine d8 (λh8=>?_) λh8=>?_
       ·have hk':k < D.length:=om
        obtain⟨n,hn⟩ :∃n,n=(D.length - k - 1) % 9+1:=⟨_,rfl⟩
        have hn9:n<=9:=om
        have hnk:k+n<=D.length:=om
        refine nwo ?_;refine Cb (D.length - k - 1) 9 om rfl dc ?_;refine tY (y:=((n:Nat):Int)) om om om ?_;refine u6.mk (Nat×Int) (λg=>[(2,.bx 1 0),(4,.v (sv (D.drop k))),(5,.v (.bool B)),(6,.v (.slice ax nx cx')),(7,.v (iQ n)),(8,.v (.int .u32 ((10 ^ g.1:Nat):Int))),(47,.v (iQ n)),(48,.v (iQ g.2))]) (λ_=>[.hp (Hp.whole w),.box b2 [.bool false,zl] 139,.hp G])
         (λg=>g.1<=n/\g.2=g.1) (λg=>n - g.1) (0,0) ⟨f8 _,rfl⟩ (v6.mk (λ_ _ h=>h) rfl rfl) ?_
        rintro⟨j,zj⟩ ⟨hj,hzj⟩;dsimp only at *;have hpj:10 ^ j<=10 ^ 9:=I4 dc om;refine d8 (λh9=>?_) λh9=>?_
        ·have hpj1:10 ^ (j+1)<=10 ^ 9:=I4 dc om;refine pC (10 ^ (j+1)) (by rw[O3];simp) om ?_;refine nwo ?_;exact⟨(j+1,zj+1),⟨by dsimp only;omega,by dsimp only;omega⟩,by dsimp only;omega,v6.mk (λ_ _ h=>h) rfl rfl⟩
        ·have hjn:j=n:=om
         subst hjn;have hgl:((D.drop k).take j).length=j:=by rw[j8,k9];omega
         have hga:((D.drop k).take j).all l8=true:=by
          rw[z6] at hall ⊢;exact λc hc=>hall c (E8 (C6 hc))
         have hgv:=AD hga;rw[hgl] at hgv;refine lY cQ rfl rfl 0 j (.inl ⟨rfl,rfl⟩) (.inr ⟨_,_,rfl,rfl⟩) om (by rw[k9];omega) ?_;rw[H6];refine k7 _ (λw' hm=>mB ((D.drop k).take j) hga om om w') ?_;refine pC (T8 ((D.drop k).take j)) rfl om ?_;refine call (λw' hm=>yE w' (10 ^ j) (T8 ((D.drop k).take j)) (hL.mono (j7 _) (hm 2 _ rfl)) hC om (by unfold Bs;omega) (by unfold Bs;omega)) ?_;rintro _ _ ⟨g,a',n',c',L',rfl,rfl,hL',hC',hl'⟩;refine lY cQ rfl rfl j (D.drop k).length (.inr ⟨_,_,rfl,rfl⟩) (.inl ⟨rfl,rfl⟩) (by rw[k9];omega) (k8 _) ?_;rw[p9,R2];have et:T8 (D.take k)*10 ^ j+T8 ((D.drop k).take j)=T8 (D.take (k+j)):=by
          rw[SR,aN,hgl]
         rw[et] at hC';exact⟨(k+j,(a',n',c'),L',g),⟨by dsimp only;omega,hL',hC',by dsimp only;omega⟩,by dsimp only;omega,v6.mk (pj [0,1,3]) rfl rfl⟩
       ·have hkl:k=D.length:=om
        subst hkl;rw[p9] at hC;refine k7 _ (λw' hm=>aV B w' (hL.mono (j7 _) (hm 2 _ rfl)) om) ?_;rw[hC.trN];have hb:(B && decide (0 < L.length))=B:=by
         cases hBB:B with
         | false=>rfl
         | true=>
          have:=hneg hBB;rw[decide_eq_true (F8 λe=>by
           have:=hC.zero.2 (w9 e);omega)];rfl
        rw[hb];have hLn:=hL.len;subst hLn;exact⟨[.hp G],⟨G,rfl,B,ax,L.length,cx',T8 D,by rw[he];rfl,⟨_,_,_,L,rfl,hL,hC,om⟩,hneg,λ_=>⟨by rw[hB],by rw[hD]⟩,λg=>absurd he g⟩,pk [0,2]⟩
     all_goals
      exact⟨[.hp Hp.emp],⟨_,rfl,by have:=yO (s:=s) (by rw[e];decide) Hp.emp;rw[e] at this;exact this⟩,λw' h=>(h.pick [0] rfl rfl).emp⟩
    ·have h5 : ¬ D.getD 0 0=48:=λg=>h5 (by rw[g];rfl);have he:W9 s=0:=by rw[hE,if_neg (λg=>h5 g.1)]
     have hneg:B=true->0 < T8 D:=λ_=>EZ hall h0 h5;refine u6.mk (Nat×(Option Addr×Nat×Nat)×List Nat×Hp) (λg=>[(2,.bx 1 0),(4,.v (sv (D.drop g.1))),(5,.v (.bool B)),(6,.v (.slice g.2.1.1 g.2.1.2.1 g.2.1.2.2))]) (λg=>[.hp (Hp.whole w),.box b2 [.bool false,zl] 139,.hp g.2.2.2])
      (λg=>g.1<=D.length/\Sl (B0 fW) 1 g.2.2.2 g.2.1.1 g.2.1.2.1 g.2.1.2.2 g.2.2.1/\fG g.2.2.1 (T8 (D.take g.1))/\g.2.2.1.length<=g.1) (λg=>D.length - g.1) (0,(none,0,0),[],Hp.emp) ⟨f8 _,Sl.nil _ _ _ _ _,fG.nil,k8 _⟩ (v6.mk (λ_ _ h=>h.emp) rfl rfl) ?_
     rintro⟨k,⟨ax,nx,cx'⟩,L,G⟩ ⟨hk,hL,hC,hLl⟩;dsimp only at *;have hrl:=B6 (D.drop k);rw[k9] at hrl;refine d8 (λh8=>?_) λh8=>?_
     ·have hk':k < D.length:=om
      obtain⟨n,hn⟩ :∃n,n=(D.length - k - 1) % 9+1:=⟨_,rfl⟩
      have hn9:n<=9:=om
      have hnk:k+n<=D.length:=om
      refine nwo ?_;refine Cb (D.length - k - 1) 9 om rfl dc ?_;refine tY (y:=((n:Nat):Int)) om om om ?_;refine u6.mk (Nat×Int) (λg=>[(2,.bx 1 0),(4,.v (sv (D.drop k))),(5,.v (.bool B)),(6,.v (.slice ax nx cx')),(7,.v (iQ n)),(8,.v (.int .u32 ((10 ^ g.1:Nat):Int))),(47,.v (iQ n)),(48,.v (iQ g.2))]) (λ_=>[.hp (Hp.whole w),.box b2 [.bool false,zl] 139,.hp G])
       (λg=>g.1<=n/\g.2=g.1) (λg=>n - g.1) (0,0) ⟨f8 _,rfl⟩ (v6.mk (λ_ _ h=>h) rfl rfl) ?_
      rintro⟨j,zj⟩ ⟨hj,hzj⟩;dsimp only at *;have hpj:10 ^ j<=10 ^ 9:=I4 dc om;refine d8 (λh9=>?_) λh9=>?_
      ·have hpj1:10 ^ (j+1)<=10 ^ 9:=I4 dc om;refine pC (10 ^ (j+1)) (by rw[O3];simp) om ?_;refine nwo ?_;exact⟨(j+1,zj+1),⟨by dsimp only;omega,by dsimp only;omega⟩,by dsimp only;omega,v6.mk (λ_ _ h=>h) rfl rfl⟩
      ·have hjn:j=n:=om
       subst hjn;have hgl:((D.drop k).take j).length=j:=by rw[j8,k9];omega
       have hga:((D.drop k).take j).all l8=true:=by
        rw[z6] at hall ⊢;exact λc hc=>hall c (E8 (C6 hc))
       have hgv:=AD hga;rw[hgl] at hgv;refine lY cQ rfl rfl 0 j (.inl ⟨rfl,rfl⟩) (.inr ⟨_,_,rfl,rfl⟩) om (by rw[k9];omega) ?_;rw[H6];refine k7 _ (λw' hm=>mB ((D.drop k).take j) hga om om w') ?_;refine pC (T8 ((D.drop k).take j)) rfl om ?_;refine call (λw' hm=>yE w' (10 ^ j) (T8 ((D.drop k).take j)) (hL.mono (j7 _) (hm 2 _ rfl)) hC om (by unfold Bs;omega) (by unfold Bs;omega)) ?_;rintro _ _ ⟨g,a',n',c',L',rfl,rfl,hL',hC',hl'⟩;refine lY cQ rfl rfl j (D.drop k).length (.inr ⟨_,_,rfl,rfl⟩) (.inl ⟨rfl,rfl⟩) (by rw[k9];omega) (k8 _) ?_;rw[p9,R2];have et:T8 (D.take k)*10 ^ j+T8 ((D.drop k).take j)=T8 (D.take (k+j)):=by
        rw[SR,aN,hgl]
       rw[et] at hC';exact⟨(k+j,(a',n',c'),L',g),⟨by dsimp only;omega,hL',hC',by dsimp only;omega⟩,by dsimp only;omega,v6.mk (pj [0,1,3]) rfl rfl⟩
     ·have hkl:k=D.length:=om
      subst hkl;rw[p9] at hC;refine k7 _ (λw' hm=>aV B w' (hL.mono (j7 _) (hm 2 _ rfl)) om) ?_;rw[hC.trN];have hb:(B && decide (0 < L.length))=B:=by
       cases hBB:B with
       | false=>rfl
       | true=>
        have:=hneg hBB;rw[decide_eq_true (F8 λe=>by
         have:=hC.zero.2 (w9 e);omega)];rfl
      rw[hb];have hLn:=hL.len;subst hLn;exact⟨[.hp G],⟨G,rfl,B,ax,L.length,cx',T8 D,by rw[he];rfl,⟨_,_,_,L,rfl,hL,hC,om⟩,hneg,λ_=>⟨by rw[hB],by rw[hD]⟩,λg=>absurd he g⟩,pk [0,2]⟩
  all_goals
   exact⟨[.hp Hp.emp],⟨_,rfl,by have:=yO (s:=s) (by rw[e];decide) Hp.emp;rw[e] at this;exact this⟩,λw' h=>(h.pick [0] rfl rfl).emp⟩
end Go.Proofs.YtpjhmeicbjkcdaaGreatDoor
namespace Go.Proofs
open Go.Shelf
def Tryz.lIt_ren:Go.Shelf.Ren:=⟨λ| 171=>58 | 243=>132 | 246=>187 | 283=>219 | 284=>220 | 285=>221 | 286=>222 | 129=>263 | 317=>262 | 318=>264 | 319=>265 | 320=>266 | 337=>292 | 338=>293 | n=>n,λ| 3=>3 | 9=>9 | 2=>2 | 4=>4 | 171=>281 | 0=>0 | 53=>248 | 37=>68 | 5=>5 | 173=>284 | 212=>319 | 51=>247 | 20=>20 | 213=>320 | 46=>135 | 232=>375 | 233=>376 | n=>n,λ| 17=>0 | 18=>3 | 19=>4 | n=>n⟩
theorem Tryz.lIt:Go.Proofs.LaysM.n171 Tryz.prog Tryz.lIt_ren:={
 mixed:=kr
 f129:=Tryz.func263.trans (congrArg some kr)
 f171:=Tryz.func58.trans (congrArg some kr)
 f243:=Tryz.func132.trans (congrArg some kr)
 f246:=Tryz.func187.trans (congrArg some kr)
 f283:=Tryz.func219.trans (congrArg some kr)
 f284:=Tryz.func220.trans (congrArg some kr)
 f285:=Tryz.func221.trans (congrArg some kr)
 f286:=Tryz.func222.trans (congrArg some kr)
 f317:=Tryz.func262.trans (congrArg some kr)
 f318:=Tryz.func264.trans (congrArg some kr)
 f319:=Tryz.func265.trans (congrArg some kr)
 f320:=Tryz.func266.trans (congrArg some kr)
 f337:=Tryz.func292.trans (congrArg some kr)
 f338:=Tryz.func293.trans (congrArg some kr)
 t0:=Tryz.underlying0
 a0:=Tryz.isAgg0
 z0:=Tryz.sizeOf0
 v0:=Tryz.zeroValue0
 t2:=Tryz.underlying2
 a2:=Tryz.isAgg2
 z2:=Tryz.sizeOf2
 v2:=Tryz.zeroValue2
 t3:=Tryz.underlying3
 a3:=Tryz.isAgg3
 z3:=Tryz.sizeOf3
 v3:=Tryz.zeroValue3
 t4:=Tryz.underlying4
 a4:=Tryz.isAgg4
 z4:=Tryz.sizeOf4
 v4:=Tryz.zeroValue4
 t5:=Tryz.underlying5
 a5:=Tryz.isAgg5
 z5:=Tryz.sizeOf5
 v5:=Tryz.zeroValue5
 t9:=Tryz.underlying9
 a9:=Tryz.isAgg9
 z9:=Tryz.sizeOf9
 v9:=Tryz.zeroValue9
 t20:=Tryz.underlying20
 a20:=Tryz.isAgg20
 z20:=Tryz.sizeOf20
 v20:=Tryz.zeroValue20
 t37:=Tryz.underlying68
 a37:=Tryz.isAgg68
 z37:=Tryz.sizeOf68
 v37:=Tryz.zeroValue68
 t46:=Tryz.underlying135
 a46:=Tryz.isAgg135
 z46:=Tryz.sizeOf135
 v46:=Tryz.zeroValue135
 t51:=Tryz.underlying247
 a51:=Tryz.isAgg247
 z51:=Tryz.sizeOf247
 v51:=Tryz.zeroValue247
 t53:=Tryz.underlying248
 a53:=Tryz.isAgg248
 z53:=Tryz.sizeOf248
 v53:=Tryz.zeroValue248
 t171:=Tryz.underlying281
 a171:=Tryz.isAgg281
 z171:=Tryz.sizeOf281
 v171:=Tryz.zeroValue281
 t173:=Tryz.underlying284
 a173:=Tryz.isAgg284
 z173:=Tryz.sizeOf284
 v173:=Tryz.zeroValue284
 t212:=Tryz.underlying319
 a212:=Tryz.isAgg319
 z212:=Tryz.sizeOf319
 v212:=Tryz.zeroValue319
 t213:=Tryz.underlying320
 a213:=Tryz.isAgg320
 z213:=Tryz.sizeOf320
 t232:=Tryz.underlying375
 a232:=Tryz.isAgg375
 z232:=Tryz.sizeOf375
 v232:=Tryz.zeroValue375
 t233:=Tryz.underlying376
 a233:=Tryz.isAgg376
 z233:=Tryz.sizeOf376
 v233:=Tryz.zeroValue376
 g17:=kr
 g18:=kr
 g19:=kr
 i0:=kr
 i2:=kr
 i3:=kr
 i4:=kr
 i5:=kr
 i9:=kr
 i20:=kr
 i37:=kr
 i46:=kr
 i51:=kr
 i53:=kr
 i171:=kr
 i173:=kr
 i212:=kr
 i232:=kr
 i233:=kr
 m17:=kr
 m18:=kr
 m19:=by kernel_rfl }
end Go.Proofs
namespace Go.Proofs.YtpjhmeicbjkcdaaGreatDoor
open Go Go.RowKit Go.Dw
def dT (h:Hp):Prop:=∃o,h 0=some o/\∀w:World,w.heap[0]?=some o->Lib.TabIs Tryz.prog w "internal/strconv.uint64pow10" .u64 Lib.pow10Tab
theorem dT.mono {h k:Hp} (ht:dT h) (l:h.le k):dT k:=by
 obtain⟨o,h1,h2⟩:=ht;exact⟨o,l _ _ h1,h2⟩
theorem dT.at {w:World} (ht:dT (Hp.whole w)):Lib.TabIs Tryz.prog w "internal/strconv.uint64pow10" .u64 Lib.pow10Tab:=by
 obtain⟨o,h1,h2⟩:=ht;exact h2 w h1
theorem dT.of {w:World} (h:Lib.TabIs Tryz.prog w "internal/strconv.uint64pow10" .u64 Lib.pow10Tab):dT (Hp.whole w):=by
 have hg:Tryz.prog.globalNamed "internal/strconv.uint64pow10" = some 0:=kr
 unfold Lib.TabIs World.var? at h;rw[hg] at h;simp only[Option.bind_some] at h;cases ho:w.heap[0]? with
 | none=>rw[ho] at h;cases h
 | some o=>
  refine⟨o,ho,λw' hw=>?_⟩;unfold Lib.TabIs World.var?;rw[hg,Option.bind_some,hw];rw[ho] at h;exact h
theorem QZ (n:Nat) (hn:n<=9223372036854775807) (w:World) (hP:dT (Hp.whole w)):j6 Tryz.prog 58 #[iQ n] w (v7 w (sv (Lib.decDigits n))):=by
 have hcon:=Any.strconv_Itoa Tryz.lIt (n:Int) om om w hP.at;change Calls Tryz.prog 58 _ _ _ at hcon
 refine⟨enters_of (args:=#[iQ n]) Tryz.func58 kr rfl,hcon.mono ?_⟩;rintro e w' ⟨rfl,k,os,rfl⟩;have e1:(⟨(Lib.itoa (n:Int)).toArray⟩:ByteArray)=bs (Lib.decDigits n):=by rw[Lib.itoa_nonneg];rfl
 rw[e1];refine v7.ofBelow rfl ⟨rfl,rfl,rfl,?_,λj hj=>?_⟩
 ·show w.heap.size<=(w.heap++os).size
  rw[Array.size_append];omega
 ·exact Sort.heap_grow_old (w.drewN k) os hj
theorem IS {u:Nat} (h : ¬ u < 10):Lib.decDigits u=Lib.decDigits (u / 10)++[UInt8.ofNat (48+u % 10)]:=by rw[Lib.decDigits,dif_neg h]
theorem WX {d:Nat} (h:d < 10):l8 (UInt8.ofNat (48+d))=true/\(UInt8.ofNat (48+d)).toNat - 48=d:=by
 have e:(UInt8.ofNat (48+d)).toNat=48+d:=by
  rw[UInt8.toNat_ofNat'];omega
 unfold l8;rw[e,k6,decide_eq_true_eq,decide_eq_true_eq];omega
theorem cX :∀u:Nat,(Lib.decDigits u).all l8=true/\T8 (Lib.decDigits u)=u/\0 < (Lib.decDigits u).length/\(0 < u->(Lib.decDigits u).getD 0 0≠48)/\∀k,0 < k->u < 10 ^ k->(Lib.decDigits u).length<=k:=by
 intro u;induction u using gY with
 | _ u ih=>
  by_cases h:u < 10
  ·rw[Lib.decDigits_one h];obtain⟨h1,h2⟩:=WX h;refine⟨by rw[T6,h1];rfl,?_,sQ,λh0 e=>?_,λk hk _=>by simp;omega⟩
   ·show gK [(UInt8.ofNat (48+u)).toNat - 48]=u
    rw[h2];show 10*0+u=u;omega
   ·have e:UInt8.ofNat (48+u)=48:=e;rw[e] at h2;have:(48:UInt8).toNat - 48=0:=rfl;omega
  ·obtain⟨i1,i2,i3,i4,i5⟩:=ih (u / 10) om;obtain⟨h1,h2⟩:=WX (show u % 10 < 10 by omega);rw[IS h];refine⟨by rw[qE,i1,T6,h1];rfl,?_,sQ,λ_=>?_,λk hk hu=>?_⟩
   ·rw[aN,i2];have:T8 [UInt8.ofNat (48+u % 10)]=u % 10:=by
     show gK [(UInt8.ofNat (48+u % 10)).toNat - 48]=_
     rw[h2];show 10*0+u % 10=_;omega
    rw[this];simp;omega
   ·have:=i4 om;cases hd:Lib.decDigits (u / 10) with
    | nil=>rw[hd] at i3;cases i3
    | cons c r=>rw[hd] at this;exact this
   ·obtain⟨m,rfl⟩ :∃m,k=m+1:=⟨k - 1,om⟩
    rw[d6,w7];rcases w6 m with hm | hm
    ·subst hm;simp at hu;omega
    ·have:=i5 m hm (by rw[O3] at hu;omega);omega
end Go.Proofs.YtpjhmeicbjkcdaaGreatDoor
namespace Go.Proofs.YtpjhmeicbjkcdaaGreatDoor
open Go
abbrev V3:=Int×Int×Int
abbrev JL:=Int×e8
abbrev gG:=e8×List JL
inductive Ex where
 | mk (op:Int) (f:gG) (fac:e8) (args:List Ex)
abbrev W3:=e8×Int×List (List V3)
abbrev mX:=e8×e8×(Int×Int×Int×Int)×(e8×e8×e8)
abbrev S1:=e8×Int×Int×Int
abbrev kY:=e8×gG
abbrev kV:=e8×Ex×e8×e8
structure jL where
 nm:e8
 parts:List W3
 insts:List mX
 dims:List S1
 cons:List kY
 reqs:List kV
def mO (f:Nat->Int):Nat->Int
 | 0=>0
 | n+1=>if mO f n≠0 then mO f n else f n
theorem V8 {f:Nat->Int} :∀{n:Nat},mO f n=0↔∀j,j < n->f j=0
 | 0=>⟨λ_ j h=>absurd h (H5 _),λ_=>rfl⟩
 | n+1=>by
  unfold mO;by_cases h:mO f n=0
  ·rw[if_neg (λg=>g h)];constructor
   ·intro h2 j hj;by_cases e:j=n
    ·subst e;exact h2
    ·exact V8.1 h j om
   ·intro h2;exact h2 n om
  ·rw[if_pos h];constructor
   ·intro h2;exact absurd h2 h
   ·intro h2;exact absurd (V8.2 λj hj=>h2 j om) h
theorem nM {f:Nat->Int} {i:Nat} (h :∀j,j < i->f j=0) (hi:f i≠0) :∀{n:Nat},i < n->mO f n=f i
 | 0,hn=>absurd hn (H5 _)
 | n+1,hn=>by
  unfold mO;by_cases e:i=n
  ·subst e;rw[if_neg (λg=>g (V8.2 h))]
  ·have:=nM h hi (n:=n) om;rw[this,if_pos hi]
def oE (a b:Int):Int:=if a≠0 then a else b
theorem gS {a b:Int} (h:a≠0):oE a b=a:=if_pos h
theorem P7 {b:Int}:oE 0 b=b:=if_neg (λh=>h rfl)
def jW (c:UInt8):Bool:=decide (c.toNat < 33) || decide (126 < c.toNat)
def H8 (s:e8):Bool:=decide (s≠[]) && (decide (s.length<=40) && !s.any jW)
def aH (n most:Int):Bool:=decide (n < -most) || decide (n > most)
def I7 (s:e8):Int:=bB 400 s
def wH (names:List e8) (s:e8):Int:=if H8 s=false then 11 else if s∈names then 9 else 0
def tQ (v:V3):Bool:=aH v.1 4096 || (aH v.2.1 4096 || aH v.2.2 4096)
def IX (c:List V3):Int:=if 16 < c.length then 6 else if c.any tQ=true then 2 else 0
def wF (p:W3):Int:=if p.2.1 < 1\/1048576 < p.2.1 then 2 else if 6 < p.2.2.length then 6 else mO (λi=>IX (p.2.2.getD i [])) p.2.2.length
def wL (parts:List e8) (x:mX):Int:=
 if x.2.1∉parts then 16
 else if (aH x.2.2.1.1 12 || (aH x.2.2.1.2.1 12 || (aH x.2.2.1.2.2.1 12 || aH x.2.2.1.2.2.2 12)))=true then 2
 else oE (I7 x.2.2.2.1) (oE (I7 x.2.2.2.2.1) (I7 x.2.2.2.2.2))
def wM (d:S1):Int:=if (aH d.2.1 1073741824 || (aH d.2.2.1 1073741824 || aH d.2.2.2 1073741824))=true then 2 else if d.2.2.2 < d.2.2.1 then 8 else 0
def lJ (n:Int) (l:List JL) (i:Nat):Int:=
 let t:=l.getD i (0,[])
 if t.1 < 0\/n<=t.1 then 10 else if 0 < i/\t.1<=(l.getD (i - 1) (0,[])).1 then 8 else if I7 t.2≠0 then I7 t.2 else if t.2 = [48] then 19 else 0
def jD (n:Int) (f:gG):Int:=if I7 f.1≠0 then I7 f.1 else if 64 < f.2.length then 6 else mO (lJ n f.2) f.2.length
def bH (n:Int) (op:Int) (f:gG) (fac:e8) (k:Nat):Int:=
 if op < 0\/5 < op then 12
 else if op=0 then (if 0 < k\/fac≠[] then 3 else jD n f)
 else if (f.1≠[]\/0 < f.2.length)\/(fac≠[]/\op≠2) then 3
 else if k=0\/((op=2\/op=5)/\1 < k) then 13
 else if op=2 then I7 fac else 0
def Z2 (g:Nat->Ex->Int×Nat):Nat->List Ex->Int×Nat
 | k,[]=>(0,k)
 | k,x::r=>if (g k x).1≠0 then g k x else Z2 g (g k x).2 r
def M9 (n:Int):Nat->Nat->Ex->Int×Nat
 | 0,k,_=>(15,k)
 | d+1,k,.mk op f fac args=>if 64<=k then (6,k) else if bH n op f fac args.length≠0 then (bH n op f fac args.length,k+1) else Z2 (M9 n d) (k+1) args
def pL (n:Int) (x:Ex):Int:=(M9 n 8 0 x).1
def dF (s:e8):Int:=let m:Int:=T8 (T0 (L0 s).1);if iU (L0 s).1=true then -m else m
def dG (s:e8):Int:=if (L0 s).2.2=true then T8 (L0 s).2.1 else 1
def wE (n:Int) (r:kV):Int:=
 oE (pL n r.2.1) (oE (if r.2.2.1 = [] then 0 else I7 r.2.2.1) (oE (if r.2.2.2 = [] then 0 else I7 r.2.2.2)
  (if (r.2.2.1≠[]/\r.2.2.2≠[])/\dF r.2.2.2*dG r.2.2.1 < dF r.2.2.1*dG r.2.2.2 then 8 else 0)))
def bC {α:Type} (most:Nat) (l:List α) (nm:α->e8) (f:α->Int):Int:=
 if most < l.length then 6 else mO (λi=>match l[i]? with | some x=>oE (wH ((l.take i).map nm) (nm x)) (f x) | none=>0) l.length
def IW (p:jL):Int:=
 if H8 p.nm=false then 11
 else oE (bC 64 p.parts (·.1) wF) (oE (bC 12 p.insts (·.1) (wL (p.parts.map (·.1)))) (oE (bC 64 p.dims (·.1) wM) (oE (bC 64 p.cons (·.1) λc=>jD p.dims.length c.2) (bC 64 p.reqs (·.1) (wE p.dims.length)))))
end Go.Proofs.YtpjhmeicbjkcdaaGreatDoor
namespace Go.Dw
open Go Go.RowKit
theorem Ok.boxSet {w0 w:World} {s:List Ch} (hok:Ok w0 s w) {i b T:Nat} {cs:List Value} (hi:m8 s i=some (.box b cs T)) (j:Nat) (v:Value):Ok w0 (x9 s i (.box b (cs.set j v) T)) (w.setCell ⟨b,j,none⟩ v):=by
 have hblk:w.heap[b]?=some (.cells cs.toArray T (0,0)):=hok.mem i _ hi b _ (Hp.one_self b _);rw[setCell_eq_setRow w b j cs.toArray T (0,0) v hblk];have e:cs.toArray.setIfInBounds j v=(cs.set j v).toArray:=sQ
 rw[e];refine hok.upd hi _ rfl rfl rfl (by simp[World.setRow]) (k8 _) (λk _ hk=>setRow_other w b k _ λe=>?_) ?_ (λk hk=>.inl ?_)
 ·subst e;rw[show (Ch.box k cs T).h k=some _ from Hp.one_self k _] at hk;cases hk
 ·intro k o hk;simp only[Ch.h,Hp.one] at hk;split at hk
  ·rename_i e;subst e;cases hk
   exact setRow_heap w k _ _ _ _ hblk
  ·cases hk
 ·simp only[Ch.h,Hp.one] at hk ⊢;split at hk
  ·rename_i e;subst e;rw[if_pos rfl];simp
  ·exact absurd rfl hk
section
variable {X:R5} {s:List Ch}
theorem Ie {α:Type} {f:α->List Value} (hX:X.Good) {T ST e ty:Nat} {te:TI} (hT:bM X T=some (e,te)) (h1:te.size=1) (hf :∀x,(f x).length=1) {i:Nat} {o:Os} (hi:m8 s i=some (.hp o.h)) {b k:Nat} (hb:o.a=some ⟨b,0,none⟩) {L M:List α} (ho:w8 f e 1 o L) (hk:k+M.length<=L.length) (hM:M≠[])
  {a:Addr} {c' m sc:Nat} (hm:m=M.length) (hsrc :∀w,gN s w->∀j v,(M.flatMap f)[j]?=some v->w.cell? (a.add j)=some v) (hone:aB (M.flatMap f)=true) {q:TV->List Ch->Prop}
  (hq :∀o',o'.a=o.a->o'.n=o.n->o'.c=o.c->w8 f e 1 o' (L.take k++M++L.drop (k+M.length))->q (.v (iQ M.length)) (x9 s i (.hp o'.h))) :
  I0 X.P s (Builtin.copy_ #[T,ST] ty #[.slice (some ⟨b,0+k*te.size,none⟩) (o.n - k) c',.slice (some a) m sc]) q:=by
 have hn:=ho.len;subst hm;have hML:0 < M.length:=G2.2 hM;obtain⟨hu,hg⟩:=W6 hX hT;obtain⟨⟨inf,hinf,hs1,_⟩,_⟩:=hg;rw[h1,E3,y8];have hfl :∀K:List α,(K.flatMap f).length=K.length:=λK=>by rw[WD hf,E3]
 refine⟨λw0 w hok=>?_⟩;rcases ho.2.2 with ⟨h0,_⟩ | ⟨b',arr,e1,h2,h3,h4,h5,h6⟩
 ·omega
 ·rw[hb] at e1;cases e1;have hblk:=hok.mem i _ hi b _ h2;have hr:=run_copy_row X.P w T ST ty e b k (o.n - k) c' a M.length sc arr e (M.flatMap f) hu (by rw[hinf,<-h1,<-hs1];rfl) hblk (by rw[hfl];show _=min _ _;omega) (hsrc w hok.mem) (by rw[hfl];omega) (λv hv=>Z3 hone v hv);rw[hfl] at hr;refine⟨.v (iQ M.length),_,_,x9 s i (.hp (o.h.upd b (.cells (arr.toList.take k++M.flatMap f++arr.toList.drop (k+M.length)).toArray e (0,0)))),hr,iK.row hok hi h2,J6.set hi (λb cs T e=>by cases e),rfl,hq ⟨o.a,o.n,o.c,_⟩ rfl rfl rfl ⟨?_,?_,.inr ⟨b,_,hb,Hp.upd_self _ _ _,h3,h4,?_,?_⟩⟩⟩
  ·simp only[d6,j8,k9];omega
  ·rw[hfl];simp only[d6,j8,k9];omega
  ·simp only[Z6,d6,j8,k9,Array.length_toList,hfl];omega
  ·simp only[E3];rw[E3] at h6;rw[V1,V1];have f1:(L.take k).flatMap f=arr.toList.take k:=by
    have:=jE hf L k;rw[E3] at this;rw[<-this,<-h6,List.take_take,Y5 om]
   have f2:(L.drop (k+M.length)).flatMap f=(arr.toList.take o.n).drop (k+M.length):=by
    have:=CS hf L (k+M.length);rw[E3] at this;rw[<-this,<-h6]
   rw[f1,f2];have hl:(arr.toList.take k++M.flatMap f).length=k+M.length:=by
    simp only[d6,j8,Array.length_toList,hfl];omega
   rw[List.take_append,hl,u7 om,List.drop_take]
end
end Go.Dw
namespace Go.Proofs.YtpjhmeicbjkcdaaGreatDoor
open Go
theorem CJ (w:World):(callFunc 324 #[]).run Tryz.prog w=.ok (.value (.tuple #[])) w:=run_call_mark0 Tryz.func324 kr kr kr .disable kr w
theorem HA (w:World):(callFunc 326 #[]).run Tryz.prog w=.ok (.value (.tuple #[])) w:=run_call_mark0 Tryz.func326 kr kr kr .enable kr w
theorem QO (a:Addr) (w:World):(callFunc 327 #[.pointer (some a)]).run Tryz.prog w=.ok (.value (.tuple #[])) w:=run_call_marked Tryz.func327 kr kr kr .acquire kr a w
theorem QN (a:Addr) (w:World):(callFunc 329 #[.pointer (some a)]).run Tryz.prog w=.ok (.value (.tuple #[])) w:=run_call_marked Tryz.func329 kr kr kr .releaseMerge kr a w
theorem Aa (a:Addr) (x:Value) (u:FrameMode) (w:World) (hc:w.cell? a=some x) (hz:w.frozen? a=false) :
  CallsD Tryz.prog 289 #[.pointer (some a),.bool true] u w λe u' w'=>u'=u/\(e=.returned (.tuple #[])/\w'=w.drew.setCell a (.int .u32 1)):=by
 have hc':w.drew.cell? a=some x:=by go_simp
 have hz':w.drew.frozen? a=false:=by go_simp
 have hst:=run_call_store (P:=Tryz.prog) Tryz.func313 kr kr kr kr (k:=.u32) (y:=1) hc' hz';go_enter_d Tryz.func289,Tryz.ntmps289
 go_wp2
 go_region_calls
 all_goals (go_end0;exact⟨rfl,rfl⟩)
set_option maxRecDepth 100000 in
set_option maxHeartbeats 1600000 in
theorem UZ (a:Addr) (u:FrameMode) (w:World) (hc:w.cell? a=some (.int .i32 1)) (hz:w.frozen? a=false) :
  CallsD Tryz.prog 288 #[.pointer (some a)] u w λe u' w'=>u'=u/\(e=.returned (.tuple #[])/\w'=w.setCell a (.int .i32 0)):=by
 have hd:=CJ;have he:=HA;have hr:=QN;have hadd:=run_call_add (P:=Tryz.prog) Tryz.func330 kr kr kr .i32 kr (y:=-1) (s:=0) hc hz (by simp[go_sem];rfl);have hcv:=run_convert_to_unsafe (P:=Tryz.prog) (src:=389) (dst:=263) Tryz.underlying389 Tryz.underlying263 kr hc;go_enter_d Tryz.func288,Tryz.ntmps288
 go_wp2
 go_end0
 go_wp2
 go_end0
 exact⟨rfl,rfl⟩
set_option maxRecDepth 100000 in
set_option maxHeartbeats 1600000 in
theorem Eh (a:Addr) (w:World) (hc:w.cell? a=some (.int .i32 0)) (hz:w.frozen? a=false) :
  Calls Tryz.prog 287 #[.pointer (some a)] w λe w'=>e=.returned (.tuple #[])/\w'=w.setCell a (.int .i32 1):=by
 have hd:=CJ;have he:=HA;have ha:=QO;have hcas:=run_call_cas_hit (P:=Tryz.prog) Tryz.func325 kr kr kr .i32 kr (y:=1) hc hz;have hc':(w.setCell a (.int .i32 1)).cell? a=some (.int .i32 1):=World.cell?_setCell_same w a _ hc;have hcv:=run_convert_to_unsafe (P:=Tryz.prog) (src:=389) (dst:=263) Tryz.underlying389 Tryz.underlying263 kr hc';go_enter Tryz.func287,Tryz.ntmps287
 go_wp2
 first | go_end0 | (simp only[Exit.inBlock,Exit.then];refine bodyPost_ret (results_none rfl _ _ _) rfl ?_) | refine bodyPost_ret (results_none rfl _ _ _) rfl ?_
 go_wp2
 go_end0
 exact⟨rfl,rfl⟩
end Go.Proofs.YtpjhmeicbjkcdaaGreatDoor
namespace Go.Proofs.YtpjhmeicbjkcdaaGreatDoor
open Go Go.RowKit Go.Dw
def JE (b:Nat) (d m:Int) (w:World):Prop:=w.cell? ⟨b,0,none⟩=some (.int .u32 d)/\w.cell? ⟨b,1,none⟩=some (.int .i32 m)/\w.frozen? ⟨b,0,none⟩=false/\w.frozen? ⟨b,1,none⟩=false
set_option maxRecDepth 100000 in
set_option maxHeartbeats 1600000 in
theorem Eg (b:Nat) (w:World) (h0:JE b 0 0 w) (R:World->Prop) (hK:Calls Tryz.prog 218 #[pQ b] (w.setCell ⟨b,1,none⟩ (.int .i32 1)) λe w2=>e=.returned (.tuple #[])/\R w2/\JE b 0 1 w2) :
  Calls Tryz.prog 260 #[pQ b,.func (.func 218) #[pQ b] #[]] w λe w'=>e=.returned (.tuple #[])/\∃w2,R w2/\w'=(w2.drew.setCell ⟨b,0,none⟩ (.int .u32 1)).setCell ⟨b,1,none⟩ (.int .i32 0):=by
 obtain⟨h0,h1,f0,f1⟩:=h0;have hl:=run_call_load (P:=Tryz.prog) Tryz.func286 kr kr kr .u32 kr (w:=w.setCell ⟨b,1,none⟩ (.int .i32 1)) (a:=⟨b,0,none⟩) (x:=0) ((World.cell?_setCell_other _ ⟨b,1,none⟩ ⟨b,0,none⟩ _ sQ).trans h0);have hnot :∀(x:Bool) (w:World),(Op.unary .not (.bool x)).run Tryz.prog w=.ok (.bool (!x)) w:=λ_ _=>rfl;go_enter_defers Tryz.func260,Tryz.ntmps260
 go_wp2_with (first | (go_at_call 287;refine (Eh ⟨b,1,none⟩ _ (by go_simp) (by go_simp)).mono ?_;rintro e w' ⟨rfl,rfl⟩) | (go_at_call 218;refine hK.mono ?_;rintro e w2 ⟨rfl,hR,hc0,hc1,hf0,hf1⟩) | (go_at_call 259;go_in))
 refine leaves_cons (f:=289) (args:=#[pQ b,.bool true]) sQ (by simp[go_sem]) ?_;refine (Aa ⟨b,0,none⟩ (.int .u32 0) .returning _ hc0 hf0).mono ?_;rintro e u' w'' ⟨rfl,rfl,rfl⟩;refine leaves_cons (f:=288) (args:=#[.pointer (some ⟨b,1,none⟩)]) (by simp[settle]) (by simp[go_sem]) ?_;refine (UZ ⟨b,1,none⟩ _ _ ?_ (by simp[hf1])).mono ?_
 ·refine (World.cell?_setCell_other _ ⟨b,0,none⟩ ⟨b,1,none⟩ _ sQ).trans ?_;rw[World.cell?_drew];exact hc1
 rintro e u' w'' ⟨rfl,rfl,rfl⟩;simp[Leaves,settle,results,Tryz.results260];exact⟨w2,hR,rfl⟩
set_option maxRecDepth 100000 in
set_option maxHeartbeats 1600000 in
theorem Jy (b:Nat) (w:World) (h0:JE b 0 0 w) (R:World->Prop) (hK:Calls Tryz.prog 218 #[pQ b] (w.setCell ⟨b,1,none⟩ (.int .i32 1)) λe w2=>e=.returned (.tuple #[])/\R w2/\JE b 0 1 w2) :
  Calls Tryz.prog 217 #[pQ b,.func (.func 218) #[pQ b] #[]] w λe w'=>e=.returned (.tuple #[])/\∃w2,R w2/\w'=(w2.drew.setCell ⟨b,0,none⟩ (.int .u32 1)).setCell ⟨b,1,none⟩ (.int .i32 0):=by
 have hl:=run_call_load (P:=Tryz.prog) Tryz.func286 kr kr kr .u32 kr h0.1;have hnot :∀(x:Bool) (w:World),(Op.unary .not (.bool x)).run Tryz.prog w=.ok (.bool (!x)) w:=λ_ _=>rfl;go_enter Tryz.func217,Tryz.ntmps217
 go_wp2_with (first | (go_at_call 260;refine (Eg b _ h0 R hK).mono ?_;rintro e w' ⟨rfl,w2,hR,rfl⟩) | (go_at_call 259;go_in))
 go_end0
 exact⟨rfl,w2,hR,rfl⟩
theorem CI {w0 w:World} {s:List Ch} (hok:Ok w0 s w) {i b T:Nat} {d m:Int} {rest:List Value} (hi:m8 s i=some (.box b (.int .u32 d::.int .i32 m::rest) T)):JE b d m w:=by
 have hb:w.heap[b]?=some (.cells (.int .u32 d::.int .i32 m::rest).toArray T (0,0)):=hok.mem i _ hi b _ (Hp.one_self b _);refine⟨?_,?_,?_,?_⟩ <;> simp[World.cell?,World.frozen?,hb]
theorem Fj {s:List Ch} {i b T:Nat} {rest:List Value} (hi:m8 s i=some (.box b (.int .u32 0::.int .i32 0::rest) T)) {q:TV->List Ch->Prop}
  (hK:Q8 Tryz.prog (x9 s i (.box b (.int .u32 0::.int .i32 1::rest) T)) 218 [pQ b] λtv s'=>tv=.v (.tuple #[])/\∃rest',m8 s' i=some (.box b (.int .u32 0::.int .i32 1::rest') T)/\q (.v (.tuple #[])) (x9 s' i (.box b (.int .u32 1::.int .i32 0::rest') T))) :
  Q8 Tryz.prog s 217 [pQ b,.func (.func 218) #[pQ b] #[]] q:=by
 obtain⟨hK⟩:=hK;refine⟨λw0 w hok=>⟨enters_of Tryz.func217 kr rfl _,?_⟩⟩;have hok1:=hok.boxSet hi 1 (.int .i32 1);have hc:=(hK w0 _ hok1).2;refine (Jy b w (CI hok hi) (λw2=>∃s' rest',Ok w0 s' w2/\J6 (x9 s i (.box b (.int .u32 0::.int .i32 1::rest) T)) s'/\m8 s' i=some (.box b (.int .u32 0::.int .i32 1::rest') T)/\q (.v (.tuple #[])) (x9 s' i (.box b (.int .u32 1::.int .i32 0::rest') T))) (hc.mono ?_)).mono ?_
 ·rintro e w2 ⟨v,s',rfl,h1,h2,h3,rest',h4,h5⟩;cases h3;exact⟨rfl,⟨s',rest',h1,h2,h4,h5⟩,CI h1 h4⟩
 ·rintro e w' ⟨rfl,w2,⟨s',rest',h1,h2,h4,h5⟩,rfl⟩;have g1:=h1.drew.boxSet h4 0 (.int .u32 1);have g2:=g1.boxSet (i:=i) (by rw[W0 h4,if_pos rfl]) 1 (.int .i32 0);have e:x9 (x9 s' i (.box b (.int .u32 1::.int .i32 1::rest') T)) i (.box b (.int .u32 1::.int .i32 0::rest') T)=x9 s' i (.box b (.int .u32 1::.int .i32 0::rest') T):=by simp only[S9,List.set_set]
  refine⟨_,_,rfl,e ▸ g2,?_,h5⟩;exact ((J6.set hi (λb' cs T e=>by cases e;exact⟨_,_,rfl⟩)).trans h2).trans (J6.set h4 (λb' cs T e=>by cases e;exact⟨_,_,rfl⟩))
end Go.Proofs.YtpjhmeicbjkcdaaGreatDoor
namespace Go.Dw
open Go Go.RowKit
section
variable {X:R5} {s:List Ch}
theorem gR {P:Program} {ty:Nat} {q:TV->Prop} {k:IntKind} (a b d:Nat) {x y:Int} (hx:x=a) (hy:y=b) (hb:0 < b) (hd:d=a % b) (h:q (.v (.int k d))):B7 P s (binOp .rem ty (.int k x) (.int k y)) q:=by
 subst hx hy hd;refine⟨_,λw _=>?_,h⟩;have h0 : ¬ b=0:=om
 simp[binOp,Op.intDiv,h0,Lu (show (0:Int)<=(a:Int) by omega)]
theorem Hc {P:Program} {ty:Nat} {q:TV->Prop} (a b d:Nat) {x y:Int} (hx:x=a) (hy:y=b) (hb:0 < b) (ha:a < 9223372036854775808) (hd:d=a / b) (h:q (.v (iQ d))):B7 P s (binOp .quo ty (iQ x) (iQ y)) q:=by
 subst hx hy;refine⟨_,λw _=>?_,h⟩;have h0 : ¬ b=0:=om
 have hd':d < 9223372036854775808:=by rw[hd];exact s7 (D7 a b) ha
 have hw:IntKind.i64.wrap (d:Int)=d:=by rw[IntKind.wrap_i64];omega
 rw[hd,Fx] at hw;rw[hd];simp[binOp,Op.intDiv,h0];exact hw
theorem Mw {α:Type} {f:α->List Value} (hX:X.Good) {T e:Nat} {te:TI} (hT:bM X T=some (e,te)) (m:Nat) {l c:Int} (hl:l=0) (hc:c=m) (hby:te.bytes*m<=281474976710656) (hm:m<=1000000000000) {q:TV->List Ch->Prop}
  (hq :∀o:Os,w8 f e te.size o []->q (.v o.v) (s++[.hp o.h])):I0 X.P s (Instr.makeSlice T (iQ l) (iQ c)) q:=by
 subst hl;subst hc;obtain⟨hu,hg⟩:=W6 hX hT;obtain⟨⟨inf,hinf,hs1,hs2,z,hz,hzc,hzl⟩,_⟩:=hg;refine⟨λw0 w hok=>?_⟩;have hr:=run_make (P:=X.P) w T e inf z hu hinf hz .i64 .i64 0 m om om (by rw[hs2];have h9:((te.bytes*m:Nat):Int)<=281474976710656:=om;simpa using h9) om;simp only[Int.toNat_natCast,hs1,hzc] at hr;have hm:madeCells te.zero.toArray (m*te.size)=(lX m te.zero).toArray:=by
  have:=EE te.zero m;rw[hzl] at this;simpa [madeCells,hzl] using this
 rw[hm] at hr;refine⟨.v _,_,_,_,hr,hok.alloc (.hp (Hp.one w.heap.size _)) _ rfl,J6.app s _,rfl,hq ⟨some ⟨w.heap.size,0,none⟩,0,m,_⟩ ⟨rfl,sQ,.inr ⟨_,_,rfl,Hp.one_self _ _,f8 _,by simp only[maxLen];omega,?_,sQ⟩⟩⟩;have hlen:(lX m te.zero).length=m*te.size:=by
  clear hr hm hq hby;induction m with
  | zero=>simp[lX]
  | succ n ih=>simp[lX,hzl,ih om,Z5,V9]
 simpa using hlen
theorem IdQ (hX:X.Good) {S T e:Nat} {ti te:TI} (hS:I2 X.tt S=some ti) (hk:ti.k=.str) (hT:bM X T=some (e,te)) (he:te.k=.int .u8) {l:List UInt8} {q:TV->List Ch->Prop}
  (hq :∀b c h,(∀j (hj:j < l.length),h.cell? ⟨b,j,none⟩=some (.int .u8 l[j].toNat))->(∀i d,m8 s i=some d->d.h.dj h)->q (.v (.slice (some ⟨b,0,none⟩) l.length c)) (s++[.hp h])):I0 X.P s (convert S T (sv l)) q:=by
 have hu:X.P.underlying S=some .string:=by
  have:=(Good.und hX hS).2;obtain⟨tk,_,_,_⟩:=ti;dsimp only at hk;subst hk;exact this
 obtain⟨hd,hg⟩:=W6 hX hT;have hue:X.P.underlying e=some (.int .u8):=by
  have:=hg.2;obtain⟨tk,_,_,_⟩:=te;dsimp only at he;subst he;exact this
 refine⟨λw0 w hok=>?_⟩;have hr:=run_bytes_of_string (P:=X.P) w S T e (bs l) hu hd hue;rw[B6] at hr;refine⟨.v (.slice (some ⟨w.heap.size,0,none⟩) l.length _),_,_,s++[.hp (Hp.one w.heap.size _)],hr,hok.drew.alloc (.hp (Hp.one w.heap.size _)) _ rfl,J6.app s _,rfl,hq w.heap.size _ _ (λj hj=>?_) λi d hi x=>?_⟩
 ·unfold Hp.cell?;dsimp only;rw[Hp.one_self];have:=bytesRow_at (bs l) (grownCap w l.length 0 e) j (by show j < l.toArray.size;simpa using hj);dsimp only;rw[this];rfl
 ·by_cases hx:x=w.heap.size
  ·exact .inl ((hok.mem i d hi).none om)
  ·exact .inr (by unfold Hp.one;rw[if_neg hx])
end
section
variable {X:R5} {s:List Ch}
theorem nT {i b T':Nat} {cs:List Value} (hi:m8 s i=some (.box b cs T')) {j:Nat} {v:Value} (hc:cs[j]?=some v) {w:World} (hm:gN s w):w.cell? ⟨b,j,none⟩=some v:=by
 have hb:w.heap[b]?=some (.cells cs.toArray T' (0,0)):=hm i _ hi b _ (Hp.one_self b _);simp[World.cell?,hb,hc]
theorem wJ (hX:X.Good) {T:Nat} {i b T':Nat} {cs:List Value} (hi:m8 s i=some (.box b cs T')) {j:Nat} {v:Value} (hc:cs[j]?=some v) (hT:(I2 X.tt T).map TI.agg=some false) {q:TV->Prop} (hq:q (.v v)) :
  B7 X.P s (Instr.loadAt T (.pointer (some ⟨b,0+j,none⟩))) q:=by
 refine⟨v,λw hm=>?_,hq⟩;cases ht:I2 X.tt T with
 | none=>simp[ht] at hT
 | some ti=>
  have ha:ti.agg=false:=by simpa [ht] using hT
  have hg:=Good.und hX ht;have:=nT hi hc hm;rw[y8];simp[Instr.loadAt,Instr.sureAddr,loadVar,hg.agg,ha,this]
theorem lR {T:Nat} (i:Nat) {b T':Nat} {cs:List Value} (j:Nat) {v:Value} {q:TV->Prop} (hq:q (.v v)) (hX:X.Good:=by exact cxg _) (hi:m8 s i=some (.box b cs T'):=by exact rfl) (hc:cs[j]?=some v:=by exact rfl) (hT:(I2 X.tt T).map TI.agg=some false:=by exact rfl):B7 X.P s (Instr.loadAt T (.pointer (some ⟨b,0+j,none⟩))) q:=wJ hX hi hc hT hq
theorem fI (hX:X.Good) {T:Nat} {i b T':Nat} {cs:List Value} (hi:m8 s i=some (.box b cs T')) {j:Nat} {v:Value} (hv:v.cells = #[v]) (hone:v.oneCell'=true) (hj:j < cs.length) {ti:TI} (hT:I2 X.tt T=some ti) (h1:ti.size=1) {q:List Ch->Prop}
  (hq:q (x9 s i (.box b (cs.set j v) T'))):gX X.P s (Instr.storeAt T (.pointer (some ⟨b,0+j,none⟩)) v) q:=by
 refine⟨λw0 w hok=>?_⟩;have hblk:=hok.mem i _ hi b _ (Hp.one_self b _);have hst:=run_storeCells_at X.P b (0+j) T' [v] 0 cs.toArray w hblk (by simp;omega) (λx hx=>by rw[E2.1 hx];exact hone);simp only[G3,y8,w7] at hst;have hset:cs.take j++[v]++cs.drop (j+1)=cs.set j v:=by
  rw[YD,if_pos hj];simp
 have hw:w.setRow b (cs.toArray.toList.take j++[v]++cs.toArray.toList.drop (j+1)).toArray=w.setCell ⟨b,j,none⟩ v:=by
  rw[setCell_eq_setRow w b j cs.toArray T' (0,0) v hblk];congr 1
  show (cs.take j++[v]++cs.drop (j+1)).toArray=_
  rw[hset];simp
 refine⟨_,_,?_,hok.boxSet hi j v,J6.set hi (λb' cs' T e=>by cases e;exact⟨_,_,rfl⟩),hq⟩;rw[<-hw];simp[Instr.storeAt,Instr.sureAddr,storeVar,(Good.und hX hT).size,h1,hv,hst]
end
def vQ:List Ch->List Ch->Prop
 | .box b _ _::r,.box b' _ _::r'=>b=b'/\vQ r r'
 | .box _ _ _::_,_=>False
 | .hp _::r,_::r'=>vQ r r'
 | .hp _::r,[]=>vQ r []
 | [],_=>True
theorem iZ :∀{s s':List Ch},vQ s s'->∀i b cs T,m8 s i=some (.box b cs T)->∃cs' T',m8 s' i=some (.box b cs' T')
 | .box _ _ _::_,.box _ _ _::_,h,0,b,cs,T,e=>by
  simp only[m8,m9,Ch.box.injEq] at e;obtain⟨rfl,_,_⟩:=e;exact⟨_,_,by simp only[m8];rw[h.1]⟩
 | .box _ _ _::_,.box _ _ _::_,h,i+1,b,cs,T,e=>iZ h.2 i b cs T e
 | .box _ _ _::_,.hp _::_,h,_,_,_,_,_=>h.elim
 | .box _ _ _::_,[],h,_,_,_,_,_=>h.elim
 | .hp _::_,_::_,_,0,b,cs,T,e=>by simp[m8] at e
 | .hp _::r,_::r',h,i+1,b,cs,T,e=>iZ (s:=r) (s':=r') h i b cs T e
 | .hp _::_,[],_,0,b,cs,T,e=>by simp[m8] at e
 | .hp _::r,[],h,i+1,b,cs,T,e=>by
  obtain⟨_,_,h'⟩:=iZ (s:=r) (s':=[]) h i b cs T e;simp[m8] at h'
 | [],_,_,_,_,_,_,e=>by simp[m8] at e
theorem LP {s s':List Ch} (h:vQ s s'):J6 s s':=λtv v e=>by
 cases tv with
 | v x=>exact e
 | bx i off=>
  simp only[TV.val] at e ⊢;cases hs:m8 s i with
  | none=>simp[hs] at e
  | some c=>
   cases c with
   | hp _=>simp[hs] at e
   | box b cs T=>obtain⟨cs',T',h'⟩:=iZ h i b cs T hs;simp only[hs] at e;simp only[h'];exact e
 | bs i n=>
  simp only[TV.val] at e ⊢;cases hs:m8 s i with
  | none=>simp[hs] at e
  | some c=>
   cases c with
   | hp _=>simp[hs] at e
   | box b cs T=>obtain⟨cs',T',h'⟩:=iZ h i b cs T hs;simp only[hs] at e;simp only[h'];exact e
theorem Fc {X : R5} (hX : X.Good) {f : Nat} {fn : Func} {c : Code} {args : List Value} {s : List Ch} {q : TV -> List Ch -> Prop} (rs : List ResultVar)
    (hf : X.P.funcs[f]? = some fn) (hb : fn.body = some c) (hn : (fn.name == "runtime.NumGoroutine") = false) (hr : fn.results = rs.toArray) (hm : fn.ntmps = X.n) (hl : R0 args.length X.n = true)
    (hwp : WP X c (λe t s' => match e with
      | .exit _ => False
      | _ => oY X s' t rs λv => vQ s s' /\ q (.v v) s') (pG 0 args) s) : Q8 X.P s f args q := by
  have hl := E0 hl
  refine ⟨λw0 w hok0 => ⟨λw => ?_, calls_of_wp hf hb ?_⟩⟩
  · have hn' : ¬ fn.name = "runtime.NumGoroutine" := by simpa using hn
    simp [callFunc, hf, hn', hb]
  · refine wp_mono (tF hX c _ _ _ _ w hwp ⟨by simp [hm];omega, rfl, λi tv hi => ?_⟩ hok0) λe a w' hq => ?_
    · obtain ⟨v, rfl, _, h2⟩ := fA args 0 i tv hi
      refine ⟨v, rfl, ?_⟩
      have : i < args.length := (q9.1 (by simpa using h2)).1
      rw [Array.getElem?_append_left (by simpa using this)]
      simpa using h2
    · have fin : ∀ t s', Fr X.n t s' a -> Ok w0 s' w' -> (oY X s' t rs λv => vQ s s' /\ q (.v v) s') ->
          a.defers = [] /\ ∃ v, (results fn a.tmps).run X.P w' = .ok v w' /\ ∃ v1 s1, Ending.returned v = .returned v1 /\ Ok w0 s1 w' /\ J6 s s1 /\ q (.v v1) s1 := by
        intro t s' hf' hok hk
        obtain ⟨v, h1, h2, h3⟩ := nE hX hf'.w hok.mem hk hr
        exact ⟨hf'.2.1, v, h1, v, s', rfl, hok, LP h2, h3⟩
      cases e with
      | normal => obtain ⟨t, s, h1, h2, h3⟩ := hq;exact fin t s h1 h2 h3
      | ret => obtain ⟨t, s, h1, h2, h3⟩ := hq;exact fin t s h1 h2 h3
      | exit i => obtain ⟨t, s, h1, h2, h3⟩ := hq;exact h3.elim
      | goto l => exact hq.elim
      | panic c => exact hq.elim
      | outgrown => exact hq.elim
theorem enterFZ (X : R5) {f : Nat} {fn : Func} {c : Code} (args : List Value) {s : List Ch} {q : TV -> List Ch -> Prop} (rs : List ResultVar) (hf : X.P.funcs[f]? = some fn) (hwp : WP X c (λe t s' => match e with
      | .exit _ => False
      | _ => oY X s' t rs λv => vQ s s' /\ q (.v v) s') (pG 0 args) s) (hX : X.Good := by exact cxg _) (hb : fn.body = some c := by exact rfl) (hn : (fn.name == "runtime.NumGoroutine") = false := by exact rfl) (hr : fn.results = rs.toArray := by exact rfl) (hm : fn.ntmps = X.n := by exact rfl) (hl : R0 args.length X.n = true := by exact rfl) : Q8 X.P s f args q := Fc hX  rs hf hb hn hr hm hl hwp
end Go.Dw
namespace Go.Proofs.YtpjhmeicbjkcdaaGreatDoor
open Go Go.RowKit Go.Dw
theorem YW (c:UInt8):([48,49,50,51,52,53,54,55,56,57]:e8).contains c=l8 c:=by
 have h :∀n:Fin 256,([48,49,50,51,52,53,54,55,56,57]:e8).contains (UInt8.ofNat n.1)=l8 (UInt8.ofNat n.1):=by decide +kernel
 have:=h ⟨c.toNat,c.toNat_lt⟩;rwa [show UInt8.ofNat c.toNat=c from UInt8.ofNat_toNat] at this
theorem vY (s:e8) (hs:s.length < 1000000) (w:World):j6 Tryz.prog 211 #[sv s] w (v7 w (.bool (dZ s))):=by
 refine enterZ (cx 10) [sv s] [.tmp 2] Tryz.func211 ?_;refine cG (b:=[]) ?_;refine d8 (λh1=>?_) λh1=>?_
 ·refine k7 _ (λw' hm=>JS s [48,49,50,51,52,53,54,55,56,57] hs dc dc dc w') ?_;refine W8 (b:=[]) ?_;refine⟨[],⟨?_,rfl⟩,pk [0]⟩;congr 1
  unfold dZ;rw[decide_eq_true h1,F6,L6,decide_eq_true_eq,FU];rw[show (λc=>([48,49,50,51,52,53,54,55,56,57]:e8).contains c)=l8 from funext YW]
 ·exact⟨[],⟨by unfold dZ;rw[decide_eq_false h1];rfl,rfl⟩,pk [0]⟩
theorem Bh:fG [1] 1:=by
 refine⟨λd hd=>?_,λk h1 h2=>?_,by simp[u9]⟩
 ·rw[E2] at hd;rw[hd];decide
 ·have:k=0:=by simp at h2;omega
  subst this;decide
theorem rP (w:World):j6 Tryz.prog 195 #[] w (fD w λv cs=>∃g a n c,cs = [.hp g]/\v=U9 false a n c/\bT g (.slice a n c) 1):=by
 refine enterZ (cx 2) [] [.cell 0 139] Tryz.func195 ?_;intro b0;refine call (λw' hm=>uB 1 dc dc w') ?_;rintro _ _ ⟨g,a,n,c,L,rfl,rfl,hL,hC⟩;exact⟨[.hp g],⟨_,_,_,_,rfl,rfl,_,_,_,L,rfl,hL,hC,by have:=hC.le_len Bh (k8 _);simp at this;omega⟩,pk [0,2]⟩
theorem cY {g1 g2:Bool} {a1 a2:Option Addr} {n1 c1 n2 c2 x y:Nat} (w:World) (ha:bT (Hp.whole w) (.slice a1 n1 c1) x) (hb:bT (Hp.whole w) (.slice a2 n2 c2) y) (p1:g1=true->0 < x) (p2:g2=true->0 < y) :
  j6 Tryz.prog 182 #[U9 g1 a1 n1 c1,U9 g2 a2 n2 c2] w (v7 w (iQ (iC (aG g1 x) (aG g2 y)))):=by
 obtain⟨_,_,_,La,e1,h1,h2,h3⟩:=ha;obtain⟨_,_,_,Lb,e2,k1,k2,k3⟩:=hb;cases e1;cases e2;exact cU w h1 k1 h2 k2 om om p1 p2
theorem wX (y:Nat):(iC (aG false y) (aG false 1)=0)↔y=1:=by
 unfold iC aG;simp only[iN,if_false];constructor
 ·intro h;split at h
  ·cases h
  ·split at h
   ·cases h
   ·omega
 ·rintro rfl;rw[if_neg om,if_neg om]
theorem xV (s:e8) (w:World):j6 Tryz.prog 212 #[sv s,sv [45]] w (v7 w (sv (T0 s))):=by
 have h:=wC s [45] w;have e:Y9 s [45]=iU s:=yM s 45;rw[e] at h;exact h
theorem TS {l:e8} (h:dZ l=true):iU l=false/\T0 l=l/\l.all l8=true/\0 < l.length:=by
 unfold dZ at h;rw[k6,decide_eq_true_eq] at h;obtain⟨h1,h2⟩:=wT h.2;exact⟨h1,h2,h.2,G2.2 h.1⟩
def cF (n1:Bool) (a1:Option Addr) (k1 c1:Nat) (n2:Bool) (a2:Option Addr) (k2 c2:Nat):Value:=.agg #[.bool n1,.slice a1 k1 c1,.bool n2,.slice a2 k2 c2]
def FG (most:Nat) (s:e8) (g:Hp) (v:Value):Prop:=∃n1 a1 k1 c1 a2 k2 c2 x y,v=.tuple #[cF n1 a1 k1 c1 false a2 k2 c2,iQ (bB most s)]/\bT g (.slice a1 k1 c1) x/\bT g (.slice a2 k2 c2) y/\(n1=true->0 < x)/\
 (bB most s=0->n1=iU (L0 s).1/\x=T8 (T0 (L0 s).1)/\y=if (L0 s).2.2=true then T8 (L0 s).2.1 else 0)/\(bB most s≠0->n1=false/\x=0/\y=0)
theorem dE {most:Nat} {s:e8} {e:Int} (h:bB most s=e) (he:e≠0) (g:Hp):FG most s g (.tuple #[cF false none 0 0 false none 0 0,iQ e]):=by
 subst h;exact⟨false,none,0,0,none,0,0,0,0,rfl,wZ g,wZ g,nofun,λe=>absurd e he,λ_=>⟨rfl,rfl,rfl⟩⟩
set_option maxRecDepth 10000 in
set_option maxHeartbeats 2000000 in
theorem CE (s:e8) (most:Nat) (hmost:most < 500000) (hs:s.length < 1000000) (w:World) :
  j6 Tryz.prog 181 #[sv s,iQ most] w (fD w λv cs=>∃g,cs = [.hp g]/\FG most s g v):=by
 have hsz:=B6 s;have hE:bB most s=bB most s:=rfl;conv at hE=>rhs;unfold bB
 rcases hc:L0 s with ⟨top,bot,fl⟩
 have hcl:top.length<=s.length/\bot.length<=s.length:=by
  unfold L0 at hc;split at hc
  ·cases hc;exact⟨by rw[j8];omega,by rw[k9];omega⟩
  ·cases hc;simp
 rw[hc] at hE;dsimp only at hE;refine enterZ (cx 85) [sv s,iQ most] [.cell 4 141,.tmp 5] Tryz.func181 ?_;intro b4;refine k7 _ (λw' hm=>RU s w' om) ?_;rw[hc];refine d8 (λh1=>?_) λh1=>?_
 ·rw[if_pos om] at hE;exact⟨[.hp Hp.emp],⟨_,rfl,dE hE dc _⟩,λw' h=>(h.pick [0] rfl rfl).emp⟩
 ·rw[if_neg om] at hE;have htl:(T0 top).length<=top.length:=by unfold T0;split <;> simp
  refine k7 _ (λw' hm=>xV top w') ?_;refine k7 _ (λw' hm=>vY (T0 top) om w') ?_;cases fl with
  | false=>
   simp only[U4,Bool.or_false,if_true,iN,if_false] at hE;refine s8 (λh2=>?_) λh2=>?_
   ·rw[if_pos h2] at hE;exact⟨[.hp Hp.emp],⟨_,rfl,dE hE dc _⟩,λw' h=>(h.pick [0] rfl rfl).emp⟩
   ·rw[if_neg (by rw[h2];decide)] at hE;refine call (λw' hm=>iF top om w') ?_;rintro _ _ ⟨g,rfl,n1,a1,k1,c1,x,rfl,hM,hp,hz,hn⟩;intro b10;refine d8 (λh7=>?_) λh7=>?_
    ·rw[if_pos h7] at hE;exact⟨[.hp Hp.emp],⟨_,rfl,dE hE dc _⟩,λw' h=>(h.pick [0] rfl rfl).emp⟩
    ·have h7:W9 top=0:=by simpa using h7
     rw[if_neg (λg=>g h7)] at hE;obtain⟨z1,z2⟩:=hz h7;exact⟨[.hp g],⟨g,rfl,n1,a1,k1,c1,none,0,0,x,0,by rw[hE];rfl,hM,wZ g,hp,λ_=>by rw[hc];exact⟨z1,z2,rfl⟩,λe=>absurd hE e⟩,pk [0,2]⟩
  | true=>
   simp only[F6,Bool.true_eq_false,if_false] at hE;refine s8 (λh2=>?_) λh2=>?_
   ·rw[h2,Bool.true_or,if_pos rfl] at hE;exact⟨[.hp Hp.emp],⟨_,rfl,dE hE dc _⟩,λw' h=>(h.pick [0] rfl rfl).emp⟩
   ·refine k7 _ (λw' hm=>vY bot om w') ?_;rw[h2,AV] at hE;refine s8 (λh4=>?_) λh4=>?_
    ·rw[if_pos h4] at hE;exact⟨[.hp Hp.emp],⟨_,rfl,dE hE dc _⟩,λw' h=>(h.pick [0] rfl rfl).emp⟩
    ·rw[if_neg (by rw[h4];decide)] at hE;obtain⟨d1,d2,d3,d4⟩:=TS (l:=bot) (by simpa using h4);refine k7 _ (λw' hm=>JT bot 48 om dc w') ?_;refine W8 (b:=[]) ?_;have hz0:Lib.trimS bot [48] = []↔(bot.all λc=>decide (c=48))=true:=by
      rw[FU];have:(λc:UInt8=>([48]:e8).contains c)=λc=>decide (c=48):=by
       funext c
       rw[L6];simp
      rw[this]
     refine d8 (λh6=>?_) λh6=>?_
     ·rw[if_pos (hz0.1 h6)] at hE;exact⟨[.hp Hp.emp],⟨_,rfl,dE hE dc _⟩,λw' h=>(h.pick [0] rfl rfl).emp⟩
     ·rw[if_neg (λg=>h6 (hz0.2 g))] at hE;refine call (λw' hm=>iF top om w') ?_;rintro _ _ ⟨g,rfl,n1,a1,k1,c1,x,rfl,hM,hp,hz,hn⟩;intro b10;refine d8 (λh7=>?_) λh7=>?_
      ·rw[if_pos h7] at hE;exact⟨[.hp Hp.emp],⟨_,rfl,dE hE dc _⟩,λw' h=>(h.pick [0] rfl rfl).emp⟩
      ·have h7:W9 top=0:=by simpa using h7
       rw[if_neg (λg=>g h7)] at hE;obtain⟨z1,z2⟩:=hz h7;refine DB (λw' hm=>iF bot om w') ?_;rintro _ _ ⟨g2,rfl,n2,a2,k2,c2,y,rfl,hM2,hp2,hz2,hn2⟩ hsat;have hg2:g2.le (g.join g2):=hsat.leR 2 4 rfl rfl;intro b12;refine s6.cut Bool (λb=>[(4,.bx 1 0),(10,.bx 3 0),(12,.bx 5 0),(80,.v (.bool b))]) (λ_=>[.hp (Hp.whole w),.box b4 [.bool false,zl,.bool false,zl] 141,.hp g,.box b10 [.bool n1,.slice a1 k1 c1] 139,.hp g2,.box b12 [.bool n2,.slice a2 k2 c2] 139])
        (λb=>b=true↔(W9 bot≠0\/T8 bot=1\/I5 (T8 (T0 top)) (T8 bot)≠1)) (s6.by_order cQ (.take 0 <| .take 1 <| .take 2 <| .take 3 <| .run 4 <| .run 5 <| .take 6 <| .take 7 <| .take 8 <| .take 9 <| .take 10 <| .run 11 <| .run 12 <| .run 13 <| .take 14 <| .take 15 <| .done) kr ?_) ?_
       ·refine d8 (λh9=>?_) λh9=>?_
        ·(iterate 5 refine⟨sK,?_⟩);exact⟨true,⟨λ_=>.inl h9,λ_=>rfl⟩,v6.mk (λ_ _ h=>h) rfl rfl⟩
        ·have h9:W9 bot=0:=by simpa using h9
         obtain⟨y1,y2⟩:=hz2 h9;rw[d1] at y1;rw[d2] at y2;subst y1 y2 z2;refine call (λw' hm=>rP w') ?_;rintro _ _ ⟨g3,a3,k3,c3,rfl,rfl,hM3⟩;refine⟨sK,?_⟩;refine k7 _ (λw' hm=>cY w' (hM2.mono (hm 4 _ rfl).whole) (hM3.mono (hm 6 _ rfl).whole) nofun nofun) ?_;refine⟨sK,?_⟩;refine d8 (λh10=>?_) λh10=>?_
         ·rw[wX] at h10;(iterate 3 refine⟨sK,?_⟩);exact⟨true,⟨λ_=>.inr (.inl h10),λ_=>rfl⟩,v6.mk (pj [0,1,2,3,4,5]) rfl rfl⟩
         ·rw[wX] at h10;refine call (λw' hm=>IB w' (Hp.join_in (hm 2 _ rfl) (hm 4 _ rfl)) (hM.mono (Hp.le_left g g2)) (hM2.mono hg2)) ?_;rintro _ _ ⟨g4,a4,k4,c4,rfl,rfl,hM4⟩;refine⟨sK,?_⟩;refine call (λw' hm=>rP w') ?_;rintro _ _ ⟨g5,a5,k5,c5,rfl,rfl,hM5⟩;refine⟨sK,?_⟩;refine k7 _ (λw' hm=>cY w' (hM4 _ (Hp.join_in (hm 2 _ rfl) (hm 4 _ rfl)).whole (hm 7 _ rfl).whole) (hM5.mono (hm 8 _ rfl).whole) nofun nofun) ?_;refine⟨sK,?_⟩;refine⟨decide (iC (aG false (I5 (T8 (T0 top)) (T8 bot))) (aG false 1)≠0),?_,v6.mk (pj [0,1,2,3,4,5]) rfl rfl⟩;rw[decide_eq_true_eq,Ne,wX];constructor
          ·intro h;exact .inr (.inr h)
          ·rintro (h | h | h)
           ·exact absurd h9 h
           ·exact absurd h h10
           ·exact h
       rintro b hb hsat2;dsimp only;refine s8 (λh11=>?_) λh11=>?_
       ·rw[if_pos (hb.1 h11)] at hE;exact⟨[.hp Hp.emp],⟨_,rfl,dE hE dc _⟩,λw' h=>(h.pick [0] rfl rfl).emp⟩
       ·have hnb : ¬ (W9 bot≠0\/T8 bot=1\/I5 (T8 (T0 top)) (T8 bot)≠1):=λh=>by rw[hb.2 h] at h11;cases h11
        rw[if_neg hnb] at hE;have h9:W9 bot=0:=j9 λh=>hnb (.inl h);obtain⟨y1,y2⟩:=hz2 h9;rw[d1] at y1;rw[d2] at y2;subst y1;exact⟨[.hp (g.join g2)],⟨_,rfl,n1,a1,k1,c1,a2,k2,c2,x,y,by rw[hE];rfl,hM.mono (Hp.le_left _ _),hM2.mono hg2,hp,λ_=>by rw[hc];exact⟨z1,z2,by rw[if_pos rfl];exact y2⟩,λe=>absurd hE e⟩,λw' h=>Ok.join (h.pick [0,2,4] rfl rfl)⟩
theorem R3 (s:e8) (hs:s.length < 1000000) (w:World) :
  j6 Tryz.prog 121 #[sv s] w (fD w λv cs=>∃g,cs = [.hp g]/\FG 400 s g v):=by
 refine enterZ (cx 8) [sv s] [.cell 2 141,.tmp 3] Tryz.func121 ?_;intro b2;refine call (λw' hm=>CE s 400 dc hs w') ?_;rintro _ _ ⟨g,rfl,n1,a1,k1,c1,a2,k2,c2,x,y,rfl,h⟩;exact⟨[.hp g],⟨g,rfl,n1,a1,k1,c1,a2,k2,c2,x,y,rfl,h⟩,pk [0,2]⟩
end Go.Proofs.YtpjhmeicbjkcdaaGreatDoor
namespace Go.Proofs.YtpjhmeicbjkcdaaGreatDoor
open Go Go.RowKit Go.Dw
theorem vO (c:UInt8) (w:World):j6 Tryz.prog 225 #[.int .u8 c.toNat] w (v7 w (.bool (P4 c))):=by
 refine enterZ (cx 9) [.int .u8 c.toNat] [.tmp 2] Tryz.func225 ?_;refine d8 (λh1=>?_) λh1=>?_
 ·exact⟨[],⟨by unfold P4;rw[decide_eq_true (show 97<=c.toNat by omega),F6];congr 1;rw[decide_eq_decide];omega,rfl⟩,pk [0]⟩
 ·exact⟨[],⟨by unfold P4;rw[decide_eq_false (show ¬ 97<=c.toNat by omega)];rfl,rfl⟩,pk [0]⟩
theorem dP (c:UInt8) (w:World):j6 Tryz.prog 227 #[.int .u8 c.toNat] w (v7 w (.bool (l8 c))):=by
 refine enterZ (cx 9) [.int .u8 c.toNat] [.tmp 2] Tryz.func227 ?_;refine d8 (λh1=>?_) λh1=>?_
 ·exact⟨[],⟨by unfold l8;rw[decide_eq_true (show 48<=c.toNat by omega),F6];congr 1;rw[decide_eq_decide];omega,rfl⟩,pk [0]⟩
 ·exact⟨[],⟨by unfold l8;rw[decide_eq_false (show ¬ 48<=c.toNat by omega)];rfl,rfl⟩,pk [0]⟩
theorem FE (c k:UInt8):decide ((c.toNat:Int)=(k.toNat:Int))=decide (c=k):=by
 rw[decide_eq_decide];constructor
 ·intro h;exact UInt8.toNat_inj.1 om
 ·intro h;rw[h]
theorem LU (c:UInt8) (w:World):j6 Tryz.prog 268 #[.int .u8 c.toNat] w (v7 w (.bool (K7 c))):=by
 refine enterZ (cx 17) [.int .u8 c.toNat] [.tmp 2] Tryz.func268 ?_;refine k7 _ (λw' hm=>vO c w') ?_;refine s8 (λh1=>?_) λh1=>?_
 ·exact⟨[],⟨by unfold K7;rw[h1];rfl,rfl⟩,pk [0]⟩
 ·refine k7 _ (λw' hm=>dP c w') ?_;refine s8 (λh2=>?_) λh2=>?_
  ·exact⟨[],⟨by unfold K7;rw[h2,kB];rfl,rfl⟩,pk [0]⟩
  ·refine d8 (λh3=>?_) λh3=>?_
   ·have e:c=45:=UInt8.toNat_inj.1 (by show c.toNat=45;omega);exact⟨[],⟨by unfold K7;rw[decide_eq_true e,kB];rfl,rfl⟩,pk [0]⟩
   ·have e : ¬ c=45:=λe=>h3 (by rw[e];rfl);have:=FE c 95;exact⟨[],⟨by unfold K7;rw[h1,h2,decide_eq_false e,<-this];rfl,rfl⟩,pk [0]⟩
theorem KL (c:UInt8) (w:World):j6 Tryz.prog 229 #[.int .u8 c.toNat] w (v7 w (.bool (decide (c=34)))):=by
 refine enterZ (cx 5) [.int .u8 c.toNat] [.tmp 2] Tryz.func229 ?_;have:=FE c 34;exact⟨[],⟨by rw[<-this];rfl,rfl⟩,pk [0]⟩
theorem KU (c:UInt8) (w:World):j6 Tryz.prog 231 #[.int .u8 c.toNat] w (v7 w (.bool true)):=by
 refine enterZ (cx 3) [.int .u8 c.toNat] [.tmp 2] Tryz.func231 ?_;exact⟨[],⟨rfl,rfl⟩,pk [0]⟩
theorem oW (f:UInt8->Bool) (l:e8):s9 f l<=l.length:=by
 unfold s9;have:=List.takeWhile_append_dropWhile (p:=f) (l:=l);have h:=congrArg F7 this;rw[d6] at h;omega
theorem gQ (f:UInt8->Bool) :∀l:e8,(l.take (s9 f l)).all f=true
 | []=>rfl
 | c::l=>by
  by_cases h:f c=true
  ·have e:s9 f (c::l)=s9 f l+1:=by unfold s9;rw[D8,if_pos h];rfl
   rw[e,SK,T6,h,gQ f l];rfl
  ·have e:s9 f (c::l)=0:=by unfold s9;rw[D8,if_neg h];rfl
   rw[e];rfl
theorem EC (f:UInt8->Bool) (l:e8):0 < s9 f l↔0 < l.length/\f (l.getD 0 0)=true:=by
 cases l with
 | nil=>unfold s9;simp
 | cons c l=>
  unfold s9;rw[D8];by_cases h:f c=true
  ·rw[if_pos h];simp[h]
  ·rw[if_neg h];simp[h]
theorem GH {f:UInt8->Bool} {l:e8} {k:Nat} (hk:k<=l.length) (ha :∀i,i < k->f (l.getD i 0)=true) (hn:k < l.length->f (l.getD k 0)=false):s9 f l=k:=by
 induction l generalizing k with
 | nil=>simp at hk;subst hk;rfl
 | cons c l ih=>
  cases k with
  | zero=>
   have:=hn sQ;have h:f c=false:=this;unfold s9;rw[D8,if_neg (by rw[h];decide)];rfl
  | succ k=>
   have h:f c=true:=ha 0 om;have:=ih (k:=k) (by simpa using hk) (λi hi=>ha (i+1) om) (λhl=>hn (by simpa using hl));unfold s9 at *;rw[D8,if_pos h,d7,this]
theorem rF (g:Nat) (f:UInt8->Bool) (s:e8) (hs:s.length < 1000000000) (w:World) (hf :∀w' (c:UInt8),j6 Tryz.prog g #[.int .u8 c.toNat] w' (v7 w' (.bool (f c)))) :
  j6 Tryz.prog 235 #[sv s,.func (.func g) #[] #[]] w (v7 w (iQ (s9 f s))):=by
 have hz:=B6 s;refine enterZ (cx 20) [sv s,.func (.func g) #[] #[]] [.tmp 4] Tryz.func235 ?_;refine u6.mk Nat (λk=>[(0,.v (sv s)),(1,.v (.func (.func g) #[] #[])),(5,.v (iQ k))]) (λ_=>[.hp (Hp.whole w)])
  (λk=>k<=s.length/\∀i,i < k->f (s.getD i 0)=true) (λk=>s.length - k) 0 ⟨f8 _,λi hi=>by omega⟩ (v6.mk (λ_ _ h=>h) rfl rfl) ?_
 rintro k ⟨hk,ha⟩;dsimp only at *;refine d8 (λh1=>?_) λh1=>?_
 ·have hk':k < s.length:=om
  refine X0 cQ rfl rfl k rfl hk' ?_;refine k7 _ (λw' hm=>hf w' (s.getD k 0)) ?_;refine s8 (λh3=>?_) λh3=>?_
  ·refine nwo ?_;exact⟨k+1,⟨om,λi hi=>by
    rcases K8 i k with h | h
    ·exact ha i h
    ·have:i=k:=om
     rw[this];exact h3⟩,om,v6.mk (λ_ _ h=>h) rfl rfl⟩
  ·exact⟨[],⟨by rw[GH hk ha λ_=>h3],rfl⟩,pk [0]⟩
 ·exact⟨[],⟨by rw[GH hk ha λh=>absurd h om],rfl⟩,pk [0]⟩
def JR (r:Nat×e8×Int):Value:=.tuple #[iQ r.1,sv r.2.1,iQ r.2.2]
def FN (s:e8):Nat×e8×Int:=if 40 < s9 K7 s then (0,[],5) else (s9 K7 s,s.take (s9 K7 s),0)
theorem PD (s:e8) (hs:s.length < 1000000000) (w:World):j6 Tryz.prog 226 #[sv s] w (v7 w (JR (FN s))):=by
 refine enterZ (cx 13) [sv s] [.tmp 2,.tmp 3,.tmp 4] Tryz.func226 ?_;refine k7 _ (λw' hm=>rF 268 K7 s hs w' λw' c=>LU c w') ?_;refine d8 (λh1=>?_) λh1=>?_
 ·exact⟨[],⟨by unfold FN;rw[if_pos om];rfl,rfl⟩,pk [0]⟩
 ·refine s6.by_order cQ (.take 0 <| .take 1 <| .take 2 <| .take 3 <| .take 4 <| .take 5 <| .take 6 <| .done) kr ?_;refine lY cQ rfl rfl 0 (s9 K7 s) (.inl ⟨rfl,rfl⟩) (.inr ⟨_,_,rfl,rfl⟩) om (oW _ _) ?_;rw[H6];exact⟨[],⟨by unfold FN;rw[if_neg om];rfl,rfl⟩,pk [0]⟩
def EN (s:e8):Nat×e8×Int:=if 400 < (K5 s).1 then (0,[],5) else if bO (s.take (K5 s).1) (K5 s).2=true then ((K5 s).1,s.take (K5 s).1,0) else (0,[],3)
theorem nK (s:e8) (k i:Nat):(s.drop k).getD i 0=s.getD (k+i) 0:=by
 rw[i7,bV,<-i7]
set_option maxHeartbeats 400000 in
set_option maxRecDepth 20000 in
theorem HB (s:e8) (hs:s.length < 900000) (h0:0 < s.length) (hd:l8 (s.getD 0 0)=true) (w:World):j6 Tryz.prog 228 #[sv s] w (fD w λv cs=>cs = []/\v=JR (EN s)):=by
 have hz:=B6 s;have hk0:0 < s9 l8 s:=(EC l8 s).2 ⟨h0,hd⟩;have hkl:=oW l8 s;have hka:=gQ l8 s;have hpos:=EC l8 (s.drop (s9 l8 s+1));rw[nK,k9,G3] at hpos;have hml:=oW l8 (s.drop (s9 l8 s+1));rw[k9] at hml;have hma:=gQ l8 (s.drop (s9 l8 s+1));have hN1:s.getD (s9 l8 s) 0=47/\s9 l8 s < s.length/\0 < s9 l8 (s.drop (s9 l8 s+1))->K5 s=(s9 l8 s+1+s9 l8 (s.drop (s9 l8 s+1)),s9 l8 s):=λh=>by unfold K5;dsimp only;rw[if_pos h]
 have hN2 : ¬ (s.getD (s9 l8 s) 0=47/\s9 l8 s < s.length/\0 < s9 l8 (s.drop (s9 l8 s+1)))->K5 s=(s9 l8 s,s9 l8 s):=λh=>by unfold K5;dsimp only;rw[if_neg h]
 have hrun :∀w',j6 Tryz.prog 235 #[sv s,.func (.func 227) #[] #[]] w' (v7 w' (iQ (s9 l8 s))):=λw'=>rF 227 l8 s om w' λw' c=>dP c w';have hrun2 :∀w',j6 Tryz.prog 235 #[sv (s.drop (s9 l8 s+1)),.func (.func 227) #[] #[]] w' (v7 w' (iQ (s9 l8 (s.drop (s9 l8 s+1))))):=λw'=>rF 227 l8 _ (by rw[k9];omega) w' λw' c=>dP c w';generalize s9 l8 s=k at *;generalize s9 l8 (s.drop (k+1))=m at *;have hint:k<=400->(bB 400 (s.take k)=0↔bO (s.take k) k=true):=λh=>by
  have hl:(s.take k).length=k:=by rw[j8];omega
  have:=GL hka om om;rwa [hl] at this
 refine enterZ (cx 49) [sv s] [.tmp 2,.tmp 3,.tmp 4] Tryz.func228 ?_;refine k7 _ (λw' hm=>hrun w') ?_;refine nwo ?_;refine d8 (λh1=>?_) λh1=>?_;focus
  have h1:k+1 < s.length:=om
  refine X0 cQ rfl rfl k rfl om ?_;generalize hc0:s.getD k 0=c0 at *;conv=>whnf
  refine d8 (λh3=>?_) λh3=>?_
  ·have h3:c0=47:=UInt8.toNat_inj.1 (by show c0.toNat=47;omega);refine X0 cQ rfl rfl (k+1) om om ?_;generalize hc1:s.getD (k+1) 0=c1' at *;refine k7 _ (λw' hm=>dP c1' w') ?_;refine s8 (λh5=>?_) λh5=>?_;focus
    have hm0:=hpos.2 ⟨om,h5⟩;have hN:=hN1 ⟨h3,om,hm0⟩;refine lY cQ rfl rfl (k+1) s.length (.inr ⟨_,_,rfl,om⟩) (.inl ⟨rfl,rfl⟩) om (k8 _) ?_;rw[p9];refine k7 _ (λw' hm=>hrun2 w') ?_;refine tY (y:=((k+1+m:Nat):Int)) om om om ?_;have hcan:k+1+m<=400->(bB 400 (s.take (k+1+m))=0↔bO (s.take (k+1+m)) k=true):=λh=>by
     have hl:(s.take k).length=k:=by rw[j8];omega
     have hl2:((s.drop (k+1)).take m).length=m:=by rw[j8,k9];omega
     have e:s.take (k+1+m)=s.take k++47::(s.drop (k+1)).take m:=by
      rw[SR,I8 s k om];have:s[k]=47:=by rw[<-h3,<-hc0,i7,i6 om];rfl
      rw[this];simp
     have:=GK hka hma om om (by rw[<-e,j8];omega);rw[<-e,hl] at this;exact this
    generalize hNN:k+1+m=N at *
   rotate_left
   focus
    have hN:=hN2 λh=>by have:=(hpos.1 h.2.2).2;rw[h5] at this;cases this
    have hcan:=hint;generalize hNN:k=N at *
   all_goals
    refine d8 (λh6=>?_) λh6=>?_
    ·exact⟨[],⟨rfl,by unfold EN;rw[hN,if_pos (by dsimp only;omega)];rfl⟩,pk [0]⟩
    ·have hc:=hcan om;refine lY cQ rfl rfl 0 N (.inl ⟨rfl,rfl⟩) (.inr ⟨_,_,rfl,rfl⟩) om om ?_;rw[H6];refine call (λw' hm=>R3 (s.take N) (by rw[j8];omega) w') ?_;rintro _ _ ⟨g,rfl,n1,a1,k1,c1,a2,k2,c2,x,y,rfl,hR⟩;intro b6;refine d8 (λh7=>?_) λh7=>?_
     ·have : ¬ bO (s.take N) (K5 s).2=true:=λg=>h7 (hc.2 (by rw[hN] at g;exact g));exact⟨[],⟨rfl,by unfold EN;rw[hN] at this ⊢;rw[if_neg (by dsimp only;omega),if_neg this];rfl⟩,pk [0]⟩
     ·have h7:bB 400 (s.take N)=0:=by simpa using h7
      have:bO (s.take N) (K5 s).2=true:=by rw[hN];exact hc.1 h7
      refine s6.by_order cQ (.take 0 <| .take 1 <| .take 2 <| .take 3 <| .take 4 <| .take 5 <| .take 6 <| .done) kr ?_;refine lY cQ rfl rfl 0 N (.inl ⟨rfl,rfl⟩) (.inr ⟨_,_,rfl,rfl⟩) om om ?_;rw[H6];exact⟨[],⟨rfl,by unfold EN;rw[hN] at this ⊢;rw[if_neg (by dsimp only;omega),if_pos this];rfl⟩,pk [0]⟩
  focus
   have hN:=hN2 λh=>h3 (by rw[h.1];rfl)
 rotate_left
 focus
  have hN:=hN2 λh=>by have:=(hpos.1 h.2.2).1;omega
 all_goals
  have hcan:=hint;generalize hNN:k=N at *;refine d8 (λh6=>?_) λh6=>?_
  ·exact⟨[],⟨rfl,by unfold EN;rw[hN,if_pos (by dsimp only;omega)];rfl⟩,pk [0]⟩
  ·have hc:=hcan om;refine lY cQ rfl rfl 0 N (.inl ⟨rfl,rfl⟩) (.inr ⟨_,_,rfl,rfl⟩) om om ?_;rw[H6];refine call (λw' hm=>R3 (s.take N) (by rw[j8];omega) w') ?_;rintro _ _ ⟨g,rfl,n1,a1,k1,c1,a2,k2,c2,x,y,rfl,hR⟩;intro b6;refine d8 (λh7=>?_) λh7=>?_
   ·have : ¬ bO (s.take N) (K5 s).2=true:=λg=>h7 (hc.2 (by rw[hN] at g;exact g));exact⟨[],⟨rfl,by unfold EN;rw[hN] at this ⊢;rw[if_neg (by dsimp only;omega),if_neg this];rfl⟩,pk [0]⟩
   ·have h7:bB 400 (s.take N)=0:=by simpa using h7
    have:bO (s.take N) (K5 s).2=true:=by rw[hN];exact hc.1 h7
    refine s6.by_order cQ (.take 0 <| .take 1 <| .take 2 <| .take 3 <| .take 4 <| .take 5 <| .take 6 <| .done) kr ?_;refine lY cQ rfl rfl 0 N (.inl ⟨rfl,rfl⟩) (.inr ⟨_,_,rfl,rfl⟩) om om ?_;rw[H6];exact⟨[],⟨rfl,by unfold EN;rw[hN] at this ⊢;rw[if_neg (by dsimp only;omega),if_pos this];rfl⟩,pk [0]⟩
end Go.Proofs.YtpjhmeicbjkcdaaGreatDoor
namespace Go.Proofs
open Go.Shelf
def Tryz.lFi_ren:Go.Shelf.Ren:=⟨λ| 157=>270 | 229=>294 | 199=>295 | 261=>317 | 311=>333 | 312=>334 | n=>n,λ| 9=>9 | 31=>69 | 3=>3 | 5=>5 | 4=>4 | 119=>346 | 0=>0 | 40=>186 | 152=>377 | 21=>21 | 154=>379 | 51=>247 | 141=>381 | 196=>401 | 193=>398 | 198=>403 | 49=>62 | 194=>399 | 201=>406 | 226=>413 | 46=>135 | 227=>414 | n=>n,λ| 0=>2 | 6=>5 | n=>n⟩
theorem Tryz.lFi:Go.Proofs.Lays.n157 Tryz.prog Tryz.lFi_ren:={
 mixed:=kr
 f157:=Tryz.func270.trans (congrArg some kr)
 f199:=Tryz.func295.trans (congrArg some kr)
 f229:=Tryz.func294.trans (congrArg some kr)
 f261:=Tryz.func317.trans (congrArg some kr)
 f311:=Tryz.func333.trans (congrArg some kr)
 f312:=Tryz.func334.trans (congrArg some kr)
 t0:=Tryz.underlying0
 a0:=Tryz.isAgg0
 z0:=Tryz.sizeOf0
 v0:=Tryz.zeroValue0
 t3:=Tryz.underlying3
 a3:=Tryz.isAgg3
 z3:=Tryz.sizeOf3
 v3:=Tryz.zeroValue3
 t4:=Tryz.underlying4
 a4:=Tryz.isAgg4
 z4:=Tryz.sizeOf4
 v4:=Tryz.zeroValue4
 t5:=Tryz.underlying5
 a5:=Tryz.isAgg5
 z5:=Tryz.sizeOf5
 v5:=Tryz.zeroValue5
 t9:=Tryz.underlying9
 a9:=Tryz.isAgg9
 z9:=Tryz.sizeOf9
 v9:=Tryz.zeroValue9
 t21:=Tryz.underlying21
 a21:=Tryz.isAgg21
 z21:=Tryz.sizeOf21
 v21:=Tryz.zeroValue21
 t31:=Tryz.underlying69
 a31:=Tryz.isAgg69
 z31:=Tryz.sizeOf69
 v31:=Tryz.zeroValue69
 t40:=Tryz.underlying186
 a40:=Tryz.isAgg186
 z40:=Tryz.sizeOf186
 v40:=Tryz.zeroValue186
 t46:=Tryz.underlying135
 a46:=Tryz.isAgg135
 z46:=Tryz.sizeOf135
 v46:=Tryz.zeroValue135
 t49:=Tryz.underlying62
 a49:=Tryz.isAgg62
 z49:=Tryz.sizeOf62
 v49:=Tryz.zeroValue62
 t51:=Tryz.underlying247
 a51:=Tryz.isAgg247
 z51:=Tryz.sizeOf247
 v51:=Tryz.zeroValue247
 t119:=Tryz.underlying346
 a119:=Tryz.isAgg346
 z119:=Tryz.sizeOf346
 t141:=Tryz.underlying381
 a141:=Tryz.isAgg381
 z141:=Tryz.sizeOf381
 v141:=Tryz.zeroValue381
 t152:=Tryz.underlying377
 a152:=Tryz.isAgg377
 z152:=Tryz.sizeOf377
 v152:=Tryz.zeroValue377
 t154:=Tryz.underlying379
 a154:=Tryz.isAgg379
 z154:=Tryz.sizeOf379
 v154:=Tryz.zeroValue379
 t193:=Tryz.underlying398
 a193:=Tryz.isAgg398
 z193:=Tryz.sizeOf398
 v193:=Tryz.zeroValue398
 t194:=Tryz.underlying399
 a194:=Tryz.isAgg399
 z194:=Tryz.sizeOf399
 v194:=Tryz.zeroValue399
 t196:=Tryz.underlying401
 a196:=Tryz.isAgg401
 z196:=Tryz.sizeOf401
 v196:=Tryz.zeroValue401
 t198:=Tryz.underlying403
 a198:=Tryz.isAgg403
 z198:=Tryz.sizeOf403
 v198:=Tryz.zeroValue403
 t201:=Tryz.underlying406
 a201:=Tryz.isAgg406
 z201:=Tryz.sizeOf406
 v201:=Tryz.zeroValue406
 t226:=Tryz.underlying413
 a226:=Tryz.isAgg413
 z226:=Tryz.sizeOf413
 v226:=Tryz.zeroValue413
 t227:=Tryz.underlying414
 a227:=Tryz.isAgg414
 z227:=Tryz.sizeOf414
 v227:=Tryz.zeroValue414
 g0:=kr
 g6:=by kernel_rfl }
end Go.Proofs
namespace Go.Proofs.YtpjhmeicbjkcdaaGreatDoor
open Go Go.RowKit Go.Dw
def fS (x:e8):List Value:=[sv x]
def kU (h:Hp):Prop:=∀c:Nat,c < 256->h.cell? ⟨2,c,none⟩=some (.int .u8 (if Lib.isSp (UInt8.ofNat c) then 1 else 0))
theorem kU.mono {h k:Hp} (ht:kU h) (l:h.le k):kU k:=λj hj=>l.cell (ht j hj)
def Bv:e8:=[46,46,32,60,61,32,62,61,32,45,62,32,123,32,125,32,40,32,41,32,91,32,93,32,44,32,59,32,58,32,61,32,60,32,62,32,43,32,45,32,42,32,47,32,64]
theorem IH (s:e8) (hs:s.length < 100000) (ha:s.all (λb=>decide (b.toNat < 128))=true) (hn:(Lib.fields s).length < 100000) (w:World) (hT:kU (Hp.whole w)) :
  j6 Tryz.prog 270 #[sv s] w (fD w λv cs=>∃g a n c,cs = [.hp g]/\v=.slice a n c/\Sl (B0 fS) 1 g a n c (Lib.fields s)):=by
 have he:=enters_of (args:=#[sv s]) Tryz.func270 kr rfl;have hasc :∀(j:Nat) b,(bs s).data.toList[j]?=some b->b.toNat < 128:=λj b h=>by
  have:=z6.1 ha b (MX h);simpa using this
 have hcon:=Any.strings_Fields_core Tryz.lFi kr (bs s) w (by rw[B6];omega) hasc (λc hc=>(Hp.whole_in w).cell (hT c hc));change Calls Tryz.prog 270 _ _ _ at hcon
 refine⟨he,hcon.mono ?_⟩;rintro e w' ⟨rfl,rfl⟩;rw[jV];have hb:=w8.ofBox (f:=fS) (sz:=1) (b:=w.heap.size) (T:=9) (λ_=>rfl) (Lib.fields s) rfl rfl om;have hsl:=w8.sl (f:=fS) (sz:=1) (λ_=>rfl) dc hb;refine⟨_,[.hp (Ch.box w.heap.size ((Lib.fields s).flatMap fS) 9).h],rfl,?_,_,_,_,_,rfl,rfl,hsl⟩;have h0:=(Ok.start w).alloc (.box w.heap.size ((Lib.fields s).flatMap fS) 9) (.cells ((Lib.fields s).flatMap fS).toArray 9 (0,0)) rfl;have e:(Lib.fields s).map (λl=>Value.string ⟨l.toArray⟩)=(Lib.fields s).flatMap fS:=by
  generalize Lib.fields s=F;induction F with
  | nil=>rfl
  | cons x r ih=>rw[N7,ih];rfl
 rw[<-e] at h0 ⊢;exact h0.boxHp
def jN:List e8:=dD++KX.map λc=>[c]
theorem vU:Lib.fields Bv=jN:=by decide +kernel
def TM (s:e8):Nat×e8×Int:=if P6 s=0 then (0,[],14) else (P6 s,s.take (P6 s),0)
theorem zO {α:Type} {p q:α->Bool} :∀{l:List α},(∀x∈l,p x=q x)->l.find? p=l.find? q
 | [],_=>rfl
 | x::l,h=>by
  rw[List.find?_cons,List.find?_cons,h x sQ,zO λy hy=>h y (A9 _ hy)]
theorem PO (s:e8):TM s=match jN.find? (Y9 s) with | some x=>(x.length,x,0) | none=>(0,[],14):=by
 have h2 :∀x∈dD,Y9 s x=decide (s.take 2=x):=λx hx=>by
  have hl:x.length=2:=by
   simp only[dD,A8,Q0,or_false] at hx;rcases hx with rfl | rfl | rfl | rfl <;> rfl
  unfold Y9;rw[hl];by_cases h:s.take 2=x
  ·have:2<=s.length:=by
    have:=congrArg F7 h;rw[j8,hl] at this;omega
   rw[decide_eq_true this,decide_eq_true h];rfl
  ·rw[decide_eq_false h,uV]
 have hf2:dD.find? (Y9 s)=dD.find? λx=>decide (s.take 2=x):=zO h2;unfold jN;rw[List.find?_append,hf2];unfold TM P6;cases hc:dD.find? (λx=>decide (s.take 2=x)) with
 | some x=>
  have h1:=List.find?_some hc;have hm:=Ml hc;rw[decide_eq_true_eq] at h1;have hany:(dD.any λx=>decide (s.take 2=x))=true:=E6.2 ⟨x,hm,decide_eq_true h1⟩;have hl:x.length=2:=by
   simp only[dD,A8,Q0,or_false] at hm;rcases hm with rfl | rfl | rfl | rfl <;> rfl
  rw[if_pos hany,if_neg dc];show (2,s.take 2,(0:Int))=(x.length,x,0)
  rw[h1,hl]
 | none=>
  have hany : ¬ (dD.any λx=>decide (s.take 2=x))=true:=λh=>by
   obtain⟨x,hx,h1⟩:=E6.1 h;have:=iL.1 hc x hx;exact this h1
  rw[if_neg hany];rw[Option.none_or,List.find?_map];have hp1:(Y9 s∘λc=>[c])=λc=>(decide (s.getD 0 0=c) && decide (0 < s.length)):=funext λc=>yM s c;rw[hp1];cases hc1:KX.find? (λc=>(decide (s.getD 0 0=c) && decide (0 < s.length))) with
  | some c=>
   have h1:=List.find?_some hc1;have hm:=Ml hc1;rw[k6,decide_eq_true_eq,decide_eq_true_eq] at h1;have hc3:s.length≠0/\s.getD 0 0∈KX:=⟨om,by rw[h1.1];exact hm⟩
   rw[if_pos hc3,if_neg dc];cases s with
   | nil=>simp at h1
   | cons d r=>have:d=c:=h1.1;subst this;rfl
  | none=>
   have hn : ¬ (s.length≠0/\s.getD 0 0∈KX):=λh=>by
    have:=iL.1 hc1 _ h.2;rw[decide_eq_true rfl,decide_eq_true (show 0 < s.length by omega)] at this;exact this rfl
   simp only[if_neg hn,if_true];rfl
theorem FX (s:e8) (w:World) (hT:kU (Hp.whole w)):j6 Tryz.prog 232 #[sv s] w (fD w λv cs=>cs = []/\v=JR (TM s)):=by
 rw[PO];refine enterZ (cx 20) [sv s] [.tmp 2,.tmp 3,.tmp 4] Tryz.func232 ?_;refine call (λw' hm=>IH Bv dc dc (by rw[vU];decide) w' (hT.mono (hm 0 _ rfl).whole)) ?_;rintro _ _ ⟨g,a,n,c,rfl,rfl,hF⟩;rw[vU] at hF;have hn:=hF.len;refine u6.mk Nat (λk=>[(0,.v (sv s)),(7,.v (.slice a n c)),(8,.v (iQ n)),(9,.v (iQ k))]) (λ_=>[.hp (Hp.whole w),.hp g])
  (λk=>k<=jN.length/\∀x∈jN.take k,Y9 s x=false) (λk=>jN.length - k) 0 ⟨f8 _,nofun⟩ (v6.mk (λ_ _ h=>h) rfl rfl) ?_
 rintro k ⟨hk,ha⟩;dsimp only at *;have hL:jN.length=21:=rfl;refine d8 (λh1=>?_) λh1=>?_
 ·have hk':k < jN.length:=om
  refine I1 cQ (e:=9) rfl hF k rfl hk' λb9 o9 cs hcs hR hcell2=>?_;subst hR;refine lQ 1 (hcell2 0 _ rfl) ?_;have hfd:Y9 s jN[k]=true->jN.find? (Y9 s)=some jN[k]:=λh=>by
   have e:jN=jN.take k++jN[k]::jN.drop (k+1):=by rw[<-r5 hk',E4]
   have hnone:(jN.take k).find? (Y9 s)=none:=iL.2 λx hx=>by rw[ha x hx];decide
   conv=>lhs;rw[e]
   rw[List.find?_append,hnone,List.find?_cons,h];rfl
  have htk:=I8 jN k hk';generalize jN[k]=x at *;have hxz:=B6 x;refine k7 _ (λw' hm=>zM s x w') ?_;refine s8 (λh3=>?_) λh3=>?_
  ·rw[hfd h3];exact⟨[],⟨rfl,by unfold JR;rw[hxz]⟩,pk [0]⟩
  ·refine nwo ?_;exact⟨k+1,⟨om,λy hy=>by
    rw[htk] at hy;rcases G1.1 hy with h | h
    ·exact ha y h
    ·rw[E2] at h;rw[h];exact h3⟩,om,v6.mk (λ_ _ h=>h) rfl rfl⟩
 ·rw[u7 om] at ha;have hnone:jN.find? (Y9 s)=none:=iL.2 λx hx=>by rw[ha x hx];decide
  rw[hnone];exact⟨[],⟨rfl,rfl⟩,pk [0]⟩
end Go.Proofs.YtpjhmeicbjkcdaaGreatDoor
namespace Go.Proofs.YtpjhmeicbjkcdaaGreatDoor
open Go Go.RowKit Go.Dw
def Gx:List e8:=[[34],[92,34],[92],[92,92]]
def yU:Value:=zl
def GJ (s34 s92 tr:Value):List Value:=p7 34 yU++(s34::(p7 57 yU++(s92::(p7 163 yU++[tr]))))
def BO (h:Hp) (x:UInt8) (v:Value):Prop:=∃b c,v=.slice (some ⟨b,0,none⟩) 2 c/\h.cell? ⟨b,0,none⟩=some (.int .u8 92)/\h.cell? ⟨b,1,none⟩=some (.int .u8 x.toNat)
theorem BO.mono {h k:Hp} {x:UInt8} {v:Value} (hT:BO h x v) (l:h.le k):BO k x v:=by
 obtain⟨b,c,h1,h2,h3⟩:=hT;exact⟨b,c,h1,l.cell h2,l.cell h3⟩
theorem UG {s:List Ch} {i b T c:Nat} {x:UInt8} (hi:m8 s i=some (.box b [.int .u8 x.toNat] T)) {q:TV->Prop} (h:q (.v (sv [x]))):B7 Tryz.prog s (convert 68 9 (.slice (some ⟨b,0,none⟩) 1 c)) q:=by
 refine⟨_,λw hm=>?_,h⟩;rw[run_convert_bytes_arg w 68 5 Tryz.underlying68 Tryz.underlying5 b 0 1 c [(x.toNat:Int)] rfl (λj hj=>?_) 9 Tryz.underlying9]
 ·congr 2
  unfold strOfNums bs;congr 2
  exact congrArg (λy=>[y]) (UInt8.toNat_inj.1 sQ)
 ·have:j=0:=om
  subst this;have hb:w.heap[b]?=some (.cells #[.int .u8 x.toNat] T (0,0)):=hm i _ hi b _ (Hp.one_self b _);simp[World.cell?,hb]
structure SM where
 tr:Dw.Os
 s34:Value
 s92:Value
 hB:Hp
def Ja (j:Nat) (g:SM):Prop:=match j with
 | 0=>g.s34=yU/\g.s92=yU/\w8 fS 9 1 g.tr []
 | 1=>g.s34=yU/\BO g.hB 92 g.s92/\w8 fS 9 1 g.tr [[92]]
 | 2=>BO g.hB 34 g.s34/\BO g.hB 92 g.s92/\w8 fS 9 1 g.tr [[92],[34]]
 | _=>False
set_option maxRecDepth 100000 in
set_option maxHeartbeats 4000000 in
theorem MI {b:Nat} {a:Option Addr} {n c:Nat} (w:World) (hc:(Hp.whole w).cell? ⟨b,4,none⟩=some (.slice a n c)) (hL:Sl (B0 fS) 1 (Hp.whole w) a n c Gx) :
  j6 Tryz.prog 261 #[pQ b] w (fD w λv cs=>∃bq g,v=.iface 352 (pQ bq)/\cs = [.hp g.hB,.box bq (GJ g.s34 g.s92 g.tr.v) 351,.hp g.tr.h]/\Ja 2 g):=by
 have hn:=hL.len;have hn:n=4:=hn;subst hn;refine WN (X:=cx 132) cQ (args:=[pQ b]) [.tmp 2] Tryz.func261 rfl rfl rfl rfl rfl ?_;refine lQ 0 hc ?_;refine u6.mk Nat (λk=>[(0,.v (pQ b)),(3,.v (.slice a 4 c)),(4,.v (.bool (decide (k=0)))),(5,.v (iQ (2*k:Nat)))]) (λ_=>[.hp (Hp.whole w)]) (λk=>k<=2) (λk=>2 - k) 0 dc (v6.mk (λ_ _ h=>h) rfl rfl) ?_;intro k hk;match k,hk with
 | 0,_=>
  refine I1 cQ (e:=9) rfl hL 0 rfl dc λb o cs hcs hR hcell=>?_;subst hR;refine lQ 0 (hcell 0 _ rfl) ?_;refine nw dc dc ?_;refine I1 cQ (e:=9) rfl hL 1 rfl dc λb o cs hcs hR hcell=>?_;subst hR;refine lQ 0 (hcell 0 _ rfl) ?_;refine nw dc dc ?_;exact⟨1,dc,dc,v6.mk (λ_ _ h=>h) rfl rfl⟩
 | 1,_=>
  refine I1 cQ (e:=9) rfl hL 2 rfl dc λb o cs hcs hR hcell=>?_;subst hR;refine lQ 0 (hcell 0 _ rfl) ?_;refine nw dc dc ?_;refine I1 cQ (e:=9) rfl hL 3 rfl dc λb o cs hcs hR hcell=>?_;subst hR;refine lQ 0 (hcell 0 _ rfl) ?_;refine nw dc dc ?_;exact⟨2,dc,dc,v6.mk (λ_ _ h=>h) rfl rfl⟩
 | 2,_=>
  refine Hc 4 2 2 rfl rfl dc dc dc ?_;refine Mw (f:=fS) cQ (e:=9) rfl 2 rfl rfl dc dc λtr htr=>?_;intro bq;refine nw dc dc ?_;refine u6.mk (Nat×SM) (λg=>[(0,.v (pQ b)),(3,.v (.slice a 4 c)),(11,.bx 2 0),(12,.v (iQ (2 - 2*(g.1:Nat):Int)))]) (λg=>[.hp (Hp.whole w),.hp g.2.hB,.box bq (GJ g.2.s34 g.2.s92 g.2.tr.v) 351,.hp g.2.tr.h]) (λg=>g.1<=2/\Ja g.1 g.2) (λg=>2 - g.1) (0,⟨tr,yU,yU,Hp.emp⟩) ⟨f8 _,rfl,rfl,htr⟩ (v6.mk (λ_ _ h=>Ok.pick [0,3,2,1] rfl rfl h.emp) rfl rfl) ?_;rintro⟨j,tr,s34,s92,hB⟩ ⟨hj,hI⟩;dsimp only at *;match j,hj with
  | 0,_=>
   obtain⟨rfl,rfl,htr⟩:=hI;refine I1 cQ (e:=9) rfl hL 2 rfl dc λb o cs hcs hR hcell=>?_;subst hR;refine lQ 0 (hcell 0 _ rfl) ?_;refine X0 cQ rfl rfl 0 rfl dc ?_;refine nw dc dc ?_;refine I1 cQ (e:=9) rfl hL 3 rfl dc λb o cs hcs hR hcell=>?_;subst hR;refine lQ 0 (hcell 0 _ rfl) ?_;refine KN rfl ?_;intro b121;refine UG (i:=4) (x:=92) rfl ?_;intro b123;refine gF (f:=fS) cQ (e:=9) rfl (i:=3) rfl htr (j:=5) [92] rfl rfl rfl rfl dc λtr' htr'=>?_;refine IdQ cQ rfl rfl rfl rfl λbn cn hn2 hcn hdj=>?_;have hTw:BO hn2 92 (.slice (some ⟨bn,0,none⟩) 2 cn):=⟨bn,cn,rfl,hcn 0 dc,hcn 1 dc⟩
   have hd:hB.dj hn2:=hdj 1 (.hp hB) rfl;refine nw dc dc ?_;exact⟨(1,⟨tr',yU,.slice (some ⟨bn,0,none⟩) 2 cn,hB.join hn2⟩),⟨by dsimp only;omega,⟨rfl,hTw.mono (Hp.le_join_r hd),htr'⟩⟩,by dsimp only;omega,v6.mk (λ_ _ h=>Ok.join (c:=.hp (Hp.whole w)) (d:=.hp hB) (e:=.hp hn2) (s:=[.box bq (GJ yU (.slice (some ⟨bn,0,none⟩) 2 cn) tr'.v) 351,.hp tr'.h]) (Ok.pick [0,1,6,2,3] rfl rfl h)) rfl rfl⟩
  | 1,_=>
   obtain⟨rfl,hT92,htr⟩:=hI;refine I1 cQ (e:=9) rfl hL 0 rfl dc λb o cs hcs hR hcell=>?_;subst hR;refine lQ 0 (hcell 0 _ rfl) ?_;refine X0 cQ rfl rfl 0 rfl dc ?_;refine nw dc dc ?_;refine I1 cQ (e:=9) rfl hL 1 rfl dc λb o cs hcs hR hcell=>?_;subst hR;refine lQ 0 (hcell 0 _ rfl) ?_;refine KN rfl ?_;intro b121;refine UG (i:=4) (x:=34) rfl ?_;intro b123;refine gF (f:=fS) cQ (e:=9) rfl (i:=3) rfl htr (j:=5) [34] rfl rfl rfl rfl dc λtr' htr'=>?_;refine IdQ cQ rfl rfl rfl rfl λbn cn hn2 hcn hdj=>?_;have hTw:BO hn2 34 (.slice (some ⟨bn,0,none⟩) 2 cn):=⟨bn,cn,rfl,hcn 0 dc,hcn 1 dc⟩
   have hd:hB.dj hn2:=hdj 1 (.hp hB) rfl;refine nw dc dc ?_;exact⟨(2,⟨tr',.slice (some ⟨bn,0,none⟩) 2 cn,s92,hB.join hn2⟩),⟨by dsimp only;omega,⟨hTw.mono (Hp.le_join_r hd),hT92.mono (Hp.le_join_l _ _),htr'⟩⟩,by dsimp only;omega,v6.mk (λ_ _ h=>Ok.join (c:=.hp (Hp.whole w)) (d:=.hp hB) (e:=.hp hn2) (s:=[.box bq (GJ (.slice (some ⟨bn,0,none⟩) 2 cn) s92 tr'.v) 351,.hp tr'.h]) (Ok.pick [0,1,6,2,3] rfl rfl h)) rfl rfl⟩
  | 2,_=>
   refine⟨_,λw' _=>run_makeInterface (P:=Tryz.prog) (w:=w') 352 _ kr,?_⟩;exact⟨[.hp hB,.box bq (GJ s34 s92 tr.v) 351,.hp tr.h],⟨bq,⟨tr,s34,s92,hB⟩,rfl,rfl,hI⟩,λw' h=>h⟩
end Go.Proofs.YtpjhmeicbjkcdaaGreatDoor
namespace Go.Proofs
open Go.Shelf
def Tryz.lSt_ren:Go.Shelf.Ren:=⟨λ| 169=>137 | n=>n,λ| 70=>114 | 9=>9 | 0=>0 | 72=>116 | 37=>68 | 127=>239 | 3=>3 | 5=>5 | n=>n,λ| n=>n⟩
theorem Tryz.lSt:Go.Proofs.Lays.n169 Tryz.prog Tryz.lSt_ren:={
 mixed:=kr
 f169:=Tryz.func137.trans (congrArg some kr)
 t0:=Tryz.underlying0
 a0:=Tryz.isAgg0
 z0:=Tryz.sizeOf0
 v0:=Tryz.zeroValue0
 t3:=Tryz.underlying3
 a3:=Tryz.isAgg3
 z3:=Tryz.sizeOf3
 v3:=Tryz.zeroValue3
 t9:=Tryz.underlying9
 a9:=Tryz.isAgg9
 z9:=Tryz.sizeOf9
 v9:=Tryz.zeroValue9
 t37:=Tryz.underlying68
 a37:=Tryz.isAgg68
 z37:=Tryz.sizeOf68
 v37:=Tryz.zeroValue68
 t70:=Tryz.underlying114
 a70:=Tryz.isAgg114
 z70:=Tryz.sizeOf114
 v70:=Tryz.zeroValue114
 t72:=Tryz.underlying116
 a72:=Tryz.isAgg116
 z72:=Tryz.sizeOf116
 v72:=Tryz.zeroValue116
 t127:=Tryz.underlying239
 a127:=Tryz.isAgg239
 z127:=Tryz.sizeOf239
 v127:=Tryz.zeroValue239 }
def Tryz.lLe_ren:Go.Shelf.Ren:=⟨λ| 170=>136 | n=>n,λ| 70=>114 | 3=>3 | 0=>0 | 72=>116 | 37=>68 | 5=>5 | n=>n,λ| n=>n⟩
theorem Tryz.lLe:Go.Proofs.Lays.n170 Tryz.prog Tryz.lLe_ren:={
 mixed:=kr
 f170:=Tryz.func136.trans (congrArg some kr)
 t0:=Tryz.underlying0
 a0:=Tryz.isAgg0
 z0:=Tryz.sizeOf0
 v0:=Tryz.zeroValue0
 t3:=Tryz.underlying3
 a3:=Tryz.isAgg3
 z3:=Tryz.sizeOf3
 v3:=Tryz.zeroValue3
 t37:=Tryz.underlying68
 a37:=Tryz.isAgg68
 z37:=Tryz.sizeOf68
 v37:=Tryz.zeroValue68
 t70:=Tryz.underlying114
 a70:=Tryz.isAgg114
 z70:=Tryz.sizeOf114
 v70:=Tryz.zeroValue114
 t72:=Tryz.underlying116
 a72:=Tryz.isAgg116
 z72:=Tryz.sizeOf116
 v72:=Tryz.zeroValue116 }
end Go.Proofs
namespace Go.Dw
open Go Go.RowKit
def jX (B:Nat) (w:World):Hp:=λb=>if B<=b then w.heap[b]? else none
theorem SG (B:Nat) (w:World):(jX B w).In w:=λb o h=>by
 unfold jX at h;split at h
 ·exact h
 ·cases h
theorem Ok.above {w0 we w w':World} {h:Hp} (hok:Ok w0 [.hp (Hp.whole we),.hp h] w) (hb:Below we.heap.size w w'):Ok w0 [.hp (Hp.whole we),.hp (jX we.heap.size w')] w':=by
 refine⟨hb.os.trans hok.os,hb.tape.trans hok.tape,hb.output.trans hok.output,v8 hok.size hb.size,k8 _,λi c e=>?_,λi j c d hij e1 e2=>?_⟩
 ·match i,e with
  | 0,e=>
   simp[m8] at e;subst e;intro b o hbo;have h1:we.heap[b]?=some o:=hbo;have hlt:b < we.heap.size:=by
    rcases K8 b we.heap.size with g | g
    ·exact g
    ·rw[Array.getElem?_eq_none g] at h1;cases h1
   have h2:w.heap[b]?=some o:=hok.mem 0 _ rfl b o hbo;rw[hb.block b hlt];exact h2
  | 1,e=>simp[m8] at e;subst e;exact SG _ _
 ·have key:(Ch.hp (Hp.whole we)).h.dj (Ch.hp (jX we.heap.size w')).h:=λb=>by
   by_cases g:b < we.heap.size
   ·right;show jX _ _ b=none;unfold jX;rw[if_neg om]
   ·left;show we.heap[b]?=none;exact Array.getElem?_eq_none om
  match i,j,e1,e2 with
  | 0,0,_,_=>exact absurd rfl hij
  | 1,1,_,_=>exact absurd rfl hij
  | 0,1,e1,e2=>simp[m8] at e1 e2;subst e1;subst e2;exact key
  | 1,0,e1,e2=>simp[m8] at e1 e2;subst e1;subst e2;exact key.symm
theorem xM {we w:World} (h:(Hp.whole we).In w):we.heap.size<=w.heap.size:=by
 refine Nat.le_of_not_lt λg=>?_;have h1:we.heap[w.heap.size]?=some (we.heap[w.heap.size]'g):=Array.getElem?_eq_getElem g;have h2:w.heap[w.heap.size]?=some _:=h _ _ h1;rw[Array.getElem?_eq_none (k8 _)] at h2;cases h2
end Go.Dw
namespace Go.Proofs.YtpjhmeicbjkcdaaGreatDoor
open Go Go.RowKit Go.Dw Go.Shelf
def OF:Go.Shelf.Ren:=⟨λ| 167=>269 | 240=>183 | 276=>216 | n=>n,λ| 0=>0 | 4=>4 | 5=>5 | 9=>9 | 20=>20 | 37=>68 | 70=>114 | 72=>116 | 75=>196 | 80=>206 | 164=>263 | n=>n,λ| n=>n⟩
theorem Mx:Go.Proofs.Lays.n167 Tryz.prog OF where
 mixed:=kr
 f167:=Tryz.func269.trans (congrArg some kr)
 f240:=Tryz.func183.trans (congrArg some kr)
 f276:=Tryz.func216.trans (congrArg some kr)
 t0:=Tryz.underlying0
 a0:=Tryz.isAgg0
 z0:=Tryz.sizeOf0
 v0:=Tryz.zeroValue0
 t4:=Tryz.underlying4
 a4:=Tryz.isAgg4
 z4:=Tryz.sizeOf4
 v4:=Tryz.zeroValue4
 t5:=Tryz.underlying5
 a5:=Tryz.isAgg5
 z5:=Tryz.sizeOf5
 v5:=Tryz.zeroValue5
 t9:=Tryz.underlying9
 a9:=Tryz.isAgg9
 z9:=Tryz.sizeOf9
 v9:=Tryz.zeroValue9
 t20:=Tryz.underlying20
 a20:=Tryz.isAgg20
 z20:=Tryz.sizeOf20
 v20:=Tryz.zeroValue20
 t37:=Tryz.underlying68
 a37:=Tryz.isAgg68
 z37:=Tryz.sizeOf68
 v37:=Tryz.zeroValue68
 t70:=Tryz.underlying114
 a70:=Tryz.isAgg114
 z70:=Tryz.sizeOf114
 v70:=Tryz.zeroValue114
 t72:=Tryz.underlying116
 a72:=Tryz.isAgg116
 z72:=Tryz.sizeOf116
 v72:=Tryz.zeroValue116
 t75:=Tryz.underlying196
 a75:=Tryz.isAgg196
 z75:=Tryz.sizeOf196
 v75:=Tryz.zeroValue196
 t164:=Tryz.underlying263
 a164:=Tryz.isAgg263
 z164:=Tryz.sizeOf263
 v164:=Tryz.zeroValue263
theorem Kn:Go.Proofs.Builder.Extra Tryz.prog OF where
 sizeBuilder:=kr
 liesBuilder:=kr
 t5:=Tryz.underlying5
 a5:=Tryz.isAgg5
 z5:=Tryz.sizeOf5
 v5:=Tryz.zeroValue5
 infoByte:=kr
 cellsByte:=kr
 sizeByte:=kr
 neB5:=dc
theorem Ko:Go.Proofs.Builder.Extra Tryz.prog Tryz.lSt_ren where
 sizeBuilder:=kr
 liesBuilder:=kr
 t5:=Tryz.underlying5
 a5:=Tryz.isAgg5
 z5:=Tryz.sizeOf5
 v5:=Tryz.zeroValue5
 infoByte:=kr
 cellsByte:=kr
 sizeByte:=kr
 neB5:=dc
def SN (B b:Nat) (l:e8) (h:Hp):Prop:=(∃o,h b=some o)/\(B<=b->∀w:World,h.In w->Lib.IsBuilder 116 5 B b (Lib.byteCells l) w)
theorem SN.new (B b:Nat):SN B b [] (Ch.box b [.pointer none,zl] 116).h:=⟨⟨_,Hp.one_self _ _⟩,λhB w hin=>by
 have hb:w.heap[b]?=some (.cells #[.pointer none,zl] 116 (0,0)):=hin b _ (Hp.one_self _ _);exact .inl ⟨hB,zl,hb,⟨rfl,.inl ⟨rfl,rfl⟩⟩,by simp[Value.ownBlock]⟩⟩
theorem SN.ge {we:World} {b:Nat} {l:e8} {h:Hp} (hB:SN we.heap.size b l h) (hd:(Hp.whole we).dj h):we.heap.size<=b:=by
 obtain⟨o,ho⟩:=hB.1;refine Nat.le_of_not_lt λg=>?_;rcases hd b with h1 | h1
 ·have h2:we.heap[b]?=none:=h1;rw[Array.getElem?_eq_getElem g] at h2;cases h2
 ·rw[ho] at h1;cases h1
theorem SN.of {B b:Nat} {l:e8} {w:World} (h:Lib.BuilderAt 116 5 B b (pQ b) (Lib.byteCells l) w):SN B b l (jX B w):=by
 obtain⟨hB,v,hb,hown,hne⟩:=h;refine⟨⟨_,by unfold jX;rw[if_pos hB];exact hb⟩,λ_ w2 hin=>.inr ?_⟩;have up :∀k o,B<=k->w.heap[k]?=some o->w2.heap[k]?=some o:=λk o hk ho=>hin k o (by unfold jX;rw[if_pos hk];exact ho);refine⟨hB,v,up b _ hB hb,⟨hown.1,?_⟩,hne⟩;rcases hown.2 with h0 | ⟨g,cap,cur,e,hg,hh,rest⟩
 ·exact .inl h0
 ·exact .inr ⟨g,cap,cur,e,hg,up g _ hg hh,rest⟩
theorem AK (l:e8) (c:UInt8):Lib.byteCells l++[.int .u8 c.toNat]=Lib.byteCells (l++[c]):=by
 unfold Lib.byteCells;simp
theorem XN {we:World} {h:Hp} {b:Nat} {l:e8} (c:UInt8) (hB:SN we.heap.size b l h) (hBb:we.heap.size<=b) (hl:l.length < 1000000) {q:TV->List Ch->Prop} (k :∀h',SN we.heap.size b (l++[c]) h'->q (.v .nilIface) [.hp (Hp.whole we),.hp h']) :
  Q8 Tryz.prog [.hp (Hp.whole we),.hp h] 269 [pQ b,.int .u8 c.toNat] q:=by
 refine⟨λw0 w hok=>⟨enters_of Tryz.func269 kr rfl _,?_⟩⟩;have hcon:=Any.Builder_WriteByte Mx Kn we.heap.size b (Lib.byteCells l) (c.toNat:Int) w (hB.2 hBb w (hok.mem 1 _ rfl)) (by rw[Lib.byteCells_length];omega) (xM (hok.mem 0 _ rfl));change Calls Tryz.prog 269 _ _ _ at hcon
 refine hcon.mono ?_;rintro e w' ⟨rfl,hb,hbel⟩;refine⟨_,_,rfl,hok.above hbel,J6.set (i:=1) (c:=.hp h) rfl (λb cs T e=>by cases e),k _ ?_⟩;rw[AK] at hb;exact SN.of hb
theorem SF {B b:Nat} {l:e8} {h:Hp} (hB:SN B b l h) (hBb:B<=b) (w:World) (hin:h.In w):j6 Tryz.prog 136 #[pQ b] w (v7 w (iQ l.length)):=by
 have hcon:=Any.Builder_Len Tryz.lLe B b (Lib.byteCells l) w (hB.2 hBb w hin);change Calls Tryz.prog 136 _ _ _ at hcon
 refine gC (enters_of Tryz.func136 kr rfl _) hcon ?_;rintro e w' ⟨rfl,rfl⟩;exact⟨by rw[Lib.byteCells_length],Below.refl _ _,k8 _⟩
theorem Bl {we:World} {h:Hp} {b:Nat} {l:e8} (hB:SN we.heap.size b l h) (hBb:we.heap.size<=b) {q:TV->List Ch->Prop} (k :∀h',q (.v (sv l)) [.hp (Hp.whole we),.hp h']) :
  Q8 Tryz.prog [.hp (Hp.whole we),.hp h] 137 [pQ b] q:=by
 refine⟨λw0 w hok=>⟨enters_of Tryz.func137 kr rfl _,?_⟩⟩;have hcon:=Any.Builder_String_any Tryz.lSt Ko we.heap.size b l w (hB.2 hBb w (hok.mem 1 _ rfl)) (xM (hok.mem 0 _ rfl));change Calls Tryz.prog 137 _ _ _ at hcon
 refine hcon.mono ?_;rintro e w' ⟨rfl,hbel⟩;exact⟨_,_,rfl,hok.above hbel,J6.set (i:=1) (c:=.hp h) rfl (λb cs T e=>by cases e),k _⟩
def MN (c:UInt8):Prop:=c.toNat < 32\/126 < c.toNat
instance (c:UInt8):Decidable (MN c):=inferInstanceAs (Decidable (_\/_))
theorem dH (c:UInt8) (r:e8) (i:Nat) (out:e8):M7 (c::r) i out=if c=10 then (0,[],4) else if c=34 then (if 4096 < out.length then (0,[],5) else (i+1,out,0)) else if MN c then (i,[],14) else
  if c=92 then (if r.getD 0 0=34\/r.getD 0 0=92 then M7 (r.drop 1) (i+2) (out++[r.getD 0 0]) else (i,[],14)) else M7 r (i+1) (out++[c]):=by
 cases r with
 | nil=>
  unfold M7 MN;simp
 | cons e r=>
  conv=>lhs;unfold M7
  rfl
end Go.Proofs.YtpjhmeicbjkcdaaGreatDoor
namespace Go.Dw
open Go Go.RowKit
section
variable {X:R5} {all r:List Oper} {o:Oper} {Q:Tm->List Ch->Prop} {t:Tm} {s:List Ch}
theorem Mq (hg:o.guard=none) (h:FO X s t o λtv s'=>putk X.n t o.dst tv λt'=>Q7 X all r Q t' s'):Q7 X all (o::r) Q t s:=by
 unfold Q7 aI;rw[hg];exact h
theorem Mn {j d:Nat} {b:Bool} (hg:o.guard=some (j,b)) (hj:jB all j=some d) (ha:dS t d=some (.v (.bool b))) (h:FO X s ((d,.v (.bool b))::t) o λtv s'=>putk X.n ((d,.v (.bool b))::t) o.dst tv λt'=>Q7 X all r Q t' s'):Q7 X all (o::r) Q t s:=by
 unfold Q7 aI;rw[hg];dsimp only;rw[hj];dsimp only;rw[ha];cases b <;> exact h
theorem Mo {j d:Nat} {w b:Bool} (hg:o.guard=some (j,w)) (hj:jB all j=some d) (ha:dS t d=some (.v (.bool b))) (hy:b=w->FO X s ((d,.v (.bool w))::t) o λtv s'=>putk X.n ((d,.v (.bool w))::t) o.dst tv λt'=>Q7 X all r Q t' s')
  (hn:b = !w->putk X.n ((d,.v (.bool !w))::t) o.dst (.v undef) λt'=>Q7 X all r Q t' s):Q7 X all (o::r) Q t s:=by
 unfold Q7 aI;rw[hg];dsimp only;rw[hj];dsimp only;rw[ha];cases b <;> cases w
 ·exact hy rfl
 ·exact hn rfl
 ·exact hn rfl
 ·exact hy rfl
theorem Mp {j d:Nat} {w:Bool} (hg:o.guard=some (j,w)) (hj:jB all j=some d) (ha:dS t d=some (.v (.bool !w))) (hn:putk X.n ((d,.v (.bool !w))::t) o.dst (.v undef) λt'=>Q7 X all r Q t' s):Q7 X all (o::r) Q t s:=by
 unfold Q7 aI;rw[hg];dsimp only;rw[hj];dsimp only;rw[ha];cases w <;> exact hn
theorem Mr (hg:o.guard=none) (h :∀K:Tm->List Ch->Prop,(∀t s,Q7 X all r Q t s->K t s)->FO X s t o λtv s'=>putk X.n t o.dst tv λt'=>K t' s'):Q7 X all (o::r) Q t s:=Mq hg (h _ λ_ _ h=>h)
theorem w1j {X:R5} {all r:List Oper} {o:Oper} {Q:Tm->List Ch->Prop} {t:Tm} {s:List Ch} (h :∀K:Tm->List Ch->Prop,(∀t s,Q7 X all r Q t s->K t s)->FO X s t o λtv s'=>putk X.n t o.dst tv λt'=>K t' s') (hg:o.guard=none:=by rfl):Q7 X all (o::r) Q t s:=Mr hg h
theorem Jl {j d:Nat} {b:Bool} (hg:o.guard=some (j,b)) (hj:jB all j=some d) (ha:dS t d=some (.v (.bool b))) (h :∀K:Tm->List Ch->Prop,(∀t s,Q7 X all r Q t s->K t s)->FO X s ((d,.v (.bool b))::t) o λtv s'=>putk X.n ((d,.v (.bool b))::t) o.dst tv λt'=>K t' s'):Q7 X all (o::r) Q t s:=Mn hg hj ha (h _ λ_ _ h=>h)
theorem wGYj {X:R5} {all r:List Oper} {o:Oper} {Q:Tm->List Ch->Prop} {t:Tm} {s:List Ch} {j d:Nat} {b:Bool} (h :∀K:Tm->List Ch->Prop,(∀t s,Q7 X all r Q t s->K t s)->FO X s ((d,.v (.bool b))::t) o λtv s'=>putk X.n ((d,.v (.bool b))::t) o.dst tv λt'=>K t' s') (hg:o.guard=some (j,b):=by rfl) (hj:jB all j=some d:=by rfl) (ha:dS t d=some (.v (.bool b)):=by rfl):Q7 X all (o::r) Q t s:=Jl hg hj ha h
theorem dU {j d:Nat} {w b:Bool} (hg:o.guard=some (j,w)) (hj:jB all j=some d) (ha:dS t d=some (.v (.bool b))) (hy:b=w->∀K:Tm->List Ch->Prop,(∀t s,Q7 X all r Q t s->K t s)->FO X s ((d,.v (.bool w))::t) o λtv s'=>putk X.n ((d,.v (.bool w))::t) o.dst tv λt'=>K t' s')
  (hn:b = !w->∀K:Tm->List Ch->Prop,(∀t s,Q7 X all r Q t s->K t s)->putk X.n ((d,.v (.bool !w))::t) o.dst (.v undef) λt'=>K t' s):Q7 X all (o::r) Q t s:=Mo hg hj ha (λe=>hy e _ λ_ _ h=>h) (λe=>hn e _ λ_ _ h=>h)
theorem Jm {j d:Nat} {w:Bool} (hg:o.guard=some (j,w)) (hj:jB all j=some d) (ha:dS t d=some (.v (.bool !w))) (hn :∀K:Tm->List Ch->Prop,(∀t s,Q7 X all r Q t s->K t s)->putk X.n ((d,.v (.bool !w))::t) o.dst (.v undef) λt'=>K t' s):Q7 X all (o::r) Q t s:=Mp hg hj ha (hn _ λ_ _ h=>h)
theorem wGNj {X:R5} {all r:List Oper} {o:Oper} {Q:Tm->List Ch->Prop} {t:Tm} {s:List Ch} {j d:Nat} {w:Bool} (hn :∀K:Tm->List Ch->Prop,(∀t s,Q7 X all r Q t s->K t s)->putk X.n ((d,.v (.bool !w))::t) o.dst (.v undef) λt'=>K t' s) (hg:o.guard=some (j,w):=by rfl) (hj:jB all j=some d:=by rfl) (ha:dS t d=some (.v (.bool !w)):=by rfl):Q7 X all (o::r) Q t s:=Jm hg hj ha hn
theorem FR {j d:Nat} {w:Bool} {x:Array Value} (hg:o.guard=some (j,w)) (hj:jB all j=some d) (ha:dS t d=some (.v (.tuple x))) (hn :∀K:Tm->List Ch->Prop,(∀t s,Q7 X all r Q t s->K t s)->putk X.n t o.dst (.v undef) λt'=>K t' s):Q7 X all (o::r) Q t s:=by
 unfold Q7 aI;rw[hg];dsimp only;rw[hj];dsimp only;rw[ha];exact hn _ λ_ _ h=>h
theorem M6 {c:Operand} {x y:Code} {Q:Dw.Ex->Tm->List Ch->Prop} {b:Bool} (ha:YA t c=some (.v (.bool b))) (h1:b=true->WP X x Q t s) (h2:b=false->WP X y Q t s):WP X (.cond c x y) Q t s:=by
 show tvk s t c _
 unfold tvk;rw[ha];exact s8 h1 h2
theorem dA (h:Q t s):Q7 X all [] Q t s:=h
end
end Go.Dw
namespace Go.Proofs.YtpjhmeicbjkcdaaGreatDoor
open Go Go.RowKit Go.Dw
theorem Co {X:R5} {c:Code} {Q:Dw.Ex->Tm->List Ch->Prop} {t:Tm} {s:List Ch} (h :∀q':Dw.Ex->Tm->List Ch->Prop,(∀e t s,Q e t s->q' e t s)->WP X c q' t s):WP X c Q t s:=h Q λ_ _ _ h=>h
def TJ (s:e8):Nat×e8×Int:=M7 (s.drop 1) 1 []
theorem xG {s:e8} {n:Nat} (h:n < s.length):s.drop n=s.getD n 0::s.drop (n+1):=by
 rw[r5 h,i7,i6 h];rfl
theorem nS {c:UInt8} {k:UInt8} {z:Int} (hz:z=(k.toNat:Int)) (h : ¬ (c.toNat:Int)=z):c≠k:=λe=>h (by rw[e,hz])
theorem eH {c:UInt8} {k:UInt8} {z:Int} (hz:z=(k.toNat:Int)) (h:(c.toNat:Int)=z):c=k:=UInt8.toNat_inj.1 om
set_option maxRecDepth 20000 in
set_option maxHeartbeats 1000000 in
theorem PN (s:e8) (hs:s.length < 500000) (w:World):j6 Tryz.prog 230 #[sv s] w (fD w λv cs=>cs = []/\v=JR (TJ s)):=by
 have hz:=B6 s;refine enterZ (cx 72) [sv s] [.tmp 2,.tmp 3,.tmp 4] Tryz.func230 ?_;intro b5;refine u6.mkS (Nat×e8×Hp) (λg=>[(0,.v (sv s)),(2,.v (iQ g.1)),(5,.v (pQ b5))]) (λg=>[.hp (Hp.whole w),.hp g.2.2])
  (λg=>1<=g.1/\g.2.1.length < g.1/\M7 (s.drop g.1) g.1 g.2.1=TJ s/\g.1<=s.length+1/\SN w.heap.size b5 g.2.1 g.2.2) (λg=>s.length+1 - g.1) (1,[],(Ch.box b5 [.pointer none,zl] 116).h) ⟨k8 _,Nat.zero_lt_one,rfl,by dsimp only;omega,SN.new _ _⟩ (v6.mk (λ_ _ h=>h.boxHp) rfl rfl) ?_
 rintro⟨n,out,h⟩ ⟨hn1,hol,hq,hnl,hB⟩ hsat;dsimp only at *;have hBb:=hB.ge (hsat.dj 0 1 rfl rfl dc);clear hsat;refine Co λq' hq'=>?_;refine d8 (λh1=>?_) λh1=>?_
 ·have hn:n < s.length:=om
  rw[xG hn,dH,nK,G3,R2] at hq;generalize hd:s.getD (n+1) 0=d at *;refine X0 cQ rfl rfl n rfl hn ?_;generalize hc:s.getD n 0=c at *;conv=>whnf
  refine d8 (λh3=>?_) λh3=>?_
  ·have h3:c≠10:=nS (k:=10) rfl h3;rw[if_neg h3] at hq;refine X0 cQ rfl rfl n rfl hn ?_;rw[hc];refine d8 (λh5=>?_) λh5=>?_
   ·have h5:c=34:=eH (k:=34) rfl h5;rw[if_pos h5] at hq;refine k7 _ (λw' hm=>SF hB hBb w' (hm 1 _ rfl)) ?_;conv=>whnf
    refine d8 (λh6=>?_) λh6=>?_
    ·rw[if_pos (show 4096 < out.length by clear hq;omega)] at hq;exact hq' _ _ _ ⟨[],⟨rfl,by rw[<-hq];rfl⟩,pk [0]⟩
    ·rw[if_neg (show ¬ 4096 < out.length by clear hq;omega)] at hq;refine d8 (λ_=>?_) (λh7=>absurd h5 (nS (k:=34) rfl h7));refine nwo ?_;refine Bl hB hBb λh'=>?_;exact hq' _ _ _ ⟨[],⟨rfl,by rw[<-hq];rfl⟩,pk [0]⟩
   ·have h5:c≠34:=nS (k:=34) rfl h5;rw[if_neg h5] at hq;refine d8 (λh19=>absurd (eH (k:=34) rfl h19) h5) λ_=>?_;refine d8 (λh20=>?_) λh20=>?_
    ·rw[if_pos (.inl om)] at hq;exact hq' _ _ _ ⟨[],⟨rfl,by rw[<-hq];rfl⟩,pk [0]⟩
    ·refine d8 (λh21=>?_) λh21=>?_
     ·rw[if_pos (.inr om)] at hq;exact hq' _ _ _ ⟨[],⟨rfl,by rw[<-hq];rfl⟩,pk [0]⟩
     ·rw[if_neg (show ¬ MN c by rintro (g | g) <;> omega)] at hq;refine d8 (λh22=>?_) λh22=>?_
      ·have h22:c=92:=eH (k:=92) rfl h22;rw[if_pos h22] at hq;clear h20 h21 h5 h3 h22;show Q7 _ _ _ _ _ _
       refine w1j λK hK=>?_;apply hK;refine w1j λK hK=>?_;refine nwo ?_;(iterate 4 apply hK;refine w1j λK hK=>?_);apply hK;refine dU (by rfl) (by rfl) (by rfl) (λh23 K hK=>?_) λh23 K hK=>?_
       ·have hn2:n+1 < s.length:=by
         have:=of_decide_eq_false h23;omega
        (iterate 2 apply hK;refine wGYj λK hK=>?_);refine nwo ?_;apply hK;refine wGYj λK hK=>?_;refine X0 cQ rfl rfl (n+1) om hn2 ?_;rw[hd];(iterate 2 apply hK;refine wGYj λK hK=>?_);apply hK;refine dU (by rfl) (by rfl) (by rfl) (λh25 K hK=>?_) λh25 K hK=>?_;focus
         have h25:d≠34:=nS (k:=34) rfl (of_decide_eq_true h25);(iterate 2 apply hK;refine wGYj λK hK=>?_);refine nwo ?_;apply hK;refine wGYj λK hK=>?_;refine X0 cQ rfl rfl (n+1) om hn2 ?_;rw[hd];(iterate 2 apply hK;refine wGYj λK hK=>?_);apply hK;refine w1j λK hK=>?_;apply hK;refine dA ?_;refine M6 (by rfl) (λh27=>?_) λh27=>?_
         ·have h27:d≠92:=nS (k:=92) rfl (of_decide_eq_true h27);rw[if_neg (λg=>g.elim h25 h27)] at hq;exact hq' _ _ _ ⟨[],⟨rfl,by rw[<-hq];rfl⟩,pk [0]⟩
         focus
          have h27:d=92:=eH (k:=92) rfl (l9.1 (of_decide_eq_false h27));rw[if_pos (.inr h27)] at hq
        rotate_left
        focus
         have h25:d=34:=eH (k:=34) rfl (l9.1 (of_decide_eq_false h25));(iterate 4 apply hK;refine wGNj λK hK=>?_);apply hK;refine wGYj λK hK=>?_;apply hK;refine w1j λK hK=>?_;apply hK;refine dA ?_;rw[if_pos (.inl h25)] at hq
        all_goals
         refine nwo ?_;refine X0 cQ rfl rfl (n+1) om hn2 ?_;rw[hd];refine XN d hB hBb om λh' hB'=>?_;refine nwo ?_;exact hq' _ _ _ ⟨(n+2,out++[d],h'),⟨by dsimp only;omega,by simp;omega,hq,by dsimp only;omega,hB'⟩,by dsimp only;omega,v6.mk (λ_ _ h=>h) rfl rfl⟩
       ·have h23:=of_decide_eq_true h23;(iterate 5 apply hK;refine wGNj λK hK=>?_);(iterate 5 apply hK;refine FR (by rfl) (by rfl) (by rfl) λK hK=>?_);apply hK;refine wGNj λK hK=>?_;apply hK;refine w1j λK hK=>?_;apply hK;refine dA ?_;have e:d=0:=by rw[<-hd,i7,X4 om];rfl
        rw[e,if_neg dc] at hq;exact hq' _ _ _ ⟨[],⟨rfl,by rw[<-hq];rfl⟩,pk [0]⟩
      ·have h22:c≠92:=nS (k:=92) rfl h22;rw[if_neg h22] at hq;refine X0 cQ rfl rfl n rfl hn ?_;rw[hc];refine XN c hB hBb om λh' hB'=>?_;refine nwo ?_;exact hq' _ _ _ ⟨(n+1,out++[c],h'),⟨by dsimp only;omega,by simp;omega,hq,by dsimp only;omega,hB'⟩,by dsimp only;omega,v6.mk (λ_ _ h=>h) rfl rfl⟩
  ·have h3:c=10:=j9 λg=>h3 λe=>g (eH (k:=10) rfl e);rw[if_pos h3] at hq;exact hq' _ _ _ ⟨[],⟨rfl,by rw[<-hq];rfl⟩,pk [0]⟩
 ·rw[bW om] at hq;exact hq' _ _ _ ⟨[],⟨rfl,by rw[<-hq];rfl⟩,pk [0]⟩
end Go.Proofs.YtpjhmeicbjkcdaaGreatDoor
namespace Go.Proofs.YtpjhmeicbjkcdaaGreatDoor
open Go Go.RowKit Go.Dw
def wG (s:e8) (k l c:Nat):List Value:=[sv s,iQ k,iQ l,iQ c]
def JD (h:Hp) (b:Nat) (s:e8) (k l c:Nat):Prop:=iK 295 4 h (some ⟨b,0,none⟩) 1 1 (wG s k l c)
theorem QK (p:Nat×Nat) (l:e8) (c:UInt8):K6 p (l++[c])=bX (K6 p l) c:=by
 unfold K6;rw[List.foldl_append];rfl
theorem NW (p:Nat×Nat) :∀l:e8,(K6 p l).1<=p.1+l.length/\(K6 p l).2<=p.2+l.length+1:=by
 intro l;induction l generalizing p with
 | nil=>exact⟨k8 _,by show p.2<=p.2+0+1;omega⟩
 | cons c r ih=>
  have h:=ih (bX p c);have h1:(bX p c).1<=p.1+1/\(bX p c).2<=p.2+1+1/\((bX p c).2=p.2+1\/(bX p c).2=1):=by
   unfold bX;split <;> simp
  show (K6 (bX p c) r).1<=p.1+(r.length+1)/\(K6 (bX p c) r).2<=p.2+(r.length+1)+1
  rcases h1.2.2 with g | g <;> rw[g] at h <;> omega
theorem JW (s:e8) (a k:Nat) (h:a+k < s.length):(s.drop a).take (k+1)=(s.drop a).take k++[s.getD (a+k) 0]:=by
 have:=I8 (s.drop a) k (by rw[k9];omega);rw[this,List.getElem_drop,i7,i6 h];rfl
theorem QJ {s:e8} {b a l c n:Nat} {h:Hp} (w:World) (hin:h.In w) (hP:JD h b s a l c) (hn:a+n<=s.length) (hs:s.length < 1000000) (hl:l < 10000000) (hc:c < 10000000) :
  j6 Tryz.prog 234 #[pQ b,iQ n] w (O6 w h λ_ h' cs=>cs = []/\JD h' b s (a+n) (K6 (l,c) ((s.drop a).take n)).1 (K6 (l,c) ((s.drop a).take n)).2):=by
 refine enterMZ (cx 43) [pQ b,iQ n] hin [] Tryz.func234 ?_;refine u6.mk (Nat×Hp) (λg=>[(0,.v (pQ b)),(4,.v (iQ n)),(5,.v (iQ g.1))]) (λg=>[.hp ((Hp.whole w).minus h),.hp g.2])
  (λg=>g.1<=n/\JD g.2 b s (a+g.1) (K6 (l,c) ((s.drop a).take g.1)).1 (K6 (l,c) ((s.drop a).take g.1)).2) (λg=>n - g.1) (0,h) ⟨f8 _,hP⟩ (v6.mk (λ_ _ h=>h) rfl rfl) ?_
 rintro⟨k,hh⟩ ⟨hk,hQ⟩;dsimp only at *;have hb:=NW (l,c) ((s.drop a).take k);rw[j8] at hb;dsimp only at hb;refine d8 (λh1=>?_) λh1=>?_
 ·have hk':k < n:=om
  have hsn:=QK (l,c) ((s.drop a).take k) (s.getD (a+k) 0);rw[<-JW s a k om] at hsn;generalize hL:(K6 (l,c) ((s.drop a).take k)).1=L at *;generalize hC:(K6 (l,c) ((s.drop a).take k)).2=C at *;have hpp:K6 (l,c) ((s.drop a).take k)=(L,C):=by rw[<-hL,<-hC]
  rw[hpp] at hsn;unfold JD wG at hQ;refine bG (j:=3) cQ (i:=1) rfl hQ rfl rfl ?_;refine nwo ?_;refine SO (j:=3) cQ (i:=1) rfl hQ rfl rfl rfl dc rfl λh2 hQ2=>?_;have hQ3:iK 295 4 h2 (some ⟨b,0,none⟩) 1 1 [sv s,iQ ((a+k:Nat):Int),iQ L,iQ ((C:Int)+1)]:=hQ2;refine s6.by_order cQ (.take 0 <| .take 1 <| .take 2 <| .take 3 <| .take 4 <| .take 5 <| .take 6 <| .take 7 <| .take 8 <| .take 9 <| .done) kr ?_;refine bG (j:=0) cQ (i:=1) rfl hQ3 rfl rfl ?_;refine bG (j:=1) cQ (i:=1) rfl hQ3 rfl rfl ?_;refine X0 cQ rfl rfl (a+k) rfl om ?_;generalize s.getD (a+k) 0=d at *;refine d8 (λh3=>?_) λh3=>?_;focus
   have hd:d=10:=UInt8.toNat_inj.1 (by show d.toNat=10;omega);have hp1:bX (L,C) d=(L+1,1):=by unfold bX;rw[if_pos hd]
   rw[hp1] at hsn;refine bG (j:=2) cQ (i:=1) rfl hQ3 rfl rfl ?_;refine nwo ?_;refine SO (j:=2) cQ (i:=1) rfl hQ3 rfl rfl rfl dc rfl λh3' hQ4=>?_;have hQ5:iK 295 4 h3' (some ⟨b,0,none⟩) 1 1 [sv s,iQ ((a+k:Nat):Int),iQ ((L:Int)+1),iQ ((C:Int)+1)]:=hQ4;refine SO (j:=3) cQ (i:=1) rfl hQ5 rfl rfl rfl dc rfl λh4 hQ6=>?_;have hQ7:iK 295 4 h4 (some ⟨b,0,none⟩) 1 1 [sv s,iQ ((a+k:Nat):Int),iQ ((L:Int)+1),iQ 1]:=hQ6;refine bG (j:=1) cQ (i:=1) rfl hQ7 rfl rfl ?_;refine nwo ?_;refine SO (j:=1) cQ (i:=1) rfl hQ7 rfl rfl rfl dc rfl λh5 hQ8=>?_;have hQ9:JD h5 b s (a+(k+1)) (L+1) 1:=by
    have e:((a+k:Nat):Int)+1=((a+(k+1):Nat):Int):=om
    have e2:(L:Int)+1=((L+1:Nat):Int):=om
    rw[e,e2] at hQ8;exact hQ8
  rotate_left
  focus
   have hd : ¬ d=10:=λe=>h3 (by rw[e];rfl);have hp1:bX (L,C) d=(L,C+1):=by unfold bX;rw[if_neg hd]
   rw[hp1] at hsn;refine bG (j:=1) cQ (i:=1) rfl hQ3 rfl rfl ?_;refine nwo ?_;refine SO (j:=1) cQ (i:=1) rfl hQ3 rfl rfl rfl dc rfl λh5 hQ8=>?_;have hQ9:JD h5 b s (a+(k+1)) L (C+1):=by
    have e:((a+k:Nat):Int)+1=((a+(k+1):Nat):Int):=om
    have e2:(C:Int)+1=((C+1:Nat):Int):=om
    rw[e,e2] at hQ8;exact hQ8
  all_goals
   refine nwo ?_;exact⟨(k+1,h5),⟨by dsimp only;omega,by dsimp only;rw[hsn];exact hQ9⟩,by dsimp only;omega,v6.mk (λ_ _ h=>h) rfl rfl⟩
 ·have:k=n:=om
  subst this;exact⟨hh,[],⟨rfl,hQ⟩,λw' h=>h⟩
theorem CC {s:e8} {b a l c:Nat} {h:Hp} (w:World) (hin:h.In w) (hP:JD h b s a l c) (ha:a<=s.length) :
  j6 Tryz.prog 236 #[pQ b] w (v7 w (sv (s.drop a))):=by
 have hP2:iK 295 4 (Hp.whole w) (some ⟨b,0,none⟩) 1 1 (wG s a l c):=by
  refine⟨hP.1,?_⟩;rcases hP.2 with ⟨h0,_⟩ | ⟨b',arr,e1,hb,rest⟩
  ·cases h0
  ·exact .inr ⟨b',arr,e1,hin.whole _ _ hb,rest⟩
 refine enterZ (cx 12) [pQ b] [.tmp 2] Tryz.func236 ?_;refine s6.by_order cQ (.take 0 <| .take 1 <| .take 2 <| .take 3 <| .take 4 <| .take 5 <| .take 6 <| .take 7 <| .take 8 <| .take 9 <| .done) kr ?_;unfold wG at hP2;refine bG (j:=0) cQ (i:=0) rfl hP2 rfl rfl ?_;refine bG (j:=1) cQ (i:=0) rfl hP2 rfl rfl ?_;refine lY cQ rfl rfl a s.length (.inr ⟨_,_,rfl,rfl⟩) (.inl ⟨rfl,rfl⟩) ha (k8 _) ?_;rw[p9];exact⟨[],⟨rfl,rfl⟩,pk [0]⟩
end Go.Proofs.YtpjhmeicbjkcdaaGreatDoor
namespace Go.Proofs.YtpjhmeicbjkcdaaGreatDoor
open Go Go.RowKit Go.Dw
def fC (x:Nat×Nat×Nat):List Value:=[iQ x.1,.func (.func x.2.1) #[] #[],.func (.func x.2.2) #[] #[]]
def V0:List (Nat×Nat×Nat):=[(1,225,226),(2,227,228),(3,229,230),(4,231,232)]
def uO (c:UInt8):List Bool:=[P4 c,l8 c,decide (c=34),true]
def eA (c:UInt8):Nat:=if P4 c=true then 0 else if l8 c=true then 1 else if c=34 then 2 else 3
structure XZ (h:Hp) (b1 b2 bp:Nat) (s:e8) (a:Nat):Prop where
 s:h.cell? ⟨b1,0,none⟩=some (sv s)
 p:h.cell? ⟨b2,0,none⟩=some (pQ bp)
 a:h.cell? ⟨bp,1,none⟩=some (iQ a)
theorem XZ.mono {h k:Hp} {b1 b2 bp:Nat} {s:e8} {a:Nat} (c:XZ h b1 b2 bp s a) (l:h.le k):XZ k b1 b2 bp s a:=⟨l.cell c.s,l.cell c.p,l.cell c.a⟩
theorem MM {b1 b2 bp:Nat} {s:e8} {a:Nat} (w:World) (hc:XZ (Hp.whole w) b1 b2 bp s a) (ha:a < s.length) {x:Nat×Nat×Nat} {r:Bool} (hg :∀w',j6 Tryz.prog x.2.1 #[.int .u8 (s.getD a 0).toNat] w' (v7 w' (.bool r))) :
  j6 Tryz.prog 239 #[.agg #[iQ x.1,.func (.func x.2.1) #[] #[],.func (.func x.2.2) #[] #[]],pQ b1,pQ b2] w (v7 w (.bool r)):=by
 refine enterZ (cx 14) [.agg #[iQ x.1,.func (.func x.2.1) #[] #[],.func (.func x.2.2) #[] #[]],pQ b1,pQ b2] [.tmp 4] Tryz.func239 ?_;intro b3;refine s6.by_order cQ (.take 0 <| .take 1 <| .take 2 <| .take 3 <| .take 4 <| .take 5 <| .take 6 <| .take 7 <| .run 8 <| .take 9 <| .done) kr ?_;refine lQ 0 hc.s ?_;refine lQ 0 hc.p ?_;refine lQ 0 hc.a ?_;refine X0 cQ rfl rfl a rfl ha ?_;refine k7 _ (λw' hm=>hg w') ?_;refine⟨sK,?_⟩;exact⟨[],⟨rfl,rfl⟩,pk [0]⟩
theorem SE (c:UInt8) (k:Nat) (hk:k < V0.length) (hk2:k < (uO c).length) (w:World):j6 Tryz.prog V0[k].2.1 #[.int .u8 c.toNat] w (v7 w (.bool (uO c)[k])):=by
 match k,hk,hk2 with
 | 0,_,_=>exact vO c w
 | 1,_,_=>exact dP c w
 | 2,_,_=>exact KL c w
 | 3,_,_=>exact KU c w
theorem Be (c:UInt8) {k:Nat} (hk:k < (uO c).length) (h:(uO c)[k]=true) (ho :∀i (hi:i < (uO c).length),i < k->(uO c)[i]=false):eA c=k:=by
 have hl:(uO c).length=4:=rfl;unfold eA;match k,hk,h,ho with
 | 0,_,h,_=>rw[if_pos (show P4 c=true from h)]
 | 1,_,h,ho=>
  have h0:P4 c=false:=ho 0 (show 0 < 4 by decide) dc;rw[h0,if_neg dc,if_pos (show l8 c=true from h)]
 | 2,_,h,ho=>
  have h0:P4 c=false:=ho 0 (show 0 < 4 by decide) dc;have h1:l8 c=false:=ho 1 (show 1 < 4 by decide) dc;have h2:c=34:=of_decide_eq_true h;rw[h0,h1,if_neg dc,if_neg dc,if_pos h2]
 | 3,_,_,ho=>
  have h0:P4 c=false:=ho 0 (show 0 < 4 by decide) dc;have h1:l8 c=false:=ho 1 (show 1 < 4 by decide) dc;have h2 : ¬ c=34:=of_decide_eq_false (ho 2 (show 2 < 4 by decide) dc);rw[h0,h1,if_neg dc,if_neg dc,if_neg h2]
theorem choose_spec {b1 b2 bp:Nat} {s:e8} {a:Nat} {a1:Option Addr} {n1 c1:Nat} (w:World) (hc:XZ (Hp.whole w) b1 b2 bp s a) (ha:a < s.length) (hL:Sl (B0 fC) 3 (Hp.whole w) a1 n1 c1 V0) :
  j6 Tryz.prog 238 #[.slice a1 n1 c1,.func (.func 239) ⟨[]⟩ ⟨[pQ b1,pQ b2]⟩] w (v7 w (iQ (eA (s.getD a 0)))):=by
 have hn:=hL.len;have hl4:V0.length=4:=rfl;generalize hcc:s.getD a 0=c;have hl5:(uO c).length=4:=rfl;refine enterZ (cx 19) [.slice a1 n1 c1,.func (.func 239) ⟨[]⟩ ⟨[pQ b1,pQ b2]⟩] [.tmp 4] Tryz.func238 ?_;refine u6.mk Nat (λk=>[(0,.v (.slice a1 n1 c1)),(1,.v (.func (.func 239) ⟨[]⟩ ⟨[pQ b1,pQ b2]⟩)),(7,.v (iQ n1)),(8,.v (iQ k))]) (λ_=>[.hp (Hp.whole w)])
  (λk=>k < 4/\∀i (hi:i < (uO c).length),i < k->(uO c)[i]=false) (λk=>4 - k) 0 ⟨dc,λi _ h=>by omega⟩ (v6.mk (λ_ _ h=>h) rfl rfl) ?_
 rintro k ⟨hk,ho⟩;dsimp only at *;refine d8 (λh1=>?_) λh1=>?_
 ·have hk1:k < V0.length:=om
  have hk2:k < (uO c).length:=om
  refine I1 cQ (e:=290) rfl hL k rfl hk1 λb9 o9 cs hcs hR hcell2=>?_;subst hR;refine T7 cQ (i:=0) rfl hcell2 rfl ?_;refine k7 (.bool (uO c)[k]) (λw' hm=>?_) ?_
  ·have hb:=MM (x:=V0[k]) (r:=(uO c)[k]) w' (hc.mono (hm 0 _ rfl).whole) ha (by rw[hcc];exact SE c k hk1 hk2);exact hb
  refine s8 (λh3=>?_) λh3=>?_
  ·exact⟨[],⟨by rw[Be c hk2 h3 ho],rfl⟩,pk [0]⟩
  ·have hk3:k≠3:=λe=>by subst e;cases h3
   refine nwo ?_;exact⟨k+1,⟨om,λi hi h=>by
    rcases K8 i k with g | g
    ·exact ho i hi g
    ·have:i=k:=om
     subst this;exact h3⟩,om,v6.mk (λ_ _ h=>h) rfl rfl⟩
 ·omega
end Go.Proofs.YtpjhmeicbjkcdaaGreatDoor
namespace Go.Proofs.YtpjhmeicbjkcdaaGreatDoor
open Go Go.RowKit Go.Dw
abbrev El:=kX×Int
def pM:Nat->e8->Nat×Nat->List El
 | 0,_,p=>[((5,[],p.1,p.2),0)]
 | f+1,s,p=>match s with
  | []=>[((5,[],p.1,p.2),0)]
  | c::r=>
   if c=32\/c=10 then pM f r (bX p c)
   else if c=35 then pM f (s.drop (s9 (λc=>!decide (c=10)) s)) (K6 p (s.take (s9 (λc=>!decide (c=10)) s)))
   else
    let t:=A6 s
    if t.2.2.2≠0 then [((t.2.1,t.2.2.1,(K6 p (s.take t.1)).1,(K6 p (s.take t.1)).2),t.2.2.2)]
    else ((t.2.1,t.2.2.1,p.1,p.2),0)::pM f (s.drop t.1) (K6 p (s.take t.1))
def AG:List El->List kX->List kX×Nat×Nat×Int
 | [],out=>(out,0,0,0)
 | x::r,out=>if x.2≠0 then ([],x.1.2.2.1,x.1.2.2.2,x.2) else AG r (out++[x.1])
theorem tB :∀(f:Nat) (s:e8) (p:Nat×Nat) (out:List kX),AG (pM f s p) out=cE f s p out
 | 0,_,p,out=>rfl
 | f+1,[],p,out=>rfl
 | f+1,c::r,p,out=>by
  have e:pM (f+1) (c::r) p=if c=32\/c=10 then pM f r (bX p c)
   else if c=35 then pM f ((c::r).drop (s9 (λc=>!decide (c=10)) (c::r))) (K6 p ((c::r).take (s9 (λc=>!decide (c=10)) (c::r))))
   else if (A6 (c::r)).2.2.2≠0 then [(((A6 (c::r)).2.1,(A6 (c::r)).2.2.1,(K6 p ((c::r).take (A6 (c::r)).1)).1,(K6 p ((c::r).take (A6 (c::r)).1)).2),(A6 (c::r)).2.2.2)]
    else (((A6 (c::r)).2.1,(A6 (c::r)).2.2.1,p.1,p.2),0)::pM f ((c::r).drop (A6 (c::r)).1) (K6 p ((c::r).take (A6 (c::r)).1)):=rfl
  have e2:cE (f+1) (c::r) p out=if c=32\/c=10 then cE f r (bX p c) out
   else if c=35 then cE f ((c::r).drop (s9 (λc=>!decide (c=10)) (c::r))) (K6 p ((c::r).take (s9 (λc=>!decide (c=10)) (c::r)))) out
   else if (A6 (c::r)).2.2.2≠0 then ([],(K6 p ((c::r).take (A6 (c::r)).1)).1,(K6 p ((c::r).take (A6 (c::r)).1)).2,(A6 (c::r)).2.2.2)
    else cE f ((c::r).drop (A6 (c::r)).1) (K6 p ((c::r).take (A6 (c::r)).1)) (out++[((A6 (c::r)).2.1,(A6 (c::r)).2.2.1,p.1,p.2)]):=rfl
  rw[e,e2];by_cases h1:c=32\/c=10
  ·rw[if_pos h1,if_pos h1];exact tB f _ _ _
  ·rw[if_neg h1,if_neg h1];by_cases h2:c=35
   ·rw[if_pos h2,if_pos h2];exact tB f _ _ _
   ·rw[if_neg h2,if_neg h2];by_cases h3:(A6 (c::r)).2.2.2≠0
    ·rw[if_pos h3,if_pos h3];unfold AG;rw[if_pos h3]
    ·rw[if_neg h3,if_neg h3];unfold AG;rw[if_neg (λh=>h rfl)];exact tB f _ _ _
theorem CW {f k:Nat} {s:e8} {p:Nat×Nat} (hk:k < s.length) (h:s.getD k 0=32\/s.getD k 0=10):pM (f+1) (s.drop k) p=pM f (s.drop (k+1)) (K6 p ((s.drop k).take 1)):=by
 rw[xG hk];show (if s.getD k 0=32\/s.getD k 0=10 then pM f (s.drop (k+1)) (bX p (s.getD k 0)) else _)=_
 rw[if_pos h];rfl
theorem WR {f k:Nat} {s:e8} {p:Nat×Nat} (hk:k < s.length) (h:s.getD k 0=35):pM (f+1) (s.drop k) p=pM f (s.drop (k+s9 (λc=>!decide (c=10)) (s.drop k))) (K6 p ((s.drop k).take (s9 (λc=>!decide (c=10)) (s.drop k)))):=by
 rw[<-R2,xG hk];show (if s.getD k 0=32\/s.getD k 0=10 then _ else if s.getD k 0=35 then _ else _)=_
 rw[if_neg (by rw[h];decide),if_pos h]
theorem Ax {f k:Nat} {s:e8} {p:Nat×Nat} (hk:k < s.length) (h1 : ¬ s.getD k 0=32) (h2 : ¬ s.getD k 0=10) (h : ¬ s.getD k 0=35):pM (f+1) (s.drop k) p =
  if (A6 (s.drop k)).2.2.2≠0 then [(((A6 (s.drop k)).2.1,(A6 (s.drop k)).2.2.1,(K6 p ((s.drop k).take (A6 (s.drop k)).1)).1,(K6 p ((s.drop k).take (A6 (s.drop k)).1)).2),(A6 (s.drop k)).2.2.2)]
    else (((A6 (s.drop k)).2.1,(A6 (s.drop k)).2.2.1,p.1,p.2),0)::pM f (s.drop (k+(A6 (s.drop k)).1)) (K6 p ((s.drop k).take (A6 (s.drop k)).1)):=by
 rw[<-R2,xG hk];show (if s.getD k 0=32\/s.getD k 0=10 then _ else if s.getD k 0=35 then _ else _)=_
 rw[if_neg (by simp only[h1,h2,or_self,not_false_eq_true]),if_neg h]
theorem Ay {f:Nat} {s:e8} {p:Nat×Nat} {k:Nat} (hk:s.length<=k):pM f (s.drop k) p = [((5,[],p.1,p.2),0)]:=by
 rw[H4 hk];cases f <;> rfl
theorem Dy :∀(l:e8) (i:Nat) (out:e8),(M7 l i out).1<=i+l.length:=by
 intro l;induction hn:l.length using gY generalizing l with
 | _ n ih=>
  intro i out;match l,hn with
  | [],_=>exact f8 _
  | [c],hn=>
   subst hn;unfold M7;split
   ·exact f8 _
   ·split
    ·split
     ·exact f8 _
     ·exact k8 _
    ·split
     ·exact aO _ _
     ·split
      ·exact aO _ _
      ·exact f8 _
  | c::e::r,hn=>
   unfold M7;simp only[d7] at hn;split
   ·exact f8 _
   ·split
    ·split
     ·exact f8 _
     ·show i+1<=_;omega
    ·split
     ·exact aO _ _
     ·split
      ·split
       ·have:=ih r.length om r rfl (i+2) (out++[e]);omega
       ·exact aO _ _
      ·have:=ih (r.length+1) om (e::r) rfl (i+1) (out++[c]);omega
theorem Dn (s:e8):P6 s<=s.length:=by
 unfold P6;split
 ·rename_i h
  obtain⟨x,hx,he⟩:=E6.1 h;have he:=of_decide_eq_true he;have hl:x.length=2:=by
   simp only[dD,A8,Q0,or_false] at hx;rcases hx with rfl | rfl | rfl | rfl <;> rfl
  rw[<-he,j8] at hl;omega
 ·split
  ·rename_i h;omega
  ·exact f8 _
theorem Ek (s:e8):(K5 s).1<=s.length:=by
 have h1:=oW l8 s;have h2:=oW l8 (s.drop (s9 l8 s+1));rw[k9] at h2;unfold K5;dsimp only;split
 ·rename_i h;show s9 l8 s+1+_<=_;omega
 ·exact h1
theorem Dk (s:e8) (h0:0 < s.length):(A6 s).1<=s.length:=by
 unfold A6;dsimp only;split
 ·have:=Dy (s.drop 1) 1 [];rw[k9] at this;show (M7 (s.drop 1) 1 []).1<=_;omega
 ·split
  ·split
   ·exact f8 _
   ·exact oW _ _
  ·split
   ·split
    ·exact f8 _
    ·split
     ·exact Ek s
     ·exact f8 _
   ·split
    ·exact f8 _
    ·exact Dn s
def KG (s:e8):Nat×e8×Int:=((A6 s).1,(A6 s).2.2.1,(A6 s).2.2.2)
theorem mR (c:UInt8):eA c < V0.length:=by
 have e:V0.length=4:=rfl;unfold eA;rw[e];split
 ·decide
 ·split
  ·decide
  ·split <;> decide
theorem DP (s:e8):((V0[eA (s.getD 0 0)]'(mR _)).1:Int)=(A6 s).2.1/\
  ((eA (s.getD 0 0)=0/\KG s=FN s)\/(eA (s.getD 0 0)=1/\l8 (s.getD 0 0)=true/\KG s=EN s)\/(eA (s.getD 0 0)=2/\KG s=TJ s)\/(eA (s.getD 0 0)=3/\KG s=TM s)):=by
 have e:A6 s=if s.getD 0 0=34 then ((M7 (s.drop 1) 1 []).1,3,(M7 (s.drop 1) 1 []).2.1,(M7 (s.drop 1) 1 []).2.2)
  else if P4 (s.getD 0 0) then (if 40 < s9 K7 s then (0,1,[],5) else (s9 K7 s,1,s.take (s9 K7 s),0))
  else if l8 (s.getD 0 0) then (if 400 < (K5 s).1 then (0,2,[],5) else if bO (s.take (K5 s).1) (K5 s).2 then ((K5 s).1,2,s.take (K5 s).1,0) else (0,2,[],3))
  else if P6 s=0 then (0,4,[],14) else (P6 s,4,s.take (P6 s),0):=rfl
 unfold KG;have key :∀k (hk:k < V0.length),eA (s.getD 0 0)=k->(V0[eA (s.getD 0 0)]'(mR _)).1=V0[k].1:=λk hk h=>by subst h;rfl
 by_cases h1:s.getD 0 0=34
 ·have hc:eA (s.getD 0 0)=2:=by rw[h1];rfl
  rw[key 2 dc hc,e,if_pos h1];exact⟨rfl,.inr (.inr (.inl ⟨hc,rfl⟩))⟩
 ·rw[if_neg h1] at e;by_cases h2:P4 (s.getD 0 0)=true
  ·have hc:eA (s.getD 0 0)=0:=by unfold eA;rw[if_pos h2]
   rw[key 0 dc hc,e,if_pos h2];unfold FN;split <;> exact⟨rfl,.inl ⟨hc,rfl⟩⟩
  ·rw[if_neg h2] at e;by_cases h3:l8 (s.getD 0 0)=true
   ·have hc:eA (s.getD 0 0)=1:=by unfold eA;rw[if_neg h2,if_pos h3]
    rw[key 1 dc hc,e,if_pos h3];unfold EN;split
    ·exact⟨rfl,.inr (.inl ⟨hc,h3,rfl⟩)⟩
    ·split <;> exact⟨rfl,.inr (.inl ⟨hc,h3,rfl⟩)⟩
   ·rw[if_neg h3] at e;have hc:eA (s.getD 0 0)=3:=by unfold eA;rw[if_neg h2,if_neg h3,if_neg h1]
    rw[key 3 dc hc,e];unfold TM;split <;> exact⟨rfl,.inr (.inr (.inr ⟨hc,rfl⟩))⟩
theorem EG (s:e8) (h0:0 < s.length) (hs:s.length < 400000) (w:World) (hT:kU (Hp.whole w)) :
  j6 Tryz.prog (V0[eA (s.getD 0 0)]'(mR _)).2.2 #[sv s] w (fD w λv cs=>cs = []/\v=JR (KG s)):=by
 have key :∀k (hk:k < V0.length),eA (s.getD 0 0)=k->(V0[eA (s.getD 0 0)]'(mR _)).2.2=V0[k].2.2:=λk hk h=>by subst h;rfl
 obtain⟨_,h⟩:=DP s;rcases h with ⟨hc,hr⟩ | ⟨hc,hd,hr⟩ | ⟨hc,hr⟩ | ⟨hc,hr⟩ <;> rw[key _ dc hc,hr]
 ·have:=PD s om w;refine⟨this.1,this.2.mono λe w' he=>?_⟩;obtain⟨v,cs,rfl,h1,h2,h3⟩:=he;exact⟨v,cs,rfl,h1,h3,h2⟩
 ·exact HB s om h0 hd w
 ·exact PN s om w
 ·exact FX s w hT
end Go.Proofs.YtpjhmeicbjkcdaaGreatDoor
namespace Go.Dw
open Go Go.RowKit
section
variable {P:Program} {ops:Array Oper} {Q:Exit->Act->World->Prop} {md:Region.Mode} {S:World->Prop} {N:Nat->Prop}
theorem Dt {r:Option Nat} {o:Oper} (h :∀c,o.op≠.defer c) (ρ:Operand->Value):o.semAt (F0 r).round ρ=execOp ρ o:=Oper.semAt_eq _ _ _ h
theorem qI {r:Option Nat} {i:Nat} {o:Oper} {v:Value} {a:Act} (hd :∀c,o.op≠.defer c) (hi:ops[i]?=some o) (hy:YieldsIf P ops S o v a)
  {K:Act->World->Prop} {w:World} (hS:S w) (h:K (a.put o.dst v) w):wpOpIn (F0 r) 0 P ops Q i K a w:=by
 unfold wpOpIn;simp only[hi];rcases hy with ⟨hw,hv⟩ | ⟨hw,rfl⟩
 ·simp only[hw,if_true,Oper.wpIn];refine⟨λ_ _=>trivial,?_⟩;rw[Dt hd,hv w hS];exact h
 ·simp only[hw,iN,if_false];exact⟨λ_ _=>trivial,h⟩
theorem FM {r:Option Nat} {j:Nat} {oi oj:Oper} {v:Value} (hdj :∀c,oj.op≠.defer c) (hj:ops[j]?=some oj) (hap:oi.apart ops oj=true)
  (hsi :∀cs b,oi.op≠.select cs b) (hsj :∀cs b,oj.op≠.select cs b)
  (hQ :∀c a w,Q (.panic c) (a.put oi.dst v) w->Q (.panic c) a w) {K:Act->World->Prop} {a:Act} {w:World}
  (hy:YieldsIf P ops S oi v a) (h:wpOpIn (F0 r) 0 P ops Q j K (a.put oi.dst v) w) :
  wpOpIn (F0 r) 0 P ops Q j (λa' w'=>YieldsIf P ops S oi v a'/\K (a'.put oi.dst v) w') a w:=by
 obtain⟨h1,h2,h3⟩:=Oper.apart_spec hap;have keep :∀(a:Act),YieldsIf P ops S oi v a->∀u,YieldsIf P ops S oi v (a.put oj.dst u):=λa hy u=>
  hy.of_same (execOp_put oi hsi a oj.dst u h3) (wanted_put oi a oj.dst u h3)
 have keepD :∀d,YieldsIf P ops S oi v { a with defers:=d::a.defers }:=λd=>hy.of_same rfl rfl;unfold wpOpIn at *;simp only[hj] at *;rw[wanted_put oj a oi.dst v h1] at h;split
 ·rename_i hw
  simp only[hw,if_true] at h;unfold Oper.wpIn at *;refine⟨λ_ _=>trivial,?_⟩;have h:=h.2;rw[Dt hdj,execOp_put oj hsj a oi.dst v h1] at h;rw[Dt hdj];generalize (execOp a.eval oj).run P w=r at *;cases r with
  | ok x w'=>
   cases x <;> simp only[Oper.uponIn] at h ⊢
   case value u=>exact⟨keep a hy u,by rw[<-Act.put_comm a v u h2];exact h⟩
   case skip=>exact⟨keep a hy _,by rw[<-Act.put_comm a v undef h2];exact h⟩
   case defer d=>
    refine⟨keep _ (keepD d) _,?_⟩;rw[<-Act.put_comm _ v undef h2,<-Act.put_defers];exact h
   case enter f args=>
    refine⟨h.1,CallsIn.mono h.2 λe w'' he=>?_⟩;cases e with
    | returned u=>exact⟨keep a hy u,by rw[<-Act.put_comm a v u h2];exact he⟩
    | panicked c=>exact hQ _ _ _ he
    | outgrown=>exact he
   case row row args=>exact⟨h.1,RowsIn.mono h.2 λu w'' he=>⟨keep a hy u,by rw[<-Act.put_comm a v u h2];exact he⟩⟩
   case round l f tmps assign body=>
    refine⟨h.1,RoundIn.mono h.2 λe w'' he=>?_⟩;cases e with
    | returned u=>exact⟨keep a hy u,by rw[<-Act.put_comm a v u h2];exact he⟩
    | panicked c=>exact hQ _ _ _ he
    | outgrown=>exact he
  | halt x w'=>
   cases x <;> simp only[Oper.uponIn] at h ⊢
   case panic u=>exact hQ _ _ _ h
 ·rename_i hw
  simp only[hw] at h;exact⟨λ_ _=>trivial,keep a hy _,by rw[<-Act.put_comm a v undef h2];exact h.2⟩
def cR (r:Option Nat) (P:Program) (md:Region.Mode) (ops:Array Oper) (Q:Exit->Act->World->Prop) (S:World->Prop) (N:Nat->Prop):Nat->Array Bool->Act->World->Prop
 | 0,listed,a,w=>Region.ready md ops listed = []/\Q .normal a w
 | fuel+1,listed,a,w=>
  (Region.ready md ops listed = []->Q .normal a w)/\
  ∀i∈Region.ready md ops listed,wpOpIn (F0 r) 0 P ops Q i (λa' w'=>(N i->S w')/\cR r P md ops Q S N fuel (listed.setIfInBounds i true) a' w') a w
theorem uZ {r:Option Nat} :∀(fuel:Nat) (listed:Array Bool) (a:Act) (w:World),cR r P md ops Q S N fuel listed a w->wpAnyIn (F0 r) 0 P md ops Q fuel listed a w
 | 0,_,_,_,h=>h
 | fuel+1,_,_,_,h=>⟨h.1,λi hi=>wpOpIn_mono (λa' w' h'=>uZ fuel _ a' w' h'.2) (h.2 i hi)⟩
theorem AY {r:Option Nat} (hdf :∀(j:Nat) (o:Oper),ops[j]?=some o->∀c,o.op≠.defer c) {i:Nat} {oi:Oper} {v:Value} (hi:ops[i]?=some oi) (hsel :∀(j:Nat) (o:Oper) cs b,ops[j]?=some o->o.op≠.select cs b)
  (hQ :∀c a w,Q (.panic c) (a.put oi.dst v) w->Q (.panic c) a w)
  (hN :∀j oj,ops[j]?=some oj->(∀e∈oj.after,Region.binds md e=true->e.on≠i)->N j) :
  ∀(fuel:Nat) (listed:Array Bool) (a:Act) (w:World),
   (∀j oj,ops[j]?=some oj->j≠i->listed.getD j true=false->(∀e∈oj.after,Region.binds md e=true->e.on≠i)->oi.apart ops oj=true)->
   i∈Region.ready md ops listed->YieldsIf P ops S oi v a->S w->
   cR r P md ops Q S N fuel (listed.setIfInBounds i true) (a.put oi.dst v) w->cR r P md ops Q S N (fuel+1) listed a w:=by
 intro fuel;induction fuel with
 | zero=>
  intro listed a w _ hr hy hS H;refine⟨λh=>(by rw[h] at hr;cases hr),λj hj=>?_⟩;by_cases hji:j=i
  ·subst hji;exact qI (hdf _ _ hi) hi hy hS ⟨λ_=>hS,H⟩
  ·have:=ready_mono hj hji;rw[H.1] at this;cases this
 | succ fuel ih=>
  intro listed a w hfree hr hy hS H;refine⟨λh=>(by rw[h] at hr;cases hr),λj hj=>?_⟩;by_cases hji:j=i
  ·subst hji;exact qI (hdf _ _ hi) hi hy hS ⟨λ_=>hS,H⟩
  ·have h1:=H.2 j (ready_mono hj hji);obtain⟨hjun,oj,hoj,hall⟩:=mem_ready.1 hj;have hnot :∀e∈oj.after,Region.binds md e=true->e.on≠i:=λe he hb heq=>by
    have h1:=hall e he hb;have h0:=(mem_ready.1 hr).1;rw[heq] at h1;rcases K8 i listed.size with h' | h'
    ·simp[h'] at h0 h1;rw[h0] at h1;cases h1
    ·simp[Array.getElem?_eq_none h'] at h1
   have hNj:=hN j oj hoj hnot;have h2:=FM (hdf _ _ hoj) hoj (hfree j oj hoj hji hjun hnot) (λcs b=>hsel i oi cs b hi) (λcs b=>hsel j oj cs b hoj) hQ hy h1;have hfree' :∀k ok,ops[k]?=some ok->k≠i->(listed.setIfInBounds j true).getD k true=false->
     (∀e∈ok.after,Region.binds md e=true->e.on≠i)->oi.apart ops ok=true:=λk ok hk hki hun hno=>by
    refine hfree k ok hk hki ?_ hno;by_cases hjk:j=k
    ·subst hjk;exact hjun
    ·rw[getD_set_ne true hjk] at hun;exact hun
   refine wpOpIn_mono (λa' w' h3=>⟨h3.2.1,ih (listed.setIfInBounds j true) a' w' hfree' (ready_mono hr (Ne.symm hji)) h3.1 (h3.2.1 hNj) ?_⟩) h2;rw[Array.setIfInBounds_comm _ _ hji];exact h3.2.2
theorem DI {r:Option Nat} {listed:Array Bool} {a:Act} {w:World} (hr:Region.ready md ops listed = []) (h:Q .normal a w) :
  ∀fuel,cR r P md ops Q S N fuel listed a w
 | 0=>⟨hr,h⟩
 | _+1=>⟨λ_=>h,by rw[hr];simp⟩
end
def uY (X:R5) (ops:List Oper) (i:Nat) (need:Bool) (s0:List Ch) (cont:Tm->List Ch->Prop) (t:Tm) (s:List Ch):Prop:=match iX ops i with
 | some o=>aI ops o t
   (λt=>YL X s t o λtv s'=>putk X.n t o.dst tv λt'=>match need with | true=>X8 s0 s'/\cont t' s' | false=>cont t' s')
   (λt=>putk X.n t o.dst (.v undef) λt'=>match need with | true=>X8 s0 s/\cont t' s | false=>cont t' s)
 | none=>False
def Z9 (X:R5) (ops:List Oper) (takes:List Nat) (s0:List Ch):DT->(Tm->List Ch->Prop)->Tm->List Ch->Prop
 | .done,Q,t,s=>Q t s
 | .take i k,Q,t,s=>match iX ops i with
  | some o=>match SP o.op with
   | true=>aI ops o t
    (λt=>wq X s0 t o.op λtv=>putk X.n t o.dst tv λt'=>Z9 X ops takes s0 k Q t' s)
    (λt=>putk X.n t o.dst (.v undef) λt'=>Z9 X ops takes s0 k Q t' s)
   | false=>False
  | none=>False
 | .run i k,Q,t,s=>uY X ops i (aX ops takes i k) s0 (λt s=>Z9 X ops takes s0 k Q t s) t s
 | .two i k j k',Q,t,s=>uY X ops i (aX ops takes i k) s0 (λt s=>Z9 X ops takes s0 k Q t s) t s/\uY X ops j (aX ops takes j k') s0 (λt s=>Z9 X ops takes s0 k' Q t s) t s
 | .three i k j k' m k'',Q,t,s=>uY X ops i (aX ops takes i k) s0 (λt s=>Z9 X ops takes s0 k Q t s) t s/\uY X ops j (aX ops takes j k') s0 (λt s=>Z9 X ops takes s0 k' Q t s) t s/\uY X ops m (aX ops takes m k'') s0 (λt s=>Z9 X ops takes s0 k'' Q t s) t s
section
variable {X:R5} {n:Nat} {t:Tm} {s:List Ch} {a:Act}
theorem PF (hX:X.Good) {r:Option Nat} {ds:List Deferred} {ops:List Oper} {takes:List Nat} {w0:World} {Q:Exit->Act->World->Prop} {q:Tm->List Ch->Prop} {s0:List Ch}
  (hQ :∀t s a w,Fr X.n t s a->Ok w0 s w->q t s->Q .normal (wd a ds) w) (hP :∀c a w,¬ Q (.panic c) a w) (hsel:Region.noSelect ops.toArray=true) (hdf :∀(j:Nat) (o:Oper),ops.toArray[j]?=some o->∀c,o.op≠.defer c) :
  ∀(d:DT) (fuel:Nat) (listed:Array Bool) (t:Tm) (s:List Ch) (a:Act) (w:World),d.steps<=fuel->d.ok ops.toArray listed=true->(∀i∈d.takes,i∈takes)->
   Z9 X ops takes s0 d q t s->Fr X.n t s a->Ok w0 s w->(d.takes≠[]->X8 s0 s)->
   cR r X.P .any ops.toArray Q (gN s0) (λj=>T4 ops takes j=true) fuel listed (wd a ds) w:=by
 have hP' :∀(oi:Oper) (v:Value) c a w,Q (.panic c) (a.put oi.dst v) w->Q (.panic c) a w:=λ_ _ c _ w h=>absurd h (hP c _ w);have subval :∀{s s':List Ch},X8 s s'->∀tv v,TV.val s tv=some v->TV.val s' tv=some v:=by
  intro s s' hs tv v hv;cases tv with
  | v x=>exact hv
  | bx i off=>
   obtain⟨b,cs,T,h1,h2⟩:=qR hv;simp[TV.val,(U6 hs i _ h1).resolve_right (λe=>by cases e),h2]
  | bs i n=>
   obtain⟨b,cs,T,h1,h2⟩:=NG hv;simp[TV.val,(U6 hs i _ h1).resolve_right (λe=>by cases e),h2]
 have sub_mem :∀{s:List Ch} {w:World},X8 s0 s->Ok w0 s w->gN s0 w:=λhs hok i c e=>by
  rcases U6 hs i c e with h | rfl
  ·exact hok.mem i c h
  ·exact Hp.emp_in _
 have runc :∀(i:Nat) (k:DT) (fuel:Nat) (listed:Array Bool) (t:Tm) (s:List Ch) (a:Act) (w:World),
   (∀(t:Tm) (s:List Ch) (a:Act) (w:World),Z9 X ops takes s0 k q t s->Fr X.n t s a->Ok w0 s w->(k.takes≠[]->X8 s0 s)->
    cR r X.P .any ops.toArray Q (gN s0) (λj=>T4 ops takes j=true) fuel (listed.setIfInBounds i true) (wd a ds) w)->
   uY X ops i (aX ops takes i k) s0 (λt s=>Z9 X ops takes s0 k q t s) t s->Fr X.n t s a->Ok w0 s w->
   wpOpIn (F0 r) 0 X.P ops.toArray Q i (λa' w'=>(T4 ops takes i=true->gN s0 w')/\cR r X.P .any ops.toArray Q (gN s0) (λj=>T4 ops takes j=true) fuel (listed.setIfInBounds i true) a' w') (wd a ds) w:=by
  intro i k fuel listed t s a w ih h hf hok;unfold uY at h;rw[R8] at h;cases ho:ops[i]? with
  | none=>simp[ho] at h
  | some o=>
   simp only[ho] at h;have fin :∀{t':Tm} {s':List Ch} {a':Act} {w':World},(match aX ops takes i k with | true=>X8 s0 s'/\Z9 X ops takes s0 k q t' s' | false=>Z9 X ops takes s0 k q t' s')->
     Fr X.n t' s' a'->Ok w0 s' w'->(T4 ops takes i=true->gN s0 w')/\cR r X.P .any ops.toArray Q (gN s0) (λj=>T4 ops takes j=true) fuel (listed.setIfInBounds i true) (wd a' ds) w':=by
    intro t' s' a' w' hm hf' hok';cases hn:aX ops takes i k with
    | true=>
     simp only[hn] at hm;exact⟨λ_=>sub_mem hm.1 hok',ih t' s' a' w' hm.2 hf' hok' λ_=>hm.1⟩
    | false=>
     simp only[hn] at hm;unfold aX at hn;cases hs:T4 ops takes i with
     | true=>simp[hs] at hn
     | false=>
      simp only[hs] at hn;refine⟨(λh=>by cases h),ih t' s' a' w' hm hf' hok' λhk=>?_⟩;cases hkk:k.takes with
      | nil=>exact absurd hkk hk
      | cons x xs=>simp[hkk] at hn
   unfold wpOpIn;have ho':ops.toArray[i]?=some o:=by simpa using ho
   simp only[ho'];rcases S8 hf h with ⟨hw,t',hf',hy⟩ | ⟨hw,t',hf',hn⟩
   ·rw[if_pos (show Region.wanted o (yielded ops.toArray (wd a ds).tmps)=true from hw)];exact NE (r:=r) (ds:=ds) hX hf' hy hok λtv v s' w' hok' hk hv hp=>by
     obtain⟨t'',h1,h2⟩:=(hf'.keep hk).putk hv hp;exact fin h1 h2 hok'
   ·rw[if_neg (show ¬ Region.wanted o (yielded ops.toArray (wd a ds).tmps)=true by rw[show (wd a ds).tmps=a.tmps from rfl,hw];simp)];obtain⟨t'',h1,h2⟩:=hf'.putk (tv:=.v undef) rfl hn;rw[lF];exact⟨λ_ _=>trivial,fin h1 h2 hok⟩
 intro d;induction d with
 | done=>
  intro fuel listed t s a w _ hok _ h hf hw _;exact DI (by simpa [DT.ok] using hok) (hQ t s a w hf hw h) fuel
 | take i k ih=>
  intro fuel listed t s a w hst hok htk h hf hw hsub;have hs0:X8 s0 s:=hsub (by simp[DT.takes]);cases fuel with
  | zero=>simp[DT.steps] at hst
  | succ fuel=>
   simp only[DT.ok,k6] at hok;obtain⟨⟨hr,hfree⟩,hk⟩:=hok;simp only[Z9] at h;rw[R8] at h;cases ho:ops[i]? with
   | none=>simp[ho] at h
   | some o=>
    simp only[ho] at h;have ho':ops.toArray[i]?=some o:=by simpa using ho
    cases hq:SP o.op with
    | false=>simp[hq] at h
    | true=>
     simp only[hq] at h;have main :∀(v:Value) (t'':Tm),YieldsIf X.P ops.toArray (gN s0) o v (wd a ds)->Fr X.n t'' s (a.put o.dst v)->Z9 X ops takes s0 k q t'' s->
       cR r X.P .any ops.toArray Q (gN s0) (λj=>T4 ops takes j=true) (fuel+1) listed (wd a ds) w:=by
      intro v t'' hy hf'' hd;refine AY hdf ho' (Region.noSelect_spec hsel) (hP' o v) (λj oj hj hno=>?_) fuel listed (wd a ds) w (Region.free_spec ho' hfree) (by simpa using hr) hy (sub_mem hs0 hw)
       (by rw[lF];exact ih fuel _ t'' s _ w (by simp[DT.steps] at hst;omega) hk (λj hj=>htk j (by simp[DT.takes,hj])) hd hf'' hw λ_=>hs0)
      unfold T4;refine E6.2 ⟨i,htk i (by simp[DT.takes]),?_⟩;rw[R8];have hj':ops[j]?=some oj:=by simpa using hj
      simp only[hj',Z7,J8,k6,not_and];intro e he hb heq;exact hno e (Array.mem_toList_iff.1 he) hb (J4 heq)
     rcases S8 hf h with ⟨hwt,t',hf',hy⟩ | ⟨hwt,t',hf',hn⟩
     ·have hfw:AX t' s0 a:=λj tv v h1 h2=>hf'.w j tv v h1 (subval hs0 tv v h2);obtain⟨tv,v,h1,h2,h3⟩:=NC hX hfw hq hy;obtain⟨t'',h4,h5⟩:=hf'.putk (subval hs0 tv v h1) h2;exact main v t'' (.inl ⟨hwt,λw' hw'=>by rw[show (wd a ds).eval=a.eval from qM a ds];exact h3 w' hw'⟩) h5 h4
     ·obtain⟨t'',h4,h5⟩:=hf'.putk (tv:=.v undef) rfl hn;exact main undef t'' (.inr ⟨hwt,rfl⟩) h5 h4
 | run i k ih=>
  intro fuel listed t s a w hst hok htk h hf hw hsub;cases fuel with
  | zero=>simp[DT.steps] at hst
  | succ fuel=>
   simp only[DT.ok,k6,decide_eq_true_eq] at hok;refine⟨(λh0=>by rw[hok.1] at h0;cases h0),λi' hi'=>?_⟩;rw[hok.1] at hi';have:i'=i:=by simpa using hi'
   subst this;exact runc i' k fuel listed t s a w (λt s a w h hf hw hs=>ih fuel _ t s a w (by simp[DT.steps] at hst;omega) hok.2 (λj hj=>htk j (by simpa [DT.takes] using hj)) h hf hw hs) h hf hw
 | two i k j k' ih ih'=>
  intro fuel listed t s a w hst hok htk h hf hw hsub;cases fuel with
  | zero=>simp[DT.steps] at hst
  | succ fuel=>
   simp only[DT.ok,k6,decide_eq_true_eq] at hok;simp only[DT.steps] at hst;have hm:=Y6 k.steps k'.steps;have hm':=W4 k.steps k'.steps;refine⟨(λh0=>by rw[hok.1.1] at h0;cases h0),λi' hi'=>?_⟩;rw[hok.1.1] at hi';rcases (by simpa using hi':i'=i\/i'=j) with rfl | rfl
   ·exact runc i' k fuel listed t s a w (λt s a w h hf hw hs=>ih fuel _ t s a w (v8 hm (E1 hst)) hok.1.2 (λj hj=>htk j (by simp[DT.takes,hj])) h hf hw hs) h.1 hf hw
   ·exact runc i' k' fuel listed t s a w (λt s a w h hf hw hs=>ih' fuel _ t s a w (v8 hm' (E1 hst)) hok.2 (λj hj=>htk j (by simp[DT.takes,hj])) h hf hw hs) h.2 hf hw
 | three i k j k' m k'' ih ih' ih''=>
  intro fuel listed t s a w hst hok htk h hf hw hsub;cases fuel with
  | zero=>simp[DT.steps] at hst
  | succ fuel=>
   simp only[DT.ok,k6,decide_eq_true_eq] at hok;simp only[DT.steps] at hst;have hm0:=Y6 (tI k.steps k'.steps) k''.steps;have hm:=v8 (Y6 k.steps k'.steps) hm0;have hm':=v8 (W4 k.steps k'.steps) hm0;have hm'':=W4 (tI k.steps k'.steps) k''.steps;refine⟨(λh0=>by rw[hok.1.1.1] at h0;cases h0),λi' hi'=>?_⟩;rw[hok.1.1.1] at hi';rcases (by simpa using hi':i'=i\/i'=j\/i'=m) with rfl | rfl | rfl
   ·exact runc i' k fuel listed t s a w (λt s a w h hf hw hs=>ih fuel _ t s a w (v8 hm (E1 hst)) hok.1.1.2 (λj hj=>htk j (by simp[DT.takes,hj])) h hf hw hs) h.1 hf hw
   ·exact runc i' k' fuel listed t s a w (λt s a w h hf hw hs=>ih' fuel _ t s a w (v8 hm' (E1 hst)) hok.1.2 (λj hj=>htk j (by simp[DT.takes,hj])) h hf hw hs) h.2.1 hf hw
   ·exact runc i' k'' fuel listed t s a w (λt s a w h hf hw hs=>ih'' fuel _ t s a w (v8 hm'' (E1 hst)) hok.2 (λj hj=>htk j (by simp[DT.takes,hj])) h hf hw hs) h.2.2 hf hw
def Ci (ops:List Oper):Bool:=ops.all λo=>match o.op with | .defer _=>false | _=>true
theorem LD {ops:List Oper} (h:Ci ops=true) (j:Nat) (o:Oper) (hj:ops.toArray[j]?=some o) (c:Call):o.op≠.defer c:=λe=>by
 have hm:o∈ops:=by
  have:ops[j]?=some o:=by simpa using hj
  exact MX this
 have:=z6.1 h o hm;rw[e] at this;cases this
theorem qC.by_order0 {X:R5} (hX:X.Good) {ops:List Oper} {Q:Tm->List Ch->Prop} {t:Tm} {s s0:List Ch} (d:DT) (hd:(Ci ops && d.fine ops)=true) (hs:X8 s0 s) (h:Z9 X ops d.takes s0 d Q t s):qC X ops Q t s:=by
 refine⟨λr ds w0 w a Q' hok hf hQ hP=>?_⟩;unfold DT.fine at hd;simp only[k6] at hd;obtain⟨h0,⟨h1,h2⟩,h3⟩:=hd;have hlen:ops.toArray.size=ops.length:=sQ
 rw[hlen];exact uZ _ _ _ _ (PF hX (λt s a w hf hok hq=>hQ t s a w hok hf hq) hP h1 (LD h0) d ops.length _ t s a _ (E0 h2) h3 (λi hi=>hi) h hf hok.drew λ_=>hs)
end
end Go.Dw
namespace Go.Dw
open Go Go.RowKit
theorem Ok.same {w0 w:World} {s:List Ch} {i:Nat} {c d:Ch} (hi:m8 s i=some c) (hd:d.h=c.h) (hok:Ok w0 s w):Ok w0 (x9 s i d) w:=by
 refine⟨hok.os,hok.tape,hok.output,hok.size,hok.drawn,λk x hx=>?_,λj k x y hjk h1 h2=>?_⟩
 ·rw[W0 hi] at hx;split at hx
  ·cases hx;rw[hd];exact hok.mem i c hi
  ·exact hok.mem k x hx
 ·rw[W0 hi] at h1 h2;split at h1 <;> split at h2
  ·omega
  ·cases h1;rw[hd];exact hok.disj _ _ _ _ om hi h2
  ·cases h2;rw[hd];exact hok.disj _ _ _ _ om h1 hi
  ·exact hok.disj _ _ _ _ hjk h1 h2
end Go.Dw
namespace Go.Proofs.YtpjhmeicbjkcdaaGreatDoor
open Go Go.RowKit Go.Dw
def Aw (t:kX):Value:=.agg #[iQ t.1,sv t.2.1,iQ t.2.2.1,iQ t.2.2.2]
def Kq (x:El):List Value:=[Aw x.1,iQ x.2]
structure Jg (b1 b2:Nat) (s:e8) (a:Option Addr) (n c:Nat) (h:Hp):Prop where
 hs:h.cell? ⟨b1,0,none⟩=some (sv s)
 hc:h.cell? ⟨b2,0,none⟩=some (.slice a n c)
 L:Sl (B0 fC) 3 h a n c V0
 T:kU h
theorem Jg.mono {b1 b2:Nat} {s:e8} {a:Option Addr} {n c:Nat} {h k:Hp} (r:Jg b1 b2 s a n c h) (l:h.le k):Jg b1 b2 s a n c k:=⟨l.cell r.hs,l.cell r.hc,r.L.mono (j7 _) l,r.T.mono l⟩
theorem JD.at {h:Hp} {b k l c:Nat} {s:e8} (hP:JD h b s k l c):h.cell? ⟨b,1,none⟩=some (iQ k):=by
 unfold JD wG at hP;obtain⟨b',arr,e,_,_,h4⟩:=hP.cell (j:=1) (v:=iQ k) rfl;cases e;exact h4
theorem JD.new (b:Nat) (s:e8):JD (Ch.box b (wG s 0 1 1) 295).h b s 0 1 1:=by
 have:=w8.ofBox (f:=λ_:Unit=>wG s 0 1 1) (sz:=4) (T:=295) (b:=b) (λ_=>rfl) [()] rfl rfl dc;exact this.2
theorem QR (c:UInt8) (w:World):j6 Tryz.prog 237 #[.int .u8 c.toNat] w (v7 w (.bool (!decide (c=10)))):=by
 refine enterZ (cx 5) [.int .u8 c.toNat] [.tmp 2] Tryz.func237 ?_;have:=FE c 10;exact⟨[],⟨by rw[<-this];exact congrArg Value.bool decide_not,rfl⟩,pk [0]⟩
set_option maxRecDepth 20000 in
set_option maxHeartbeats 1000000 in
theorem DO {b1 b2:Nat} (s:e8) (hs:s.length < 100000) (a:Option Addr) (n c:Nat) :
  Cw Tryz.prog 233 [pQ b1,pQ b2] Kq (pM (s.length+1) s (1,1)) (Jg b1 b2 s a n c) True:=by
 intro w h l J Jx hin hRd hJ0 hY hend;clear hend;have hn:=hRd.L.len;have hcl:V0.length=4:=rfl;obtain⟨xs,hxs⟩ :∃xs,xs=pM (s.length+1) s (1,1):=⟨_,rfl⟩
 rw[<-hxs] at hY ⊢;obtain⟨c0,hc0⟩ :∃c0,c0=(Hp.whole w).minus h:=⟨_,rfl⟩
 refine At (X:=cx 108) cQ (args:=[.func (.yield l) #[] #[],pQ b1,pQ b2]) hin [] Tryz.func233 rfl rfl rfl rfl rfl ?_;rw[<-hc0] at hRd hY ⊢;refine lQ 0 hRd.hs ?_;intro b13;intro b4;refine u6.mk ((Nat×Nat×Nat×Nat)×List El×Hp×Hp) (λg=>[(0,.v (.func (.yield l) #[] #[])),(1,.v (pQ b1)),(2,.v (pQ b2)),(4,.bx 3 0)])
  (λg=>[.hp c0,.hp g.2.2.2,.hp g.2.2.1,.box b4 [pQ b13] 293])
  (λg=>(g.1.2.1<=s.length/\s.length - g.1.2.1 < g.1.1/\g.1.2.2.1<=2*g.1.2.1+1/\g.1.2.2.2<=2*g.1.2.1+1)/\xs=g.2.1++pM g.1.1 (s.drop g.1.2.1) (g.1.2.2.1,g.1.2.2.2)/\JD g.2.2.1 b13 s g.1.2.1 g.1.2.2.1 g.1.2.2.2/\J g.2.1 g.2.2.2) (λg=>s.length - g.1.2.1)
  ((s.length+1,0,1,1),[],(Ch.box b13 (wG s 0 1 1) 295).h,h)
  ⟨⟨f8 _,by dsimp only;omega,by dsimp only;omega,by dsimp only;omega⟩,by dsimp only;rw[hxs];rfl,JD.new b13 s,hJ0⟩ (v6.mk (λ_ _ h=>Ok.same (i:=2) (c:=.box b13 (wG s 0 1 1) 295) (d:=.hp (Ch.box b13 (wG s 0 1 1) 295).h) rfl rfl h) rfl rfl) ?_
 rintro⟨⟨f,k,ln,co⟩,pre,hP,h1⟩ ⟨⟨hk,hf,hln,hco⟩,hx,hpl,hJ⟩;dsimp only at *;obtain⟨f',rfl⟩ :∃f',f=f'+1:=⟨f - 1,om⟩
 have hpl0:=hpl;unfold JD wG at hpl0;have hpass :∀(w':World) (m:Nat),hP.In w'->k+m<=s.length->j6 Tryz.prog 234 #[pQ b13,iQ m] w' (O6 w' hP λ_ h' cs=>cs = []/\JD h' b13 s (k+m) (K6 (ln,co) ((s.drop k).take m)).1 (K6 (ln,co) ((s.drop k).take m)).2):=λw' m hi hm=>QJ w' hi hpl hm om om om;have hbnd :∀m,0 < m->k+m<=s.length->(K6 (ln,co) ((s.drop k).take m)).1<=2*(k+m)+1/\(K6 (ln,co) ((s.drop k).take m)).2<=2*(k+m)+1:=λm h0 hm=>by
  have:=NW (ln,co) ((s.drop k).take m);rw[j8,k9] at this;dsimp only at this;omega
 refine s6.by_order cQ (.take 0 <| .take 1 <| .take 2 <| .take 3 <| .take 4 <| .take 5 <| .take 6 <| .done) kr ?_;refine bG (j:=1) cQ (i:=2) rfl hpl0 rfl rfl ?_;refine lQ 0 hRd.hs ?_;have hz:=B6 s;refine d8 (λh2=>?_) λh2=>?_
 ·have hks:k < s.length:=om
  refine s6.by_order cQ (.take 0 <| .take 1 <| .take 2 <| .take 3 <| .take 4 <| .take 5 <| .take 6 <| .done) kr ?_;refine lQ 0 hRd.hs ?_;refine bG (j:=1) cQ (i:=2) rfl hpl0 rfl rfl ?_;refine X0 cQ rfl rfl k rfl hks ?_;generalize hd:s.getD k 0=d at *;have hb1:=hbnd 1 dc om;refine d8 (λh3=>?_) λh3=>?_;focus
   refine d8 (λ_=>?_) (λh4=>absurd h3 h4);have hd1:d=32:=eH rfl h3;have he:=CW (f:=f') (p:=(ln,co)) hks (.inl (hd.trans hd1))
  rotate_left
  focus
   refine d8 (λh4=>?_) λh4=>?_;focus
    have hd1:d=10:=eH rfl h4;have he:=CW (f:=f') (p:=(ln,co)) hks (.inr (hd.trans hd1))
   rotate_left
   ·refine d8 (λh5=>?_) λh5=>?_
    ·have hd1:d=35:=eH rfl h5;have he:=WR (f:=f') (p:=(ln,co)) hks (hd.trans hd1);have hrl:=oW (λc=>!decide (c=10)) (s.drop k);have hr0:=(EC (λc=>!decide (c=10)) (s.drop k)).2 ⟨by rw[k9];omega,by rw[nK,G3,hd,hd1];rfl⟩;rw[k9] at hrl;refine s6.by_order0 cQ (.take 0 <| .take 1 <| .run 2 <| .run 3 <| .run 4 <| .done) kr (K9 _ 2) ?_;refine k7 _ (λw' hm=>CC w' (hm 2 _ rfl) hpl hk) ?_;refine⟨sK,?_⟩;refine k7 _ (λw' hm=>rF 237 (λc=>!decide (c=10)) (s.drop k) (by rw[k9];omega) w' λw' c=>QR c w') ?_;refine⟨sK,?_⟩;have hb2:=hbnd _ hr0 om;refine callM (i:=2) rfl (λw' hm=>hpass w' (s9 (λc=>!decide (c=10)) (s.drop k)) (hm 2 _ rfl) om) ?_;rintro _ hP2 _ ⟨rfl,hQ⟩;refine⟨sK,?_⟩;exact⟨((f',k+s9 (λc=>!decide (c=10)) (s.drop k),_,_),pre,hP2,h1),⟨⟨by dsimp only;omega,by dsimp only;omega,hb2.1,hb2.2⟩,hx.trans (congrArg (pre ++ ·) he),hQ,hJ⟩,by dsimp only;omega,v6.mk (λ_ _ h=>h) rfl rfl⟩
    ·refine lQ 0 hRd.hc ?_;have hd':(s.drop k).getD 0 0=s.getD k 0:=by rw[nK,G3]
     obtain⟨q,hq⟩ :∃q,q=eA (s.getD k 0):=⟨_,rfl⟩
     have hql:q < V0.length:=by rw[hq];exact mR _
     have hu0:0 < (s.drop k).length:=by rw[k9];omega
     obtain⟨nn,kd,tx,ee,htk⟩ :∃nn kd tx ee,A6 (s.drop k)=(nn,kd,tx,ee):=⟨_,_,_,_,rfl⟩
     have hread :∀w',kU (Hp.whole w')->j6 Tryz.prog V0[q].2.2 #[sv (s.drop k)] w' (fD w' λv cs=>cs = []/\v=JR (nn,tx,ee)):=λw' hT=>by
      have h1:=EG (s.drop k) hu0 (by rw[k9];omega) w' hT;unfold KG at h1;rw[htk] at h1;have e :∀z (hz:z < V0.length),z=q->V0[z].2.2=V0[q].2.2:=λz _ h=>by subst h;rfl
      rw[e _ (mR _) (by rw[hd',hq])] at h1;exact h1
     have hkd:((V0[q].1:Nat):Int)=kd:=by
      have h1:=(DP (s.drop k)).1;rw[htk] at h1;have e :∀z (hz:z < V0.length),z=q->V0[z].1=V0[q].1:=λz _ h=>by subst h;rfl
      rw[e _ (mR _) (by rw[hd',hq])] at h1;exact h1
     have he:=Ax (f:=f') (p:=(ln,co)) hks (λe=>h3 (by rw[<-hd,e];rfl)) (λe=>h4 (by rw[<-hd,e];rfl)) (λe=>h5 (by rw[<-hd,e];rfl));have hnl:=Dk (s.drop k) hu0;have hn0:=NH hu0;rw[htk] at he hnl hn0;rw[k9] at hnl;dsimp only at he hnl hn0;clear htk;subst kd;refine k7 (iQ q) (λw' hm=>?_) ?_
     ·have:=choose_spec w' ⟨(hm 0 _ rfl).whole.cell hRd.hs,tE hm (i:=3) rfl (j:=0) rfl,(hm 2 _ rfl).whole.cell hpl.at⟩ hks (hRd.L.mono (j7 _) (hm 0 _ rfl).whole);rw[<-hq] at this;exact this
     refine s6.by_order cQ (.take 0 <| .take 1 <| .take 2 <| .take 3 <| .take 4 <| .take 5 <| .run 6 <| .run 7 <| .take 8 <| .take 9 <| .take 10 <| .take 11 <| .take 12 <| .take 13 <| .take 14 <| .done) kr ?_;refine lQ 0 hRd.hc ?_;refine I1 cQ (e:=290) rfl hRd.L q rfl hql λb9 o9 cs hcs hR hcell=>?_;subst hR;refine lQ 0 (hcell 2 _ rfl) ?_;refine k7 _ (λw' hm=>CC w' (hm 2 _ rfl) hpl hk) ?_;refine⟨sK,?_⟩;refine call (λw' hm=>hread w' (hRd.T.mono (hm 0 _ rfl).whole)) ?_;rintro _ _ ⟨rfl,rfl⟩;refine⟨sK,?_⟩;refine s6.by_order cQ (.take 0 <| .take 1 <| .take 2 <| .take 3 <| .take 4 <| .take 5 <| .take 6 <| .take 7 <| .take 8 <| .take 9 <| .take 10 <| .take 11 <| .take 12 <| .take 13 <| .take 14 <| .run 15 <| .run 16 <| .done) kr ?_;refine lQ 0 hRd.hc ?_;refine I1 cQ (e:=290) rfl hRd.L q rfl hql λb9 o9 cs hcs hR hcell=>?_;subst hR;refine lQ 0 (hcell 0 _ rfl) ?_;refine bG (j:=2) cQ (i:=2) rfl hpl0 rfl rfl ?_;refine bG (j:=3) cQ (i:=2) rfl hpl0 rfl rfl ?_;intro b10;refine⟨sK,?_⟩;refine d8 (λh8=>?_) λh8=>?_
     ·have h8':ee≠0:=h8;rw[if_pos h8'] at he;have hx2:=hx.trans (congrArg (pre ++ ·) he);refine callM (i:=2) rfl (λw' hm=>hpass w' nn (hm 2 _ rfl) om) ?_;rintro _ hP2 _ ⟨rfl,hQ⟩;generalize K6 (ln,co) ((s.drop k).take nn)=pp at *;have hQ0:=hQ;unfold JD wG at hQ0;refine s6.by_order0 cQ (.take 0 <| .take 1 <| .take 2 <| .take 3 <| .take 4 <| .take 5 <| .take 6 <| .take 7 <| .run 8 <| .run 9 <| .run 10 <| .run 11 <| .done) kr (K9 _ 4) ?_;refine bG (j:=2) cQ (i:=2) rfl hQ0 rfl rfl ?_;refine bG (j:=3) cQ (i:=2) rfl hQ0 rfl rfl ?_;refine⟨sK,?_⟩;refine⟨sK,?_⟩;refine JN (c:=c0) (h1:=h1) rfl rfl (R:=λv h2=>(v=.bool true/\J xs h2)\/(v=.bool false/\Jx xs h2)) (λw1 hi1 hc1 hd1=>by
       have:=hY w1 h1 pre _ [] hx2 hJ hi1 hc1 hd1;rw[<-hx2] at this;exact this) ?_
      rintro v h2 (⟨rfl,hJ2⟩ | ⟨rfl,hJ2⟩)
      ·refine d8 (λ_=>?_) (λh9=>absurd h8 h9);exact⟨h2,[],⟨rfl,.inl hJ2⟩,pk [0,1]⟩
      ·exact⟨h2,[],⟨rfl,.inr ⟨xs,List.prefix_refl _,hJ2⟩⟩,pk [0,1]⟩
     ·have h8' : ¬ ee≠0:=h8;rw[if_neg h8'] at he;have he0:ee=0:=j9 h8';subst he0;have hx2:=hx.trans (congrArg (pre ++ ·) he);have hn1:=hn0 rfl;have hb2:=hbnd nn hn1 om;refine JN (c:=c0) (h1:=h1) rfl rfl (R:=λv h2=>(v=.bool true/\J (pre++([((((V0[q].1:Nat):Int),tx,ln,co),(0:Int))]:List El)) h2)\/(v=.bool false/\Jx (pre++([((((V0[q].1:Nat):Int),tx,ln,co),(0:Int))]:List El)) h2)) (λw1 hi1 hc1 hd1=>hY w1 h1 pre _ _ hx2 hJ hi1 hc1 hd1) ?_;rintro v h2 (⟨rfl,hJ2⟩ | ⟨rfl,hJ2⟩)
      ·refine callM (i:=2) rfl (λw' hm=>hpass w' nn (hm 2 _ rfl) om) ?_;rintro _ hP2 _ ⟨rfl,hQ⟩;exact⟨((f',k+nn,_,_),pre++([((((V0[q].1:Nat):Int),tx,ln,co),(0:Int))]:List El),hP2,h2),⟨⟨by dsimp only;omega,by dsimp only;omega,hb2.1,hb2.2⟩,hx2.trans (by rw[o6];rfl),hQ,hJ2⟩,by dsimp only;omega,v6.mk (pj [0,1,2,3]) rfl rfl⟩
      ·exact⟨h2,[],⟨rfl,.inr ⟨pre++([((((V0[q].1:Nat):Int),tx,ln,co),(0:Int))]:List El),⟨_,by rw[hx2,o6];rfl⟩,hJ2⟩⟩,pk [0,1]⟩
  all_goals
   refine callM (i:=2) rfl (λw' hm=>hpass w' 1 (hm 2 _ rfl) om) ?_;rintro _ hP2 _ ⟨rfl,hQ⟩;exact⟨((f',k+1,_,_),pre,hP2,h1),⟨⟨by dsimp only;omega,by dsimp only;omega,hb1.1,hb1.2⟩,hx.trans (congrArg (pre ++ ·) he),hQ,hJ⟩,by dsimp only;omega,v6.mk (λ_ _ h=>h) rfl rfl⟩
 ·refine qC.by_order0 cQ (.take 0 <| .take 1 <| .take 2 <| .take 3 <| .take 4 <| .take 5 <| .take 6 <| .take 7 <| .take 8 <| .take 9 <| .run 10 <| .done) kr (K9 _ 1) ?_;refine bG (j:=2) cQ (i:=2) rfl hpl0 rfl rfl ?_;refine bG (j:=3) cQ (i:=2) rfl hpl0 rfl rfl ?_;have he:=Ay (f:=f'+1) (p:=(ln,co)) (s:=s) (k:=k) om;have hx2:=hx.trans (congrArg (pre ++ ·) he);refine JN (c:=c0) (h1:=h1) rfl rfl (R:=λv h2=>(v=.bool true/\J xs h2)\/(v=.bool false/\Jx xs h2)) (λw1 hi1 hc1 hd1=>by
   have:=hY w1 h1 pre _ [] hx2 hJ hi1 hc1 hd1;rw[<-hx2] at this;exact this) ?_
  rintro v h2 (⟨rfl,hJ2⟩ | ⟨rfl,hJ2⟩)
  ·refine⟨sK,?_⟩;exact⟨h2,[],⟨rfl,.inl hJ2⟩,pk [0,1]⟩
  ·refine⟨sK,?_⟩;exact⟨h2,[],⟨rfl,.inr ⟨xs,List.prefix_refl _,hJ2⟩⟩,pk [0,1]⟩
end Go.Proofs.YtpjhmeicbjkcdaaGreatDoor
namespace Go.Proofs.YtpjhmeicbjkcdaaGreatDoor
open Go Go.RowKit Go.Dw
def fT (t:kX):List Value:=[iQ t.1,sv t.2.1,iQ t.2.2.1,iQ t.2.2.2]
theorem FV (s:e8) (w:World):j6 Tryz.prog 190 #[sv s] w (fD w λv cs=>∃b1 b2 b3,v=.func (.func 233) #[] #[pQ b1,pQ b2]/\
  cs = [.box b1 [sv s] 9,.box b3 (V0.flatMap fC) 290,.box b2 [.slice (some ⟨b3,0,none⟩) 4 4] 291]):=by
 refine enterZ (cx 10) [sv s] [.tmp 2] Tryz.func190 ?_;intro b1;intro b8;intro b3;exact⟨_,⟨b1,b3,b8,rfl,rfl⟩,pk [0,1,2,3]⟩
theorem FD :∀(pre post:List El) (out:List kX),(∀x∈pre,x.2=0)->AG (pre++post) out=AG post (out++pre.map Prod.fst)
 | [],post,out,_=>by simp
 | x::pre,post,out,h=>by
  have h0:=h x sQ;rw[BT,AG,if_neg (by rw[h0];decide),FD pre post _ λy hy=>h y (by simp[hy])];simp
theorem OY {pre:List El} {x:El} (h :∀y∈pre,y.2=0) (hx:x.2≠0) (post:List El):AG ((pre++[x])++post) []=([],x.1.2.2.1,x.1.2.2.2,x.2):=by
 rw[o6,FD pre _ _ h,List.singleton_append,AG,if_pos hx]
theorem xF :∀(f:Nat) (s:e8) (p:Nat×Nat),(pM f s p).length<=f+1
 | 0,_,p=>k8 _
 | f+1,[],p=>by show 1<=f+1+1;omega
 | f+1,c::r,p=>by
  have e:pM (f+1) (c::r) p=if c=32\/c=10 then pM f r (bX p c)
   else if c=35 then pM f ((c::r).drop (s9 (λc=>!decide (c=10)) (c::r))) (K6 p ((c::r).take (s9 (λc=>!decide (c=10)) (c::r))))
   else if (A6 (c::r)).2.2.2≠0 then [(((A6 (c::r)).2.1,(A6 (c::r)).2.2.1,(K6 p ((c::r).take (A6 (c::r)).1)).1,(K6 p ((c::r).take (A6 (c::r)).1)).2),(A6 (c::r)).2.2.2)]
    else (((A6 (c::r)).2.1,(A6 (c::r)).2.2.1,p.1,p.2),0)::pM f ((c::r).drop (A6 (c::r)).1) (K6 p ((c::r).take (A6 (c::r)).1)):=rfl
  rw[e];split
  ·have:=xF f r (bX p c);omega
  ·split
   ·have:=xF f ((c::r).drop (s9 (λc=>!decide (c=10)) (c::r))) (K6 p ((c::r).take (s9 (λc=>!decide (c=10)) (c::r))));omega
   ·split
    ·show 1<=f+1+1;omega
    ·have:=xF f ((c::r).drop (A6 (c::r)).1) (K6 p ((c::r).take (A6 (c::r)).1));rw[d7];omega
set_option maxRecDepth 20000 in
theorem DE (s:e8) (w:World) (hT:kU (Hp.whole w)):j6 Tryz.prog 138 #[sv s] w (fD w λv cs=>∃o:Dw.Os,v=.tuple #[o.v,iQ (aK s).2.1,iQ (aK s).2.2.1,iQ (aK s).2.2.2]/\cs = [.hp o.h]/\w8 fT 211 4 o (aK s).1):=by
 have hz:=B6 s;refine WN (X:=cx 27) cQ (args:=[sv s]) [.cell 2 207,.cell 3 3,.cell 4 3,.cell 5 33] Tryz.func138 rfl rfl rfl rfl rfl ?_;intro b2 b3 b4 b5;refine d8 (λh1=>?_) λh1=>?_
 ·have e:aK s=([],1,1,5):=by unfold aK;rw[if_pos om]
  rw[e];exact⟨[.hp Hp.emp],⟨Os.nil,rfl,rfl,w8.nil _ _ _⟩,λw' h=>Ok.emp (s:=[.hp (Hp.whole w)]) (h.pick [0] rfl rfl)⟩
 have hsl:s.length<=65536:=om
 have e:aK s=AG (pM (s.length+1) s (1,1)) []:=by unfold aK;rw[if_neg om,tB]
 rw[e];have hxl:=xF (s.length+1) s (1,1);refine call (λw' hm=>FV s w') ?_;rintro _ _ ⟨b11,b12,b13,rfl,rfl⟩;refine uR.sat λhsat=>?_;obtain⟨l1,hl1⟩ :∃l1:List Ch,l1 = [.hp (Hp.whole w),.box b11 [sv s] 9,.box b13 (V0.flatMap fC) 290,.box b12 [.slice (some ⟨b13,0,none⟩) 4 4] 291]:=⟨_,rfl⟩
 have hdj:PC l1:=by rw[hl1];exact hsat.djL [0,5,6,7] rfl rfl
 have le0:(Hp.whole w).le (joinL l1):=I3 (i:=0) (d:=.hp (Hp.whole w)) hdj (by rw[hl1];rfl);have le1:=I3 (i:=1) (d:=.box b11 [sv s] 9) hdj (by rw[hl1];rfl);have le2:=I3 (i:=2) (d:=.box b13 (V0.flatMap fC) 290) hdj (by rw[hl1];rfl);have le3:=I3 (i:=3) (d:=.box b12 [.slice (some ⟨b13,0,none⟩) 4 4] 291) hdj (by rw[hl1];rfl);have hcl:Sl (B0 fC) 3 (Ch.box b13 (V0.flatMap fC) 290).h (some ⟨b13,0,none⟩) 4 4 V0:=w8.sl (f:=fC) (λ_=>rfl) dc (w8.ofBox (f:=fC) (sz:=3) (T:=290) (b:=b13) (λ_=>rfl) V0 rfl rfl dc);obtain⟨xs,hxs⟩ :∃xs,xs=pM (s.length+1) s (1,1):=⟨_,rfl⟩
 have hit:=DO (b1:=b11) (b2:=b12) s om (some ⟨b13,0,none⟩) 4 4;rw[<-hxs] at hit hxl ⊢;refine ZK cQ (ps:=[13,14]) rfl hit (λ_=>rfl) dc (λ_ _ h l=>h.mono l)
  (joinL l1) [(2,.bx 2 0),(3,.bx 3 0),(4,.bx 4 0),(5,.bx 5 0)] (Dw.Os×Int×Int×Int) (λg=>[.box b2 [g.1.v] 207,.box b3 [iQ g.2.1] 3,.box b4 [iQ g.2.2.1] 3,.box b5 [iQ g.2.2.2] 33,.hp g.1.h])
  (λg pre=>g.2=(0,0,0)/\w8 fT 211 4 g.1 (pre.map Prod.fst)/\∀x∈pre,x.2=0) (λe g pre=>e=.ret/\w8 fT 211 4 g.1 []/\∀post,AG (pre++post) []=([],g.2.1.toNat,g.2.2.1.toNat,g.2.2.2)/\0<=g.2.1/\0<=g.2.2.1) (λ_=>True)
  ⟨le1.cell (by simp[Ch.h,Hp.cell?,Hp.one]),le3.cell (by simp[Ch.h,Hp.cell?,Hp.one]),hcl.mono (j7 _) le2,hT.mono le0⟩ trivial (λ_ _ _ _=>trivial) (Os.nil,0,0,0) ⟨rfl,w8.nil _ _ _,sQ⟩
  (λhc=>absurd trivial hc)
  (λw0 w h=>by rw[hl1];exact Ok.joinP _ _ (Ok.pick [0,5,6,7,1,2,3,4,8] rfl rfl h.emp)) rfl rfl (λ_=>rfl) ?_ ?_ ?_
 ·rintro⟨g,z1,z2,z3⟩ pre x post c1 hl hx ⟨hz,hR,hall⟩ _;dsimp only at hz hR;cases hz;have hpl:(pre.map Prod.fst).length+1<=70000:=by
   have:=congrArg F7 hx;rw[d6,d7] at this;rw[l7];omega
  intro b6;refine⟨[(2,.bx 2 0),(3,.bx 3 0),(4,.bx 4 0),(5,.bx 5 0),(6,.bx 7 0),(7,.v (iQ x.2))],[.box b2 [g.v] 207,.box b3 [iQ 0] 3,.box b4 [iQ 0] 3,.box b5 [iQ 0] 33,.hp g.h,.box b6 (fT x.1) 211],v6.mk (λ_ _ h=>h) rfl rfl,λhl'=>?_⟩;refine d8 (λhb=>?_) λhb=>?_
  ·refine qC.by_order0 cQ (.take 0 <| .take 1 <| .take 2 <| .take 3 <| .take 4 <| .run 5 <| .run 6 <| .run 7 <| .run 8 <| .done) kr (s0:=[.hp Hp.emp,.hp Hp.emp,.hp Hp.emp,.hp Hp.emp,.hp Hp.emp,.hp Hp.emp,.hp Hp.emp,.box b6 (fT x.1) 211]) (sK) ?_;refine⟨sK,?_⟩;refine⟨sK,?_⟩;refine⟨sK,?_⟩;refine⟨(⟨none,0,0,g.h⟩,(x.1.2.2.1:Nat),(x.1.2.2.2:Nat),x.2),⟨rfl,AP.nil _ _ _ _,λpost=>⟨?_,S4 _,S4 _⟩⟩,λ_ _ h=>h.pick [0,1,2,3,4,5,6] rfl rfl⟩;exact OY hall hb post
  ·have hx0:x.2=0:=j9 hb;intro b8;refine gF (f:=fT) cQ (e:=211) rfl (i:=6) rfl hR (j:=8) x.1 rfl rfl rfl rfl om λo' ho'=>?_;refine⟨(o',0,0,0),⟨rfl,?_,?_⟩,λ_ _ h=>h.pick [0,1,2,3,4,5,6] rfl rfl⟩
   ·rw[E9];exact ho'
   ·intro y hy;rcases G1.1 hy with hy | hy
    ·exact hall y hy
    ·rw[E2.1 hy];exact hx0
 ·rintro⟨g,z1,z2,z3⟩ D ⟨hz,hR,hall⟩;dsimp only at hz hR;cases hz;have hc:=FD xs [] [] hall;rw[p8,N6] at hc;rw[hc];exact⟨1,rfl,[.hp g.h],⟨g,rfl,rfl,hR⟩,λw' h=>(h.pick [0,6] rfl rfl).less le0⟩
 ·rintro e ⟨g,z1,z2,z3⟩ D pre ⟨post,hpre⟩ ⟨rfl,hR,hc⟩;dsimp only at hR hc;have hc:=hc post;rw[hpre] at hc;rw[hc.1];obtain⟨k1,rfl⟩:=aS hc.2.1;obtain⟨k2,rfl⟩:=aS hc.2.2;exact⟨1,rfl,[.hp g.h],⟨g,rfl,rfl,hR⟩,λw' h=>(h.pick [0,6] rfl rfl).less le0⟩
end Go.Proofs.YtpjhmeicbjkcdaaGreatDoor
namespace Go.Proofs.YtpjhmeicbjkcdaaGreatDoor
open Go Go.RowKit Go.Dw
structure RS where
 ts:List kX
 ln:Nat
 co:Nat
 e:Int
def cP (ts:List kX):Prop:=∃pre t,ts=pre++[t]/\t.1=5/\∀x∈pre,x.1≠5
def KI (a:Option Addr) (n c:Nat) (r:RS):List Value:=[.slice a n c,iQ r.ln,iQ r.co,iQ r.e]
def G9 (k h:Hp) (b:Nat) (r:RS):Prop:=∃a n c,iK 219 4 h (some ⟨b,0,none⟩) 1 1 (KI a n c r)/\Sl (B0 fT) 4 k a n c r.ts/\(r.e=0->cP r.ts)/\∀t∈r.ts,t.2.1.length < 900000
def Dm:kX:=(0,[],0,0)
def C7 (r:RS):kX:=if r.e≠0 then (5,[],r.ln,r.co) else r.ts.headD Dm
def E5 (r:RS):RS:=if r.e=0/\(C7 r).1≠5 then { r with ts:=r.ts.tail } else r
def y7 (r:RS) (e:Int):RS:=if r.e≠0 then r else if e≠0 then { r with ln:=(C7 r).2.2.1,co:=(C7 r).2.2.2,e:=e } else r
def yV (s:e8):RS:=⟨(aK s).1,(aK s).2.1,(aK s).2.2.1,(aK s).2.2.2⟩
theorem cP.pos {ts:List kX} (h:cP ts):0 < ts.length:=by
 obtain⟨pre,t,rfl,_⟩:=h;simp
theorem cP.tail {ts:List kX} (h:cP ts) (h5:(ts.headD Dm).1≠5):cP ts.tail:=by
 obtain⟨pre,t,rfl,h1,h2⟩:=h;cases pre with
 | nil=>exact absurd h1 h5
 | cons x pre=>exact⟨pre,t,rfl,h1,λy hy=>h2 y (by simp[hy])⟩
section
variable {s:List Ch} {xo yo:Operand} {p:Option Addr} {q:TV->Prop}
theorem NN (w:World):(Op.equal 152 (.pointer p) (.pointer none)).run Tryz.prog w=.ok p.isNone w:=by
 have hun:(underlying 152).run Tryz.prog w=.ok (.pointer 219) w:=by simp[underlying,Tryz.underlying152]
 unfold Op.equal Op.maxDepth;rw[show (10000:Nat)=9999+1 from rfl];unfold Op.equalIn;simp only[Sem.run_bind,hun,Result.andThen_ok];cases p <;> rfl
theorem ZS (h:q (.v (.bool p.isNone))):B7 Tryz.prog s (do eqGuard .eql 152 xo yo (.pointer p) (.pointer none);binOp .eql 152 (.pointer p) (.pointer none)) q:=by
 refine⟨_,λw _=>?_,h⟩;have hg:(eqGuard .eql 152 xo yo (.pointer p) (.pointer none)).run Tryz.prog w=.ok () w:=by simp[eqGuard]
 rw[Sem.run_bind,hg];simp only[Result.andThen_ok,binOp,Sem.run_bind];rw[NN];rfl
theorem Jr (h:q (.v (.bool (!p.isNone)))):B7 Tryz.prog s (do eqGuard .neq 152 xo yo (.pointer p) (.pointer none);binOp .neq 152 (.pointer p) (.pointer none)) q:=by
 refine⟨_,λw _=>?_,h⟩;have hg:(eqGuard .neq 152 xo yo (.pointer p) (.pointer none)).run Tryz.prog w=.ok () w:=by simp[eqGuard]
 rw[Sem.run_bind,hg];simp only[Result.andThen_ok,binOp,Sem.run_bind];rw[NN];rfl
end
theorem S7 {k h:Hp} {b:Nat} {r:RS} (w:World) (hin:h.In w) (hk:k.le (Hp.whole w)) (hR:G9 k h b r) :
  j6 Tryz.prog 153 #[pQ b] w (v7 w (Aw (C7 r))):=by
 obtain⟨a,n,c,hO,hS,hE,hB⟩:=hR;have hS':=hS.mono (j7 _) hk;have hn:=hS.len;have hO2:iK 219 4 (Hp.whole w) (some ⟨b,0,none⟩) 1 1 (KI a n c r):=by
  refine⟨hO.1,?_⟩;rcases hO.2 with ⟨h0,_⟩ | ⟨b',arr,e1,hb,rest⟩
  ·cases h0
  ·exact .inr ⟨b',arr,e1,hin.whole _ _ hb,rest⟩
 unfold KI at hO2;refine enterZ (cx 28) [pQ b] [.cell 2 211] Tryz.func153 ?_;intro b2;refine ZS ?_;refine bG (j:=3) cQ (i:=0) rfl hO2 rfl rfl ?_;refine d8 (λh2=>?_) λh2=>?_
 ·refine s6.by_order cQ (.take 0 <| .take 1 <| .take 2 <| .take 3 <| .take 4 <| .take 5 <| .take 6 <| .take 7 <| .take 8 <| .run 9 <| .done) kr ?_;refine bG (j:=1) cQ (i:=0) rfl hO2 rfl rfl ?_;refine bG (j:=2) cQ (i:=0) rfl hO2 rfl rfl ?_;exact⟨[],⟨by unfold C7;rw[if_pos h2];rfl,rfl⟩,pk [0]⟩
 ·have he:r.e=0:=j9 h2;have hp:=(hE he).pos;refine bG (j:=0) cQ (i:=0) rfl hO2 rfl rfl ?_;refine I1 cQ (e:=211) rfl hS' 0 rfl hp λb9 o9 cs hcs hR hcell=>?_;subst hR;refine T7 cQ (i:=0) rfl hcell rfl ?_;exact⟨[],⟨by
   unfold C7;rw[if_neg h2,List.headD_eq_head?_getD,List.head?_eq_getElem?,i6 hp];rfl,rfl⟩,pk [0]⟩
theorem cO {k h:Hp} {b:Nat} {r:RS} (w:World) (hin:h.In w) (hk:k.le ((Hp.whole w).minus h)) (hR:G9 k h b r) :
  j6 Tryz.prog 172 #[pQ b] w (O6 w h λv h' cs=>cs = []/\v=Aw (C7 r)/\G9 k h' b (E5 r)):=by
 have hR0:=hR;obtain⟨a,n,c,hO,hS,hE,hB⟩:=hR;have hn:=hS.len;unfold KI at hO;refine enterMZ (cx 29) [pQ b] hin [.cell 2 211] Tryz.func172 ?_;intro b2;refine k7 _ (λw' hm=>S7 w' (hm 1 _ rfl) (hk.trans (hm 0 _ rfl).whole) hR0) ?_;intro b3;refine Jr ?_;refine bG (j:=3) cQ (i:=1) rfl hO rfl rfl ?_;refine d8 (λh2=>?_) λh2=>?_
 ·have he:r.e=0:=h2;have hEE:=hE he;have hp:=hEE.pos;refine d8 (λh3=>?_) λh3=>?_
  ·have h5:(C7 r).1≠5:=h3;have hx:E5 r = { r with ts:=r.ts.tail }:=by unfold E5;rw[if_pos ⟨he,h5⟩]
   rw[hx];have h6:(r.ts.headD Dm).1≠5:=by unfold C7 at h5;rw[if_neg (λg=>g he)] at h5;exact h5
   refine bG (j:=0) cQ (i:=1) rfl hO rfl rfl ?_;refine ZE cQ (e:=211) rfl hS 1 n (.inr ⟨_,_,rfl,rfl⟩) (.inl ⟨rfl,rfl⟩) om om λa25 hs25=>?_;refine SO (j:=0) cQ (i:=1) rfl hO rfl rfl rfl dc rfl λh2' hO2=>?_;have e1:(r.ts.take n).drop 1=r.ts.tail:=by rw[u7 om,List.drop_one]
   rw[e1] at hs25;exact⟨h2',[],⟨rfl,rfl,⟨a25,n - 1,c - 1,hO2,hs25,λ_=>hEE.tail h6,λt ht=>hB t (List.mem_of_mem_tail ht)⟩⟩,pk [0,1]⟩
  ·have hx:E5 r=r:=by unfold E5;rw[if_neg (λg=>h3 g.2)]
   rw[hx];exact⟨h,[],⟨rfl,rfl,hR0⟩,pk [0,1]⟩
 ·have hx:E5 r=r:=by unfold E5;rw[if_neg (λg=>h2 g.1)]
  rw[hx];exact⟨h,[],⟨rfl,rfl,hR0⟩,pk [0,1]⟩
theorem G8 {k h:Hp} {b:Nat} {r:RS} {e:Int} (w:World) (hin:h.In w) (hk:k.le ((Hp.whole w).minus h)) (hR:G9 k h b r) :
  j6 Tryz.prog 152 #[pQ b,iQ e] w (O6 w h λ_ h' cs=>cs = []/\G9 k h' b (y7 r e)):=by
 have hR0:=hR;obtain⟨a,n,c,hO,hS,hE,hB⟩:=hR;have hn:=hS.len;unfold KI at hO;refine enterMZ (cx 32) [pQ b,iQ e] hin [] Tryz.func152 ?_;refine ZS ?_;refine bG (j:=3) cQ (i:=1) rfl hO rfl rfl ?_;refine d8 (λh2=>?_) λh2=>?_
 ·have hx:y7 r e=r:=by unfold y7;rw[if_pos h2]
  rw[hx];exact⟨h,[],⟨rfl,hR0⟩,pk [0,1]⟩
 ·refine k7 _ (λw' hm=>S7 w' (hm 1 _ rfl) (hk.trans (hm 0 _ rfl).whole) hR0) ?_;intro b4;refine d8 (λh3=>?_) λh3=>?_
  ·have hx:y7 r e = { r with ln:=(C7 r).2.2.1,co:=(C7 r).2.2.2,e:=e }:=by unfold y7;rw[if_neg h2,if_pos h3]
   rw[hx];generalize C7 r=p at *;refine s6.by_order0 cQ (.take 0 <| .take 1 <| .take 2 <| .take 3 <| .take 4 <| .take 5 <| .take 6 <| .take 7 <| .take 8 <| .take 9 <| .run 10 <| .run 11 <| .run 12 <| .run 13 <| .run 14 <| .run 15 <| .run 16 <| .done) kr (K9 _ 1) ?_;refine SO (j:=1) cQ (i:=1) rfl hO rfl rfl rfl dc rfl λh5 hO2=>?_;refine⟨sK,?_⟩;refine⟨sK,?_⟩;refine⟨sK,?_⟩;refine SO (j:=2) cQ (i:=1) rfl hO2 rfl rfl rfl dc rfl λh6 hO3=>?_;refine⟨sK,?_⟩;refine SO (j:=3) cQ (i:=1) rfl hO3 rfl rfl rfl dc rfl λh7 hO4=>?_;exact⟨h7,[],⟨rfl,⟨a,n,c,hO4,hS,λg=>absurd g h3,hB⟩⟩,pk [0,1]⟩
  ·have hx:y7 r e=r:=by unfold y7;rw[if_neg h2,if_neg h3]
   rw[hx];exact⟨h,[],⟨rfl,hR0⟩,pk [0,1]⟩
end Go.Proofs.YtpjhmeicbjkcdaaGreatDoor
namespace Go.Dw
open Go Go.RowKit
theorem Ok.kle {w0 w:World} {s:List Ch} {k c0 h:Hp} (hok:Ok w0 s w) (h0:m8 s 0=some (.hp c0)) (hi:m8 s 1=some (.hp h)) (hk:k.le c0):k.le ((Hp.whole w).minus h):=
 hk.trans (Hp.le_minus (hok.mem 0 _ h0).whole (hok.disj 0 1 _ _ dc h0 hi))
end Go.Dw
namespace Go.Proofs.YtpjhmeicbjkcdaaGreatDoor
open Go Go.RowKit Go.Dw
def aA (r:RS) (s:e8):Bool:=(decide ((C7 r).1=1) || decide ((C7 r).1=4)) && decide ((C7 r).2.1=s)
def U5 (r:RS) (s:e8):RS:=if aA r s=true then E5 r else r
def O4 (r:RS) (z:Int):RS×e8:=if (C7 r).1≠z then (y7 r 14,[]) else (E5 r,(C7 r).2.1)
def tM (r:RS):RS:=if aA r [45]=true/\(C7 (U5 r [45])).1=2/\(C7 (U5 r [45])).2.1 = [48] then y7 (U5 r [45]) 3 else U5 r [45]
def aM (r:RS):RS×e8:=((O4 (tM r) 2).1,if (O4 (tM r) 2).2 = [] then [] else (if aA r [45]=true then [45] else [])++(O4 (tM r) 2).2)
theorem G9.peekB {k h:Hp} {b:Nat} {r:RS} (hR:G9 k h b r):(C7 r).2.1.length < 900000:=by
 obtain⟨a,n,c,_,_,hE,hB⟩:=hR;unfold C7;split
 ·exact O2 _
 ·rename_i h2
  have hp:=(hE (j9 h2)).pos;cases hts:r.ts with
  | nil=>rw[hts] at hp;cases hp
  | cons t ts=>exact hB t (by rw[hts];simp)
section
variable {k h:Hp} {b:Nat} {r:RS}
theorem S0 {s:e8} (w:World) (hin:h.In w) (hk:k.le (Hp.whole w)) (hR:G9 k h b r) :
  j6 Tryz.prog 79 #[pQ b,sv s] w (v7 w (.bool (aA r s))):=by
 refine enterZ (cx 22) [pQ b,sv s] [.tmp 4] Tryz.func79 ?_;have hpk :∀w',gN [.hp (Hp.whole w)] w'->j6 Tryz.prog 153 #[pQ b] w' (v7 w' (Aw (C7 r))):=λw' hm=>by
  have hw:=(hm 0 _ rfl).whole;exact S7 w' (λx o e=>hm 0 _ rfl _ _ (hin.whole _ _ e)) (hk.trans hw) hR
 refine k7 _ (λw' hm=>hpk w' hm) ?_;unfold aA;generalize C7 r=p;intro b5;refine d8 (λh1=>?_) λh1=>?_
 ·refine W8 ?_;exact⟨[],⟨by rw[decide_eq_true h1];rfl,rfl⟩,pk [0]⟩
 ·refine d8 (λh2=>?_) λh2=>?_
  ·refine W8 ?_;exact⟨[],⟨by rw[decide_eq_true h2,kB];rfl,rfl⟩,pk [0]⟩
  ·exact⟨[],⟨by rw[decide_eq_false h1,decide_eq_false h2];rfl,rfl⟩,pk [0]⟩
theorem AT (w:World) (hin:h.In w) (hR:G9 k h b r) :
  j6 Tryz.prog 86 #[pQ b] w (v7 w (.tuple #[iQ (if r.e=0 then (0:Int) else r.ln),iQ (if r.e=0 then (0:Int) else r.co),iQ r.e])):=by
 obtain⟨a,n,c,hO,hS,hE,hB⟩:=hR;have hO2:iK 219 4 (Hp.whole w) (some ⟨b,0,none⟩) 1 1 (KI a n c r):=by
  refine⟨hO.1,?_⟩;rcases hO.2 with ⟨h0,_⟩ | ⟨b',arr,e1,hb,rest⟩
  ·cases h0
  ·exact .inr ⟨b',arr,e1,hin.whole _ _ hb,rest⟩
 unfold KI at hO2;refine enterZ (cx 26) [pQ b] [.tmp 2,.tmp 3,.tmp 4] Tryz.func86 ?_;refine ZS ?_;refine bG (j:=3) cQ (i:=0) rfl hO2 rfl rfl ?_;refine d8 (λh2=>?_) λh2=>?_
 ·have h2':r.e=0:=h2;exact⟨[],⟨by rw[h2'];rfl,rfl⟩,pk [0]⟩
 ·have h2' : ¬ r.e=0:=h2;refine s6.by_order cQ (.take 0 <| .take 1 <| .take 2 <| .take 3 <| .take 4 <| .take 5 <| .take 6 <| .take 7 <| .take 8 <| .take 9 <| .take 10 <| .take 11 <| .take 12 <| .take 13 <| .take 14 <| .done) kr ?_;refine bG (j:=1) cQ (i:=0) rfl hO2 rfl rfl ?_;refine bG (j:=2) cQ (i:=0) rfl hO2 rfl rfl ?_;refine bG (j:=3) cQ (i:=0) rfl hO2 rfl rfl ?_;exact⟨[],⟨by rw[if_neg h2',if_neg h2'],rfl⟩,pk [0]⟩
theorem cN {s:e8} (w:World) (hin:h.In w) (hk:k.le ((Hp.whole w).minus h)) (hR:G9 k h b r) :
  j6 Tryz.prog 151 #[pQ b,sv s] w (O6 w h λv h' cs=>cs = []/\v=.bool (aA r s)/\G9 k h' b (U5 r s)):=by
 refine enterMZ (cx 13) [pQ b,sv s] hin [.tmp 4] Tryz.func151 ?_;refine k7 _ (λw' hm=>S0 w' (hm 1 _ rfl) (hk.trans (hm 0 _ rfl).whole) hR) ?_;refine s8 (λh1=>?_) λh1=>?_
 ·refine l6 (i:=1) rfl (λw0 w' hok=>cO w' (hok.mem 1 _ rfl) (hok.kle rfl rfl hk) hR) ?_;rintro _ h2 _ ⟨rfl,rfl,hR2⟩;exact⟨h2,[],⟨rfl,by rw[h1],by unfold U5;rw[if_pos h1];exact hR2⟩,pk [0,1]⟩
 ·exact⟨h,[],⟨rfl,by rw[h1],by unfold U5;rw[if_neg (by rw[h1];decide)];exact hR⟩,pk [0,1]⟩
theorem m6 {s:e8} (w:World) (hin:h.In w) (hk:k.le ((Hp.whole w).minus h)) (hR:G9 k h b r) :
  j6 Tryz.prog 76 #[pQ b,sv s] w (O6 w h λ_ h' cs=>cs = []/\G9 k h' b (if aA r s=true then E5 r else y7 r 14)):=by
 refine enterMZ (cx 10) [pQ b,sv s] hin [] Tryz.func76 ?_;refine l6 (i:=1) rfl (λw0 w' hok=>cN w' (hok.mem 1 _ rfl) (hok.kle rfl rfl hk) hR) ?_;rintro _ h2 _ ⟨rfl,rfl,hR2⟩;unfold U5 at hR2;refine s8 (λh1=>?_) λh1=>?_
 ·have h1':aA r s=false:=by simpa using h1
  rw[if_neg (by rw[h1'];decide)] at hR2;refine l6 (i:=1) rfl (λw0 w' hok=>G8 w' (hok.mem 1 _ rfl) (hok.kle rfl rfl hk) hR2) ?_;rintro _ h3 _ ⟨rfl,hR3⟩;exact⟨h3,[],⟨rfl,by rw[if_neg (by rw[h1'];decide)];exact hR3⟩,pk [0,1]⟩
 ·have h1':aA r s=true:=by simpa using h1
  rw[if_pos h1'] at hR2;exact⟨h2,[],⟨rfl,by rw[if_pos h1'];exact hR2⟩,pk [0,1]⟩
theorem iY {z:Int} (w:World) (hin:h.In w) (hk:k.le ((Hp.whole w).minus h)) (hR:G9 k h b r) :
  j6 Tryz.prog 201 #[pQ b,iQ z] w (O6 w h λv h' cs=>cs = []/\v=sv (O4 r z).2/\G9 k h' b (O4 r z).1):=by
 refine enterMZ (cx 15) [pQ b,iQ z] hin [.tmp 4] Tryz.func201 ?_;refine k7 _ (λw' hm=>S7 w' (hm 1 _ rfl) (hk.trans (hm 0 _ rfl).whole) hR) ?_;refine d8 (λh1=>?_) λh1=>?_
 ·have e:O4 r z=(y7 r 14,[]):=by unfold O4;rw[if_pos h1]
  rw[e];refine l6 (i:=1) rfl (λw0 w' hok=>G8 w' (hok.mem 1 _ rfl) (hok.kle rfl rfl hk) hR) ?_;rintro _ h3 _ ⟨rfl,hR3⟩;exact⟨h3,[],⟨rfl,rfl,hR3⟩,pk [0,1]⟩
 ·have e:O4 r z=(E5 r,(C7 r).2.1):=by unfold O4;rw[if_neg h1]
  rw[e];refine l6 (i:=1) rfl (λw0 w' hok=>cO w' (hok.mem 1 _ rfl) (hok.kle rfl rfl hk) hR) ?_;rintro _ h2 _ ⟨rfl,rfl,hR2⟩;exact⟨h2,[],⟨rfl,rfl,hR2⟩,pk [0,1]⟩
theorem fF (w:World) (hin:h.In w) (hk:k.le ((Hp.whole w).minus h)) (hR:G9 k h b r) :
  j6 Tryz.prog 155 #[pQ b] w (O6 w h λv h' cs=>cs = []/\v=sv (O4 r 1).2/\G9 k h' b (O4 r 1).1):=by
 refine enterMZ (cx 5) [pQ b] hin [.tmp 2] Tryz.func155 ?_;refine l6 (i:=1) rfl (λw0 w' hok=>iY w' (hok.mem 1 _ rfl) (hok.kle rfl rfl hk) hR) ?_;rintro _ h2 _ ⟨rfl,rfl,hR2⟩;exact⟨h2,[],⟨rfl,rfl,hR2⟩,pk [0,1]⟩
theorem fB (w:World) (hin:h.In w) (hk:k.le ((Hp.whole w).minus h)) (hR:G9 k h b r) :
  j6 Tryz.prog 154 #[pQ b] w (O6 w h λv h' cs=>cs = []/\v=sv (O4 r 3).2/\G9 k h' b (O4 r 3).1):=by
 refine enterMZ (cx 5) [pQ b] hin [.tmp 2] Tryz.func154 ?_;refine l6 (i:=1) rfl (λw0 w' hok=>iY w' (hok.mem 1 _ rfl) (hok.kle rfl rfl hk) hR) ?_;rintro _ h2 _ ⟨rfl,rfl,hR2⟩;exact⟨h2,[],⟨rfl,rfl,hR2⟩,pk [0,1]⟩
theorem JH (w:World) (hin:h.In w) (hk:k.le ((Hp.whole w).minus h)) (hR:G9 k h b r) :
  j6 Tryz.prog 85 #[pQ b] w (O6 w h λ_ h' cs=>cs = []/\G9 k h' b (if (C7 r).1≠5 then y7 r 14 else r)):=by
 refine enterMZ (cx 8) [pQ b] hin [] Tryz.func85 ?_;refine k7 _ (λw' hm=>S7 w' (hm 1 _ rfl) (hk.trans (hm 0 _ rfl).whole) hR) ?_;refine d8 (λh1=>?_) λh1=>?_
 ·have h1':(C7 r).1≠5:=h1;rw[if_pos h1'];refine l6 (i:=1) rfl (λw0 w' hok=>G8 w' (hok.mem 1 _ rfl) (hok.kle rfl rfl hk) hR) ?_;rintro _ h3 _ ⟨rfl,hR3⟩;exact⟨h3,[],⟨rfl,hR3⟩,pk [0,1]⟩
 ·have h1' : ¬ (C7 r).1≠5:=h1;rw[if_neg h1'];exact⟨h,[],⟨rfl,hR⟩,pk [0,1]⟩
end
end Go.Proofs.YtpjhmeicbjkcdaaGreatDoor
namespace Go.Proofs.YtpjhmeicbjkcdaaGreatDoor
open Go Go.RowKit Go.Dw
theorem G9.kindB {k h:Hp} {b:Nat} {r:RS} (hR:G9 k h b r) (z:Int):(O4 r z).2.length < 900000:=by
 unfold O4;split
 ·exact O2 _
 ·exact hR.peekB
section
variable {k h:Hp} {b:Nat} {r:RS}
set_option maxRecDepth 10000 in
theorem gW (w:World) (hin:h.In w) (hk:k.le ((Hp.whole w).minus h)) (hR:G9 k h b r) :
  j6 Tryz.prog 203 #[pQ b] w (O6 w h λv h' cs=>cs = []/\v=sv (aM r).2/\G9 k h' b (aM r).1):=by
 refine enterMZ (cx 31) [pQ b] hin [.tmp 2] Tryz.func203 ?_;unfold aM;refine l6 (i:=1) rfl (λw0 w' hok=>cN (s:=[45]) w' (hok.mem 1 _ rfl) (hok.kle rfl rfl hk) hR) ?_;rintro _ h2 _ ⟨rfl,rfl,hR2⟩;refine s8 (λh1=>?_) λh1=>?_
 ·rw[if_pos h1];refine k7 _ (λw' hm=>S7 w' (hm 1 _ rfl) (hk.trans (hm 0 _ rfl).whole) hR2) ?_;intro b4;refine cG (a:=[45]) (b:=[]) ?_;conv=>whnf
  refine d8 (λh3=>?_) λh3=>?_;focus
   refine W8 (b:=[48]) ?_;refine d8 (λh4=>?_) λh4=>?_
   ·have e:tM r=y7 (U5 r [45]) 3:=by unfold tM;rw[if_pos ⟨h1,h3,h4⟩]
    rw[e];refine l6 (i:=1) rfl (λw0 w' hok=>G8 w' (hok.mem 1 _ rfl) (hok.kle rfl rfl hk) hR2) ?_;rintro _ h4 _ ⟨rfl,hR4⟩;refine l6 (i:=1) rfl (λw0 w' hok=>iY w' (hok.mem 1 _ rfl) (hok.kle rfl rfl hk) hR4) ?_;rintro _ h5 _ ⟨rfl,rfl,hR5⟩;refine W8 (b:=[]) ?_;refine d8 (λh5=>?_) λh5=>?_
    ·exact⟨_,[],⟨rfl,by rw[if_pos h5];rfl,hR5⟩,pk [0,1]⟩
    ·refine P0 (ty:=9) (a:=[45]) (by have:=hR4.kindB 2;simp only[d7,d9];omega) ?_;exact⟨_,[],⟨rfl,by rw[if_neg h5],hR5⟩,pk [0,1]⟩
   focus
    have e:tM r=U5 r [45]:=by unfold tM;rw[if_neg λg=>h4 g.2.2]
  rotate_left
  focus
   have e:tM r=U5 r [45]:=by unfold tM;rw[if_neg λg=>h3 g.2.1]
  all_goals
   rw[e];refine l6 (i:=1) rfl (λw0 w' hok=>iY w' (hok.mem 1 _ rfl) (hok.kle rfl rfl hk) hR2) ?_;rintro _ h5 _ ⟨rfl,rfl,hR5⟩;refine W8 (b:=[]) ?_;refine d8 (λh5=>?_) λh5=>?_
   ·exact⟨_,[],⟨rfl,by rw[if_pos h5];rfl,hR5⟩,pk [0,1]⟩
   ·refine P0 (ty:=9) (a:=[45]) (by have:=hR2.kindB 2;simp only[d7,d9];omega) ?_;exact⟨_,[],⟨rfl,by rw[if_neg h5],hR5⟩,pk [0,1]⟩
 ·have h1' : ¬ aA r [45]=true:=by rw[h1];decide
  rw[if_neg h1'];have e:tM r=U5 r [45]:=by unfold tM;rw[if_neg λg=>h1' g.1]
  rw[e];refine k7 _ (λw' hm=>S7 w' (hm 1 _ rfl) (hk.trans (hm 0 _ rfl).whole) hR2) ?_;intro b4;refine cG (a:=[]) (b:=[]) ?_;conv=>whnf
  refine l6 (i:=1) rfl (λw0 w' hok=>iY w' (hok.mem 1 _ rfl) (hok.kle rfl rfl hk) hR2) ?_;rintro _ h5 _ ⟨rfl,rfl,hR5⟩;refine W8 (b:=[]) ?_;refine d8 (λh5=>?_) λh5=>?_
  ·exact⟨_,[],⟨rfl,by rw[if_pos h5];rfl,hR5⟩,pk [0,1]⟩
  ·refine P0 (ty:=9) (a:=[]) (by have:=hR2.kindB 2;simp only[d9];omega) ?_;exact⟨_,[],⟨rfl,by rw[if_neg h5],hR5⟩,pk [0,1]⟩
end
theorem ZL :∀(l:e8) (i:Nat) (out:e8),(M7 l i out).2.1.length<=out.length+l.length:=by
 intro l;induction hn:l.length using gY generalizing l with
 | _ n ih=>
  intro i out;match l,hn with
  | [],_=>exact f8 _
  | [c],hn=>
   subst hn;unfold M7;split
   ·exact f8 _
   ·split
    ·split
     ·exact f8 _
     ·exact aO _ _
    ·split
     ·exact f8 _
     ·split <;> exact f8 _
  | c::e::r,hn=>
   unfold M7;simp only[d7] at hn;split
   ·exact f8 _
   ·split
    ·split
     ·exact f8 _
     ·exact aO _ _
    ·split
     ·exact f8 _
     ·split
      ·split
       ·have:=ih r.length om r rfl (i+2) (out++[e]);rw[d6,w7] at this;omega
       ·exact f8 _
      ·have:=ih (r.length+1) om (e::r) rfl (i+1) (out++[c]);rw[d6,w7] at this;omega
theorem NI (s:e8):(A6 s).2.2.1.length<=s.length:=by
 unfold A6;dsimp only;split
 ·have:=ZL (s.drop 1) 1 [];rw[k9,d9] at this;show (M7 (s.drop 1) 1 []).2.1.length<=_;omega
 ·split
  ·split
   ·exact f8 _
   ·exact List.length_take_le' _ _
  ·split
   ·split
    ·exact f8 _
    ·split
     ·exact List.length_take_le' _ _
     ·exact f8 _
   ·split
    ·exact f8 _
    ·exact List.length_take_le' _ _
theorem TF (s:e8):(A6 s).2.1≠5:=by
 obtain⟨h,h2⟩:=DP s;have key :∀k (hk:k < V0.length),eA (s.getD 0 0)=k->(V0[eA (s.getD 0 0)]'(mR _)).1=V0[k].1:=λk hk h=>by subst h;rfl
 rcases h2 with ⟨hc,_⟩ | ⟨hc,_⟩ | ⟨hc,_⟩ | ⟨hc,_⟩ <;> rw[key _ dc hc] at h <;> rw[<-h] <;> decide
theorem nO :∀(f:Nat) (s:e8) (p:Nat×Nat),∃pre last,pM f s p=pre++[last]/\(∀x∈pre,x.2=0/\x.1.1≠5/\x.1.2.1.length<=s.length)/\(last.2=0->last.1.1=5)/\last.1.2.1.length<=s.length
 | 0,s,p=>⟨[],_,rfl,sQ,λ_=>rfl,f8 _⟩
 | f+1,[],p=>⟨[],_,rfl,sQ,λ_=>rfl,f8 _⟩
 | f+1,c::r,p=>by
  have e:pM (f+1) (c::r) p=if c=32\/c=10 then pM f r (bX p c)
   else if c=35 then pM f ((c::r).drop (s9 (λc=>!decide (c=10)) (c::r))) (K6 p ((c::r).take (s9 (λc=>!decide (c=10)) (c::r))))
   else if (A6 (c::r)).2.2.2≠0 then [(((A6 (c::r)).2.1,(A6 (c::r)).2.2.1,(K6 p ((c::r).take (A6 (c::r)).1)).1,(K6 p ((c::r).take (A6 (c::r)).1)).2),(A6 (c::r)).2.2.2)]
    else (((A6 (c::r)).2.1,(A6 (c::r)).2.2.1,p.1,p.2),0)::pM f ((c::r).drop (A6 (c::r)).1) (K6 p ((c::r).take (A6 (c::r)).1)):=rfl
  rw[e];split
  ·obtain⟨pre,last,h1,h2,h3,h4⟩:=nO f r (bX p c);exact⟨pre,last,h1,λx hx=>⟨(h2 x hx).1,(h2 x hx).2.1,Nat.le_succ_of_le (h2 x hx).2.2⟩,h3,Nat.le_succ_of_le h4⟩
  ·split
   ·obtain⟨pre,last,h1,h2,h3,h4⟩:=nO f ((c::r).drop (s9 (λc=>!decide (c=10)) (c::r))) (K6 p ((c::r).take (s9 (λc=>!decide (c=10)) (c::r))));rw[k9] at h2 h4;exact⟨pre,last,h1,λx hx=>⟨(h2 x hx).1,(h2 x hx).2.1,v8 (h2 x hx).2.2 (Nat.sub_le _ _)⟩,h3,v8 h4 (Nat.sub_le _ _)⟩
   ·split
    ·rename_i h
     exact⟨[],_,rfl,sQ,λg=>absurd g h,NI _⟩
    ·obtain⟨pre,last,h1,h2,h3,h4⟩:=nO f ((c::r).drop (A6 (c::r)).1) (K6 p ((c::r).take (A6 (c::r)).1));rw[k9] at h2 h4;refine⟨_::pre,last,by rw[h1];rfl,λx hx=>?_,h3,v8 h4 (Nat.sub_le _ _)⟩;rcases A8.1 hx with rfl | hx
     ·exact⟨rfl,TF _,NI _⟩
     ·exact⟨(h2 x hx).1,(h2 x hx).2.1,v8 (h2 x hx).2.2 (Nat.sub_le _ _)⟩
theorem tT (s:e8):((aK s).2.2.2=0->cP (aK s).1)/\∀t∈(aK s).1,t.2.1.length < 900000:=by
 unfold aK;split
 ·exact⟨λh=>absurd h (show ¬ (5:Int)=0 by decide),λt ht=>absurd ht Q0⟩
 ·rename_i hl
  rw[<-tB];obtain⟨pre,last,h1,h2,h3,h4⟩:=nO (s.length+1) s (1,1);rw[h1];by_cases h:last.2=0
  ·have:=FD (pre++[last]) [] [] (λx hx=>by
    rcases G1.1 hx with hx | hx
    ·exact (h2 x hx).1
    ·rw[E2.1 hx];exact h)
   rw[p8,N6] at this;rw[this];refine⟨λ_=>⟨pre.map Prod.fst,last.1,by rw[E9];rfl,h3 h,λx hx=>?_⟩,λt ht=>?_⟩
   ·obtain⟨y,hy,rfl⟩:=G6.1 hx;exact (h2 y hy).2.1
   ·obtain⟨y,hy,rfl⟩:=G6.1 ht;rcases G1.1 hy with hy | hy
    ·have:=(h2 y hy).2.2;omega
    ·rw[E2.1 hy];omega
  ·have:=OY (pre:=pre) (x:=last) (λx hx=>(h2 x hx).1) h [];rw[p8] at this;rw[this];exact⟨λg=>absurd g h,λt ht=>by cases ht⟩
theorem XU (s:e8) (w:World) (hT:kU (Hp.whole w)):j6 Tryz.prog 75 #[sv s] w (fD w λv cs=>∃b h k,v=pQ b/\cs = [.hp h,.hp k]/\G9 k h b (yV s)):=by
 refine enterZ (cx 20) [sv s] [.tmp 2] Tryz.func75 ?_;refine call (λw' hm=>DE s w' (hT.mono (hm 0 _ rfl).whole)) ?_;rintro _ _ ⟨o,rfl,rfl,hO⟩;intro b19;have hb:w8 (λ_:Unit=>KI o.a o.n o.c (yV s)) 219 4 ⟨some ⟨b19,0,none⟩,1,1,(Ch.box b19 (KI o.a o.n o.c (yV s)) 219).h⟩ [()]:=w8.ofBox (λ_=>rfl) [()] sQ rfl dc;refine⟨[.hp (Ch.box b19 (KI o.a o.n o.c (yV s)) 219).h,.hp o.h],⟨b19,_,_,rfl,rfl,o.a,o.n,o.c,hb.2,w8.sl (f:=fT) (λ_=>rfl) dc hO,(tT s).1,(tT s).2⟩,λw' h=>?_⟩;have h2:Ok w [.hp (Hp.whole w),.box b19 (KI o.a o.n o.c (yV s)) 219,.hp o.h] w':=h.pick [0,2,1] rfl rfl;exact Ok.same (i:=1) (c:=.box b19 (KI o.a o.n o.c (yV s)) 219) (d:=.hp (Ch.box b19 (KI o.a o.n o.c (yV s)) 219).h) rfl rfl h2
end Go.Proofs.YtpjhmeicbjkcdaaGreatDoor
namespace Go.Proofs.YtpjhmeicbjkcdaaGreatDoor
def nZ (s:e8):Nat×List (Int×e8)×Int:=
 if s.getD 0 0=32\/s.getD 0 0=10 then (1,[],0)
 else if s.getD 0 0=35 then (s9 (λc=>!decide (c=10)) s,[],0)
 else ((A6 s).1,[((A6 s).2.1,(A6 s).2.2.1)],(A6 s).2.2.2)
def Mi (p:Nat×Nat) (l:List (Int×e8)):List kX:=l.map λx=>(x.1,x.2,p.1,p.2)
theorem DZ (f:Nat) (c:UInt8) (r:e8) (p:Nat×Nat) (out:List kX):cE (f+1) (c::r) p out =
  if (nZ (c::r)).2.2≠0 then ([],(K6 p ((c::r).take (nZ (c::r)).1)).1,(K6 p ((c::r).take (nZ (c::r)).1)).2,(nZ (c::r)).2.2)
  else cE f ((c::r).drop (nZ (c::r)).1) (K6 p ((c::r).take (nZ (c::r)).1)) (out++Mi p (nZ (c::r)).2.1):=by
 have e:cE (f+1) (c::r) p out=if c=32\/c=10 then cE f r (bX p c) out
   else if c=35 then cE f ((c::r).drop (s9 (λc=>!decide (c=10)) (c::r))) (K6 p ((c::r).take (s9 (λc=>!decide (c=10)) (c::r)))) out
   else if (A6 (c::r)).2.2.2≠0 then ([],(K6 p ((c::r).take (A6 (c::r)).1)).1,(K6 p ((c::r).take (A6 (c::r)).1)).2,(A6 (c::r)).2.2.2)
    else cE f ((c::r).drop (A6 (c::r)).1) (K6 p ((c::r).take (A6 (c::r)).1)) (out++[((A6 (c::r)).2.1,(A6 (c::r)).2.2.1,p.1,p.2)]):=rfl
 rw[e];have g:(c::r).getD 0 0=c:=rfl;unfold nZ;rw[g];by_cases h1:c=32\/c=10
 ·simp only[if_pos h1];rw[if_neg dc];show _=cE f r (bX p c) (out++[])
  rw[p8]
 ·simp only[if_neg h1];by_cases h2:c=35
  ·simp only[if_pos h2];rw[if_neg (show ¬ ((0:Int)≠0) by decide)];show _=cE f _ _ (out++[])
   rw[p8]
  ·simp only[if_neg h2];rfl
theorem bF (f:UInt8->Bool) :∀l:e8,s9 f l<=l.length
 | []=>k8 _
 | c::l=>by
  have:=bF f l;unfold s9 at this ⊢;rw[D8];split
  ·simp only[d7];omega
  ·simp
theorem lS {f:UInt8->Bool} (h:f 10=false) (t:e8) :∀l:e8,s9 f (l++10::t)=s9 f l
 | []=>by
  show (List.takeWhile f (10::t)).length=0
  rw[D8,if_neg (by rw[h];decide)];rfl
 | c::l=>by
  have:=lS h t l;unfold s9 at this ⊢;rw[BT,D8,D8];split
  ·rw[d7,d7,this]
  ·rfl
theorem ZN (t:e8) :∀(l:e8) (i:Nat) (out:e8),(M7 l i out).2.2=0->M7 (l++10::t) i out=M7 l i out/\(M7 l i out).1<=i+l.length:=by
 intro l;induction hn:l.length using gY generalizing l with
 | _ n ih=>
  intro i out h;match l,hn with
  | [],_=>exact absurd h (by show ¬ ((4:Int)=0);decide)
  | [c],hn=>
   have e:M7 [c] i out=if c=10 then (0,[],4) else if c=34 then (if 4096 < out.length then (0,[],5) else (i+1,out,0)) else if c.toNat < 32\/126 < c.toNat then (i,[],14) else if c=92 then (i,[],14) else (0,[],4):=rfl
   have e2:M7 ([c]++10::t) i out=if c=10 then (0,[],4) else if c=34 then (if 4096 < out.length then (0,[],5) else (i+1,out,0)) else if c.toNat < 32\/126 < c.toNat then (i,[],14) else if c=92 then (if (10:UInt8)=34\/(10:UInt8)=92 then M7 t (i+2) (out++[10]) else (i,[],14)) else M7 (10::t) (i+1) (out++[c]):=rfl
   rw[e] at h ⊢;rw[e2];subst hn;by_cases h1:c=10
   ·rw[if_pos h1] at h;exact absurd h (by show ¬ ((4:Int)=0);decide)
   ·rw[if_neg h1] at h ⊢;rw[if_neg h1];by_cases h2:c=34
    ·rw[if_pos h2] at h ⊢;rw[if_pos h2];by_cases h3:4096 < out.length
     ·rw[if_pos h3] at h;exact absurd h (by show ¬ ((5:Int)=0);decide)
     ·rw[if_neg h3];exact⟨rfl,k8 _⟩
    ·rw[if_neg h2] at h;split at h
     ·exact absurd h (by show ¬ ((14:Int)=0);decide)
     ·split at h
      ·exact absurd h (by show ¬ ((14:Int)=0);decide)
      ·exact absurd h (by show ¬ ((4:Int)=0);decide)
  | c::e::r,hn=>
   have e1 :∀r':e8,M7 (c::e::r') i out=if c=10 then (0,[],4) else if c=34 then (if 4096 < out.length then (0,[],5) else (i+1,out,0)) else if c.toNat < 32\/126 < c.toNat then (i,[],14) else if c=92 then (if e=34\/e=92 then M7 r' (i+2) (out++[e]) else (i,[],14)) else M7 (e::r') (i+1) (out++[c]):=λ_=>rfl
   have e2:(c::e::r)++10::t=c::e::(r++10::t):=rfl;rw[e2,e1,e1];rw[e1] at h;subst hn;by_cases h1:c=10
   ·rw[if_pos h1] at h;exact absurd h (by show ¬ ((4:Int)=0);decide)
   ·rw[if_neg h1] at h ⊢;rw[if_neg h1];by_cases h2:c=34
    ·rw[if_pos h2] at h ⊢;rw[if_pos h2];by_cases h3:4096 < out.length
     ·rw[if_pos h3] at h;exact absurd h (by show ¬ ((5:Int)=0);decide)
     ·rw[if_neg h3];exact⟨rfl,by show i+1<=i+(r.length+1+1);omega⟩
    ·rw[if_neg h2] at h ⊢;rw[if_neg h2];by_cases h3:c.toNat < 32\/126 < c.toNat
     ·rw[if_pos h3] at h;exact absurd h (by show ¬ ((14:Int)=0);decide)
     ·rw[if_neg h3] at h ⊢;rw[if_neg h3];by_cases h4:c=92
      ·rw[if_pos h4] at h ⊢;rw[if_pos h4];by_cases h5:e=34\/e=92
       ·rw[if_pos h5] at h ⊢;rw[if_pos h5];obtain⟨g1,g2⟩:=ih r.length (by simp only[d7];omega) r rfl (i+2) (out++[e]) h;exact⟨g1,by simp only[d7];omega⟩
       ·rw[if_neg h5] at h;exact absurd h (by show ¬ ((14:Int)=0);decide)
      ·rw[if_neg h4] at h ⊢;rw[if_neg h4];obtain⟨g1,g2⟩:=ih (e::r).length (by simp only[d7];omega) (e::r) rfl (i+1) (out++[c]) h;exact⟨g1,by simp only[d7] at g2 ⊢;omega⟩
theorem NZ (s:e8):(K5 s).1<=s.length:=by
 unfold K5;dsimp only;have h1:=bF l8 s;have h2:=bF l8 (s.drop (s9 l8 s+1));rw[k9] at h2;split
 ·rename_i h;obtain⟨_,h3,_⟩:=h;dsimp only;omega
 ·exact h1
theorem Ab (s t:e8):K5 (s++10::t)=K5 s:=by
 unfold K5;rw[lS dc];have h1:=bF l8 s;generalize s9 l8 s=k at h1;dsimp only;by_cases hk:k < s.length
 ·have e1:(s++10::t).getD k 0=s.getD k 0:=by
   rw[i7,i7,Y0 hk]
  have e2:(s++10::t).drop (k+1)=s.drop (k+1)++10::t:=List.drop_append_of_le_length hk;rw[e1,e2,lS dc];by_cases hc:s.getD k 0=47/\k < s.length/\0 < s9 l8 (s.drop (k+1))
  ·rw[if_pos hc,if_pos ⟨hc.1,by rw[d6];omega,hc.2.2⟩]
  ·rw[if_neg hc,if_neg λh=>hc ⟨h.1,hk,h.2.2⟩]
 ·have e1:(s++10::t).getD k 0=10:=by
   rw[i7,N0 om,show k - s.length=0 by omega];rfl
  rw[if_neg (λh=>by rw[e1] at h;exact absurd h.1 dc),if_neg (λh=>hk h.2.1)]
theorem Cj {P Q:Prop} [Decidable P] [Decidable Q] (h:P↔Q):(if P then 1 else 0:Nat)=if Q then 1 else 0:=by
 by_cases hp:P
 ·rw[if_pos hp,if_pos (h.1 hp)]
 ·rw[if_neg hp,if_neg λhq=>hp (h.2 hq)]
theorem YX {s:e8} (h0:0 < s.length) (t:e8):P6 (s++10::t)=P6 s:=by
 match s,h0 with
 | [c],_=>
  have e1:dD.any (λx=>decide (([c]++10::t).take 2=x))=false:=by
   show dD.any (λx=>decide ([c,10]=x))=false
   rw[J8];intro x hx h;have h:=of_decide_eq_true h;subst h;simp[dD] at hx
  have e2:dD.any (λx=>decide ([c].take 2=x))=false:=by
   show dD.any (λx=>decide ([c]=x))=false
   rw[J8];intro x hx h;have h:=of_decide_eq_true h;subst h;simp[dD] at hx
  unfold P6;rw[e1,e2,if_neg H0,if_neg H0];exact Cj ⟨λe=>⟨Ft _,e.2⟩,λe=>⟨Ft _,e.2⟩⟩
 | c::d::r,_=>
  unfold P6;have e1:((c::d::r)++10::t).take 2=(c::d::r).take 2:=rfl;rw[e1];by_cases h2:dD.any (λx=>decide ((c::d::r).take 2=x))=true
  ·rw[if_pos h2,if_pos h2]
  ·rw[if_neg h2,if_neg h2];exact Cj ⟨λe=>⟨Ft _,e.2⟩,λe=>⟨Ft _,e.2⟩⟩
theorem NJ {s:e8} (h:P6 s≠0):P6 s<=s.length:=by
 match s with
 | []=>exact absurd rfl h
 | [c]=>
  have e2:dD.any (λx=>decide ([c].take 2=x))=false:=by
   show dD.any (λx=>decide ([c]=x))=false
   rw[J8];intro x hx h;have h:=of_decide_eq_true h;subst h;simp[dD] at hx
  unfold P6;rw[e2];rw[if_neg dc];split
  ·exact k8 _
  ·exact f8 _
 | c::d::r=>
  unfold P6;split
  ·simp only[d7];omega
  ·split
   ·simp only[d7];omega
   ·exact f8 _
theorem YV {s:e8} (h0:0 < s.length) (h:(A6 s).2.2.2=0) (t:e8):A6 (s++10::t)=A6 s/\(A6 s).1<=s.length:=by
 match s,h0 with
 | c::r,_=>
  have gd :∀u:e8,(c::u).getD 0 0=c:=λ_=>rfl;have tk :∀n,n<=(c::r).length->((c::r)++10::t).take n=(c::r).take n:=λn hn=>List.take_append_of_le_length hn;have rl:=bF K7 (c::r);have nl:=NZ (c::r);have sa:=YX (s:=c::r) (Nat.succ_pos _) t;have na:=Ab (c::r) t;have ra:=lS (f:=K7) dc t (c::r);unfold A6 at h ⊢;have e0:((c::r)++10::t).getD 0 0=c:=rfl;rw[e0,gd] at *;rw[sa,na,ra];dsimp only at h ⊢;by_cases c1:c=34
  ·rw[if_pos c1] at h ⊢;rw[if_pos c1];obtain⟨g1,g2⟩:=ZN t r 1 [] h;refine⟨?_,?_⟩
   ·show ((M7 (r++10::t) 1 []).1,(3:Int),(M7 (r++10::t) 1 []).2.1,(M7 (r++10::t) 1 []).2.2)=_
    rw[g1];rfl
   ·show (M7 r 1 []).1<=r.length+1
    omega
  ·rw[if_neg c1] at h ⊢;rw[if_neg c1];by_cases c2:P4 c=true
   ·rw[if_pos c2] at h ⊢;rw[if_pos c2,tk _ rl];refine⟨rfl,?_⟩;split
    ·exact f8 _
    ·exact rl
   ·rw[if_neg c2] at h ⊢;rw[if_neg c2];by_cases c3:l8 c=true
    ·rw[if_pos c3] at h ⊢;rw[if_pos c3,tk _ nl];refine⟨rfl,?_⟩;split
     ·exact f8 _
     ·split
      ·exact nl
      ·exact f8 _
    ·rw[if_neg c3] at h ⊢;rw[if_neg c3];by_cases c4:P6 (c::r)=0
     ·rw[if_pos c4] at h;exact absurd h (by show ¬ ((14:Int)=0);decide)
     ·rw[if_neg c4,if_neg c4];have:=NJ c4;rw[tk _ this];exact⟨rfl,this⟩
theorem ZA {s:e8} (h0:0 < s.length) (h:(nZ s).2.2=0) (t:e8):nZ (s++10::t)=nZ s/\(nZ s).1<=s.length/\0 < (nZ s).1:=by
 match s,h0 with
 | c::r,h0=>
  have ra:=lS (f:=λc=>!decide (c=10)) dc t (c::r);have rl:=bF (λc=>!decide (c=10)) (c::r);unfold nZ at h ⊢;have e0:((c::r)++10::t).getD 0 0=c:=rfl;have e1:(c::r).getD 0 0=c:=rfl;rw[e0,ra];rw[e1] at h ⊢;by_cases c1:c=32\/c=10
  ·rw[if_pos c1,if_pos c1];exact⟨rfl,by show 1<=r.length+1;omega,by show 0 < 1;omega⟩
  ·rw[if_neg c1] at h ⊢;rw[if_neg c1];by_cases c2:c=35
   ·rw[if_pos c2,if_pos c2];refine⟨rfl,rl,?_⟩;show 0 < s9 _ (c::r)
    unfold s9;rw[D8,if_pos (by subst c2;decide)];exact Nat.succ_pos _
   ·rw[if_neg c2] at h ⊢;rw[if_neg c2];obtain⟨g1,g2⟩:=YV h0 h t;rw[g1];exact⟨rfl,g2,NH h0 h⟩
theorem DQ {s:e8} (h0:0 < s.length) (h:(nZ s).2.2=0):(nZ s).1<=s.length/\0 < (nZ s).1:=(ZA h0 h []).2
theorem GD :∀(n f f':Nat) (s:e8) (p:Nat×Nat) (out:List kX),s.length<=n->s.length < f->s.length < f'->cE f s p out=cE f' s p out
 | n,f+1,f'+1,[],p,out,_,_,_=>rfl
 | n+1,f+1,f'+1,c::r,p,out,hn,h1,h2=>by
  rw[DZ,DZ];by_cases h:(nZ (c::r)).2.2=0
  ·obtain⟨g1,g2⟩:=DQ (s:=c::r) (Nat.succ_pos _) h;rw[if_neg (λe=>e h),if_neg (λe=>e h)];simp only[d7] at *;exact GD n f f' _ _ _ (by rw[k9,d7];omega) (by rw[k9,d7];omega) (by rw[k9,d7];omega)
  ·rw[if_pos h,if_pos h]
end Go.Proofs.YtpjhmeicbjkcdaaGreatDoor
