/- Parts of one proof, joined. No condition of its own. -/
import Derived.Test.YtpjhmeicbjkcdaaGreatDoorZB1
import Derived.Lib.AppendZeros
import Derived.Shelf.Strings.Search1
import Derived.Ground.NamesProg
import Derived.Test.YtpjhmeicbjkcdaaGreatDoorProg
import Derived.Shelf.Pu.ParseUintPublic10
import Derived.Ground.MpProg
import Derived.Shelf.Strings.SlTrimAscii
import Derived.Shelf.Strconv.Itoa3
import Derived.Laws.CopyRow
import Derived.Tactics
import Derived.Tactics2
import Derived.Defers
import Derived.Laws.Pointers
import Derived.Laws.LoneSync
import Derived.RegionTactic
import Derived.RegionCalls
import Derived.ChangeAlike
import Derived.Shelf.Abstract
import Derived.Laws.IdiomStrings
import Derived.Shelf.Strings.Fields
import Derived.Laws.BytesArg
import Derived.Shelf.Strings.Builder1
import Derived.OrdersHeld
open Bool renaming false_eq_true->wH,and_true->CD,false_and->eG,and_eq_true->j4,or_eq_true->Q3,true_and->D9,eq_iff_iff->T7,or_true->lX,false_or->UZ,not_eq_true'->yW,false_ne_true->ZI
open Classical renaming byContradiction->j3,not_not->B9
open Int renaming natCast_nonneg->R6,tmod_eq_emod_of_nonneg->Ob,natCast_ediv->Iv,eq_ofNat_of_zero_le->S8
open List renaming drop_eq_getElem_cons->q6,drop_eq_nil_of_le->J2,drop_zero->G6,append_assoc->f8,drop_length->oW,eq_nil_of_length_eq_zero->w6,getElem_mem->j5,length_append->d6,length_drop->j9,length_replicate->O1,length_take->j1,mem_append->y8,mem_cons->p9,mem_of_mem_drop->A8,mem_of_mem_take->A7,mem_singleton->v6,nil_append->I4,not_mem_nil->G4,replicate->m6,take_length->q8,all_eq_true->s7,append_nil->k8,getD_eq_getElem?_getD->e8,getElem?_eq_getElem->i7,getElem?_eq_none->cT,mem_range->S6,range->x8,replicate_succ->sM,take_of_length_le->o6,cons_append->CZ,drop_of_length_le->bZ,drop_drop->J7,drop_left'->X7,length_cons->d7,length_nil->i6,length_set->M3,set_eq_take_append_cons_drop->ZM,take_append_drop->F8,take_left'->X6,takeWhile_cons->B6,all_cons->S3,any_eq_false->K8,mem_map->y7,any_eq_true->E5,find?_eq_none->jP,length_map->j6,map_cons->M2,mem_of_find?_eq_some->Ov,length_pos_iff->D1,map_append->E1,mem_iff_getElem->qQ,take_add->UW,all_append->sL,length_singleton->p7,flatMap_append->N7,size_toArray->Y7,take_take->Ny,getElem?_eq_some_iff->p6,getElem?_drop->bY,length->H4,take_succ_cons->UM,mem_cons_of_mem->B8,mem_of_getElem?->eE,getElem?_append_left->X3,getElem?_append_right->L8,take_append_of_le_length->qP
open Nat renaming lt_trichotomy->Em,add_mul->D2,add_zero->E7,div_eq_of_lt->Ir,div_lt_iff_lt_mul->K5,min_eq_left->T6,mod_eq_of_lt->C7,mul_comm->m8,mul_le_mul->P8,mul_le_mul_right->y9,one_mul->O8,pos_of_ne_zero->E4,sub_self->bX,zero_le->j0,beq->W2,ble->P9,blt->QZ,div_le_self->D0,eq_of_beq_eq_true->I3,le_of_ble_eq_true->D3,lt_of_le_of_lt->p8,lt_of_lt_of_le->J1,mod_lt->A6,mul_div_cancel_left->Po,mul_left_comm->lS,mul_lt_mul_of_pos_right->Lw,pow_add->jR,two_pow_pos->cC,zero_mul->bV,add_sub_cancel->wC,mul_add->B7,mul_assoc->A0,mul_le_mul_left->x7,mul_one->D7,pow_pos->qN,zero_add->w7,le_of_lt->lU,mul_zero->lP,pow_le_pow_right->E9,blt_eq->Nx,gcd->G8,lt_succ_self->Iq,strongRecOn->sI,eq_zero_or_pos->u9,lt_irrefl->pX,le_refl->j8,le_add_right->aN,lt_or_ge->M9,pow_succ->K6,not_lt_zero->M1,add_comm->fJ,succ_mul->bW,le_trans->q9,le_max_left->X5,le_max_right->U8,le_of_succ_le_succ->D5,max->uW,zero_lt_succ->E3,succ_ne_zero->oS
open Option.some renaming injEq->l8
namespace Go.Proofs.YtpjhmeicbjkcdaaGreatDoor
open Go Go.RowKit Go.Dw
theorem TH {a b:List Nat} {i:Nat} (hi:i < a.length) (hi2:i < b.length) (h:a.drop (i+1)=b.drop (i+1)) (e:a[i]=b[i]):a.drop i=b.drop i:=by
 rw[q6 hi,q6 hi2,h,e]
theorem oA {La Lb:List Nat} {a1 a2:Option Addr} {n1 c1 n2 c2 x y:Nat} (w:World) (ha:Sl (E0 fW) 1 (Hp.whole w) a1 n1 c1 La) (hb:Sl (E0 fW) 1 (Hp.whole w) a2 n2 c2 Lb) (hca:fX La x) (hcb:fX Lb y) (h2:Lb.length < 1000000) :
  j2 Tryz.prog 215 #[.slice a1 n1 c1,.slice a2 n2 c2] w (v8 w (iQ (CQ x y))):=by
 have hn1:=ha.len;have hn2:=hb.len;refine enterZ (cx 41) [.slice a1 n1 c1,.slice a2 n2 c2] [.tmp 4] Tryz.func215 ?_;refine d9 (λh3=>?_) λh3=>?_
 ·refine d9 (λh4=>?_) λh4=>?_
  ·have:=hca.shorter hcb om;exact⟨[],⟨by unfold CQ;rw[if_pos this],rfl⟩,pk [0]⟩
  ·have:=hcb.shorter hca om;exact⟨[],⟨by unfold CQ;rw[if_neg om,if_pos this],rfl⟩,pk [0]⟩
 ·refine nwo ?_;refine z6.mk Int (λg=>[(0,.v (.slice a1 n1 c1)),(1,.v (.slice a2 n2 c2)),(5,.v (iQ g))]) (λ_=>[.hp (Hp.whole w)])
   (λg=>-1<=g/\g < n1/\La.drop (g+1).toNat=Lb.drop (g+1).toNat) (λg=>(g+1).toNat) (n1 - 1) ⟨om,om,by
    rw[J2 om,J2 om]⟩ (y6.mk (λ_ _ h=>h) rfl rfl) ?_
  rintro g ⟨hg1,hg2,hg3⟩;dsimp only at *;refine d9 (λh5=>?_) λh5=>?_
  ·obtain⟨k,hk⟩ :∃k:Nat,g=k:=⟨g.toNat,om⟩
   subst hk;have hk1:k < La.length:=om
   have hk2:k < Lb.length:=om
   have hg3:La.drop (k+1)=Lb.drop (k+1):=hg3;refine u6.by_order cQ (.take 0 <| .take 1 <| .take 2 <| .take 3 <| .take 4 <| .take 5 <| .take 6 <| .take 7 <| .take 8 <| .done) kr ?_;refine R2 cQ (e:=247) rfl ha k rfl hk1 λb9 o9 cs hcs hR hcell4=>?_;subst hR;refine lQ 0 (hcell4 0 _ rfl) ?_;refine R2 cQ (e:=247) rfl hb k rfl hk2 λb9 o9 cs hcs hR hcell5=>?_;subst hR;refine lQ 0 (hcell5 0 _ rfl) ?_;refine d9 (λh6=>?_) λh6=>?_
   ·refine u6.by_order cQ (.take 0 <| .take 1 <| .take 2 <| .take 3 <| .take 4 <| .take 5 <| .take 6 <| .take 7 <| .take 8 <| .done) kr ?_;refine R2 cQ (e:=247) rfl ha k rfl hk1 λb9 o9 cs hcs hR hcell7=>?_;subst hR;refine lQ 0 (hcell7 0 _ rfl) ?_;refine R2 cQ (e:=247) rfl hb k rfl hk2 λb9 o9 cs hcs hR hcell8=>?_;subst hR;refine lQ 0 (hcell8 0 _ rfl) ?_;refine d9 (λh9=>?_) λh9=>?_
    ·have:=PL om hca.l hk1 hk2 hg3 om;rw[hca.v,hcb.v] at this;exact⟨[],⟨by unfold CQ;rw[if_pos this],rfl⟩,pk [0]⟩
    ·have:=PL om hcb.l hk2 hk1 hg3.symm om;rw[hca.v,hcb.v] at this;exact⟨[],⟨by unfold CQ;rw[if_neg om,if_pos this],rfl⟩,pk [0]⟩
   ·refine nwo ?_;exact⟨(k:Int) - 1,⟨om,om,by
     have e:((k:Int) - 1+1).toNat=k:=om
     rw[e];exact TH hk1 hk2 hg3 om⟩,om,y6.mk (λ_ _ h=>h) rfl rfl⟩
  ·have e:(g+1).toNat=0:=om
   rw[e,G6,G6] at hg3;have:x=y:=by rw[<-hca.v,<-hcb.v,hg3]
   exact⟨[],⟨by unfold CQ;rw[if_neg om,if_neg om],rfl⟩,pk [0]⟩
def aE (neg:Bool) (m:Nat):Int:=if neg=true then -(m:Int) else m
theorem Gs {s:List Ch} {xo yo:Operand} {x y:Bool} {q:TV->Prop} (h:q (.v (.bool (!(x==y))))) :
  C9 Tryz.prog s (do eqGuard .neq 4 xo yo (.bool x) (.bool y);binOp .neq 4 (.bool x) (.bool y)) q:=by
 refine⟨_,λw _=>?_,h⟩;have hun:(underlying 4).run Tryz.prog w=.ok .bool w:=by simp[underlying,Tryz.underlying4]
 have hg:(eqGuard .neq 4 xo yo (.bool x) (.bool y)).run Tryz.prog w=.ok () w:=by simp[eqGuard]
 rw[Sem.run_bind,hg];simp only[Result.andThen_ok,binOp,Sem.run_bind];unfold Op.equal Op.maxDepth;rw[show (10000:Nat)=9999+1 from rfl];unfold Op.equalIn;simp only[Sem.run_bind,hun,Result.andThen_ok];rfl
theorem cZ {La Lb:List Nat} {g1 g2:Bool} {a1 a2:Option Addr} {n1 c1 n2 c2 x y:Nat} (w:World) (ha:Sl (E0 fW) 1 (Hp.whole w) a1 n1 c1 La) (hb:Sl (E0 fW) 1 (Hp.whole w) a2 n2 c2 Lb) (hca:fX La x) (hcb:fX Lb y) (h1:La.length < 1000000) (h2:Lb.length < 1000000) (p1:g1=true->0 < x) (p2:g2=true->0 < y) :
  j2 Tryz.prog 182 #[T8 g1 a1 n1 c1,T8 g2 a2 n2 c2] w (v8 w (iQ (jB (aE g1 x) (aE g2 y)))):=by
 refine enterZ (cx 26) [T8 g1 a1 n1 c1,T8 g2 a2 n2 c2] [.tmp 4] Tryz.func182 ?_;intro b2;intro b3;refine Gs ?_;refine v7 (λh3=>?_) λh3=>?_
 ·refine v7 (λh4=>?_) λh4=>?_
  ·subst h4;have:g2=false:=by cases g2 with | false=>rfl | true=>cases h3
   subst this;have:=p1 rfl;exact⟨[],⟨by unfold jB;rw[if_pos (show aE true x < aE false y from show -(x:Int) < (y:Int) by omega)],rfl⟩,pk [0]⟩
  ·subst h4;have:g2=true:=by cases g2 with | true=>rfl | false=>cases h3
   subst this;have:=p2 rfl;exact⟨[],⟨by unfold jB;rw[if_neg (show ¬ aE false x < aE true y from show ¬ (x:Int) < -(y:Int) by omega),if_pos (show aE true y < aE false x from show -(y:Int) < (x:Int) by omega)],rfl⟩,pk [0]⟩
 ·have hg:g1=g2:=by cases g1 <;> cases g2 <;> first | rfl | cases h3
  subst hg;refine v7 (λh4=>?_) λh4=>?_
  ·refine k7 _ (λw' hm=>oA w' (hb.mono (j7 _) (hm 0 _ rfl)) (ha.mono (j7 _) (hm 0 _ rfl)) hcb hca h1) ?_;exact⟨[],⟨by
    subst h4;unfold CQ jB aE;congr 1
    simp only[if_true];rcases Em x y with g | g | g
    ·rw[if_neg om,if_pos om,if_neg om,if_pos om]
    ·rw[if_neg om,if_neg om,if_neg om,if_neg om]
    ·rw[if_pos om,if_pos om],rfl⟩,pk [0]⟩
  ·refine k7 _ (λw' hm=>oA w' (ha.mono (j7 _) (hm 0 _ rfl)) (hb.mono (j7 _) (hm 0 _ rfl)) hca hcb h2) ?_;exact⟨[],⟨by
    subst h4;unfold CQ jB aE;congr 1
    simp only[wH,if_false];rcases Em x y with g | g | g
    ·rw[if_pos om,if_pos om]
    ·rw[if_neg om,if_neg om,if_neg om,if_neg om]
    ·rw[if_neg om,if_pos om,if_neg om,if_pos om],rfl⟩,pk [0]⟩
end Go.Proofs.YtpjhmeicbjkcdaaGreatDoor
namespace Go.Proofs.YtpjhmeicbjkcdaaGreatDoor
open Go Go.RowKit Go.Dw
theorem QT {u:Nat} (h:u < 18446744073709551616):O4 [u % 4294967296,u / 4294967296 % 4294967296]/\q7 [u % 4294967296,u / 4294967296 % 4294967296]=u:=by
 refine⟨λd hd=>?_,?_⟩
 ·simp only[p9,G4,or_false] at hd;unfold Bs;rcases hd with rfl | rfl <;> omega
 ·simp only[q7];unfold Bs;omega
theorem VF {L:List Nat} (hL:O4 L):trN L=0↔q7 L=0:=by
 have h:=U7 hL;rw[h.zero,<-iH];exact⟨w6,λe=>by rw[e];rfl⟩
theorem iX {h:Hp} {L:List Nat} {a:Option Addr} {n c:Nat} (hs:Sl (E0 fW) 1 h a n c L):Sl (E0 fW) 1 h a (trN L) c (LV L):=hs.upto (by rw[hs.len];exact nB L)
theorem vN (x:Int) (hx1 : -9223372036854775808<=x) (hx2:x<=9223372036854775807) (w:World) :
  j2 Tryz.prog 148 #[iQ x] w (fQ w λv cs=>∃g a n c L,cs = [.hp g]/\v=T8 (decide (x < 0)) a n c/\Sl (E0 fW) 1 g a n c L/\fX L x.natAbs):=by
 refine enterZ (cx 19) [iQ x] [.cell 2 139] Tryz.func148 ?_;intro b2;refine yJ (y:=x % 18446744073709551616) rfl ?_;refine d9 (λh1=>?_) λh1=>?_
 ·refine yJ (y:=(x.natAbs:Nat)) om ?_;refine iM x.natAbs rfl ?_;refine rF x.natAbs 32 rfl rfl dc ?_;refine iM (x.natAbs / 2 ^ 32) rfl ?_;intro b17;obtain⟨hL,hV⟩:=QT (u:=x.natAbs) om;refine k7 _ (λw' hm=>aU _ w' (Sl.box (f:=fW) (λ_=>rfl) dc (hm 2 _ rfl) [x.natAbs % 4294967296,x.natAbs / 4294967296 % 4294967296] rfl rfl sQ) sQ) ?_;have ho:=w5.sl (f:=fW) (sz:=1) (λ_=>rfl) dc (w5.ofBox (sz:=1) (f:=fW) (b:=b17) (T:=247) (λ_=>rfl) [x.natAbs % 4294967296,x.natAbs / 4294967296 % 4294967296] rfl rfl sQ);refine⟨_,⟨_,_,_,_,_,rfl,?_,iX ho,by have:=U7 hL;rw[hV] at this;exact this⟩,λw' h=>(h.pick [0,2] rfl rfl).boxHp⟩;have:0 < trN [x.natAbs % 4294967296,x.natAbs / 4294967296 % 4294967296]:=E4 λe=>by
   rw[VF hL,hV] at e;omega
  rw[decide_eq_true this,CD];rfl
 ·refine iM x.natAbs om ?_;refine rF x.natAbs 32 om rfl dc ?_;refine iM (x.natAbs / 2 ^ 32) rfl ?_;intro b17;obtain⟨hL,hV⟩:=QT (u:=x.natAbs) om;refine k7 _ (λw' hm=>aU _ w' (Sl.box (f:=fW) (λ_=>rfl) dc (hm 2 _ rfl) [x.natAbs % 4294967296,x.natAbs / 4294967296 % 4294967296] rfl rfl sQ) sQ) ?_;have ho:=w5.sl (f:=fW) (sz:=1) (λ_=>rfl) dc (w5.ofBox (sz:=1) (f:=fW) (b:=b17) (T:=247) (λ_=>rfl) [x.natAbs % 4294967296,x.natAbs / 4294967296 % 4294967296] rfl rfl sQ);refine⟨_,⟨_,_,_,_,_,rfl,?_,iX ho,by have:=U7 hL;rw[hV] at this;exact this⟩,λw' h=>(h.pick [0,2] rfl rfl).boxHp⟩;rw[decide_eq_false h1,eG];rfl
def wT (by':Nat) (L:List Nat) (plus:Nat):List Nat:=(U1 by' L plus).1++[(U1 by' L plus).2]
theorem RX {by' plus:Nat} (hb:by' < Bs) (hp:plus < Bs) {L:List Nat} (hL:O4 L):q7 (wT by' L plus)=q7 L*by'+plus/\O4 (wT by' L plus)/\(wT by' L plus).length=L.length+1:=by
 obtain⟨h1,h2,h3,h4⟩:=tJ hb L plus hL hp;refine⟨?_,λd hd=>?_,by unfold wT;rw[d6,h2];rfl⟩
 ·unfold wT;rw[X8,h2];omega
 ·rcases y8.1 hd with g | g
  ·exact h3 d g
  ·rw[v6] at g;rw[g];exact h4
theorem zX {L:List Nat} {a:Option Addr} {n c m:Nat} (w:World) (by' plus:Nat) (hs:Sl (E0 fW) 1 (Hp.whole w) a n c L) (hc:fX L m) (hl:L.length < 900000) (hb:by' < Bs) (hp:plus < Bs) :
  j2 Tryz.prog 258 #[.slice a n c,.int .u32 by',.int .u32 plus] w (fQ w λv cs=>∃g a' n' c' L',cs = [.hp g]/\v=.slice a' n' c'/\Sl (E0 fW) 1 g a' n' c' L'/\fX L' (m*by'+plus)/\L'.length<=L.length+1):=by
 have hn:=hs.len;refine enterZ (cx 47) [.slice a n c,.int .u32 by',.int .u32 plus] [.tmp 6] Tryz.func258 ?_;refine nwo ?_;refine Hj (f:=fW) cQ (e:=247) rfl (L.length+1) 0 rfl om om rfl om λo14 ho14n ho14=>?_;refine I8 plus rfl (by unfold Bs at hp;omega) ?_;refine z6.mk (Nat×Dw.Os) (λg=>[(0,.v (.slice a n c)),(1,.v (.int .u32 by')),(7,.v (g.2.v)),(8,.v (.int .u64 ((U1 by' (L.take g.1) plus).2:Nat))),(17,.v (.slice a n c)),(18,.v (iQ n)),(19,.v (iQ g.1))]) (λg=>[.hp (Hp.whole w),.hp g.2.h])
  (λg=>g.1<=L.length/\w5 fW 247 1 g.2 ((U1 by' (L.take g.1) plus).1++(m6 (L.length - g.1+1) 0++[]))) (λg=>L.length - g.1) (0,o14) ⟨j0 _,by simpa [U1] using ho14⟩ (y6.mk (λ_ _ h=>h) rfl rfl) ?_
 rintro⟨i,o⟩ ⟨hi,ho⟩;dsimp only at *;have hv:=tJ hb (L.take i) plus (λd hd=>hc.l d (A7 hd)) hp;have hlen:=zY by' (L.take i) plus
 rw[j1,T6 hi] at hlen;refine d9 (λh1=>?_) λh1=>?_
 ·have hi':i < L.length:=om
  have hd:=hc.l L[i] (j5 hi');have hdb:L[i]*by'<=(Bs - 1)*(Bs - 1):=P8 om om
  have hc4:=hv.2.2.2;have hsn:=vH by' (L.take i) L[i] plus
  rw[<-I9 L i hi'] at hsn;refine R2 cQ (e:=247) rfl hs i rfl hi' λb9 o9 cs hcs hR hcell2=>?_;subst hR;refine lQ 0 (hcell2 0 _ rfl) ?_;refine I8 L[i] rfl (by unfold Bs at hd;omega) ?_;refine I8 by' rfl (by unfold Bs at hb;omega) ?_
  refine I8 (L[i]*by') sQ (by unfold Bs at hdb;omega) ?_;refine I8 ((U1 by' (L.take i) plus).2+L[i]*by') sQ (by unfold Bs at hdb hc4;omega) ?_;refine iM ((U1 by' (L.take i) plus).2+L[i]*by') rfl ?_;refine aW cQ (e:=247) rfl rfl ho i rfl (by simp;omega) λb3 hb3=>?_;refine mG (g:=λx:Nat=>.int .u32 x) (λ_=>rfl) cQ (i:=1) rfl hb3 ho (by simp;omega) rfl rfl (((U1 by' (L.take i) plus).2+L[i]*by') % Bs) rfl rfl rfl λo2 f1 f2 f3 ho2=>?_;refine rF ((U1 by' (L.take i) plus).2+L[i]*by') 32 rfl rfl dc ?_;refine nwo ?_;refine⟨(i+1,o2),⟨om,?_⟩,by dsimp only;omega,y6.mk (λ_ _ h=>h) ?_ rfl⟩
  ·have e:=FK (U1 by' (L.take i) plus).1 0 (((U1 by' (L.take i) plus).2+L[i]*by') % Bs) (L.length - (i+1)+1) [];rw[hlen] at e;rw[show L.length - i+1=L.length - (i+1)+1+1 by omega] at ho2;rw[e] at ho2;rw[hsn];exact ho2
  ·dsimp only[Os.v];rw[hsn,f1,f2,f3];rfl
 ·have hi':i=L.length:=om
  subst hi';rw[q8] at hv hlen ho ⊢;have hc4:=hv.2.2.2;refine iM ((U1 by' L plus).2) rfl ?_;refine aW cQ (e:=247) rfl rfl ho L.length om (by simp;omega) λb3 hb3=>?_;refine mG (g:=λx:Nat=>.int .u32 x) (λ_=>rfl) cQ (i:=1) rfl hb3 ho (by simp;omega) rfl rfl ((U1 by' L plus).2 % Bs) rfl rfl rfl λo2 f1 f2 f3 ho2=>?_;have e:((U1 by' L plus).1++(m6 (L.length - L.length+1) 0++[])).set L.length ((U1 by' L plus).2 % Bs)=wT by' L plus:=by
   have:=FK (U1 by' L plus).1 0 ((U1 by' L plus).2 % Bs) 0 [];rw[hlen] at this;rw[bX,this,C7 hc4];simp[wT]
  rw[e] at ho2;have hr:=RX hb hp hc.l;have ho3:=w5.sl (f:=fW) (sz:=1) (λ_=>rfl) dc ho2;rw[f1,f2,f3] at ho3;refine k7 _ (λw' hm=>aT w' (ho3.mono (j7 _) (hm 1 _ rfl)) (by rw[hr.2.2];omega)) ?_;exact⟨[.hp o2.h],⟨_,_,_,_,_,rfl,rfl,iX ho3,by have:=U7 hr.2.1;rw[hr.1,hc.v] at this;exact this,by have:=nB (wT by' L plus);have:=hr.2.2;rw[iH];omega⟩,pk [0,1]⟩
theorem zV {L:List Nat} {a:Option Addr} {n c:Nat} (w:World) (by':Nat) (hs:Sl (E0 fW) 1 (Hp.whole w) a n c L) (hc:O4 L) (hl:L.length < 900000) (h0:0 < by') (hb:by' < Bs) :
  j2 Tryz.prog 198 #[.slice a n c,.int .u32 by'] w (fQ w λv cs=>∃g a' n' c' L',cs = [.hp g]/\v=.tuple #[.slice a' n' c',.int .u32 ((q7 L % by':Nat):Int)]/\Sl (E0 fW) 1 g a' n' c' L'/\fX L' (q7 L / by')):=by
 have hn:=hs.len;have hb':by' < 4294967296:=hb
 refine enterZ (cx 43) [.slice a n c,.int .u32 by'] [.tmp 4,.tmp 5] Tryz.func198 ?_;refine Hj (f:=fW) cQ (e:=247) rfl L.length 0 rfl om om rfl om λo11 ho11n ho11=>?_;refine nwo ?_;refine z6.mk (Int×Dw.Os) (λg=>[(0,.v (.slice a n c)),(1,.v (.int .u32 by')),(6,.v (g.2.v)),(7,.v (.int .u64 ((gD by' (L.drop (g.1+1).toNat)).2:Nat))),(8,.v (iQ g.1))]) (λg=>[.hp (Hp.whole w),.hp g.2.h])
  (λg=>-1<=g.1/\g.1 < n/\w5 fW 247 1 g.2 (m6 (g.1+1).toNat 0++(gD by' (L.drop (g.1+1).toNat)).1)) (λg=>(g.1+1).toNat) ((n:Int) - 1,o11) ⟨by dsimp only;omega,by dsimp only;omega,by
   have e:((n:Int) - 1+1).toNat=L.length:=om
   dsimp only;rw[e,oW];simpa [gD] using ho11⟩ (y6.mk (λ_ _ h=>h) (by
    have e:((n:Int) - 1+1).toNat=L.length:=om
    dsimp only;rw[e,oW];rfl) rfl) ?_
 rintro⟨i,o⟩ ⟨hi1,hi2,ho⟩;dsimp only at *;refine d9 (λh1=>?_) λh1=>?_
 ·obtain⟨k,hk⟩ :∃k:Nat,i=k:=⟨i.toNat,om⟩
  subst hk;have hk1:k < L.length:=om
  have ek:((k:Int)+1).toNat=k+1:=om
  rw[ek] at ho ⊢;have hd:=hc L[k] (j5 hk1);have hsv:=zW h0 hb (L.drop (k+1)) λd hd=>hc d (A8 hd);have hsd:=RO by' L k hk1
  have hsl:=IK by' (L.drop (k+1))
  generalize hS:gD by' (L.drop (k+1))=S at *
  have hr:=hsv.2.2.2;have hdl:(L.drop (k+1)).length=L.length - (k+1):=j9;refine FX S.2 32 rfl rfl dc ?_;have e1:S.2*2 ^ 32 % 18446744073709551616=2 ^ 32*S.2:=by
   rw[m8];exact C7 om
  rw[e1];refine R2 cQ (e:=247) rfl hs k rfl hk1 λb9 o9 cs hcs hR hcell2=>?_;subst hR;refine lQ 0 (hcell2 0 _ rfl) ?_;refine I8 L[k] rfl (by unfold Bs at hd;omega) ?_;refine PI (2 ^ 32*S.2) L[k] rfl rfl om (by unfold Bs at hd;omega) ?_;rw[GB (k:=32) rfl hd];have e2:2 ^ 32*S.2+L[k]=S.2*Bs+L[k]:=by rw[m8];rfl
  rw[e2];have hB:S.2*Bs+L[k] < 18446744073709551616:=by unfold Bs at hd ⊢;omega
  refine I8 by' rfl om ?_
  refine WE (S.2*Bs+L[k]) by' rfl rfl h0 hB ?_
  refine iM ((S.2*Bs+L[k]) / by') rfl ?_;have hq:(S.2*Bs+L[k]) / by' < Bs:=by
   rw[K5 h0];have:(S.2+1)*Bs<=by'*Bs:=y9 _ om
   rw[D2,O8,m8 by' Bs] at this;omega
  have e3:(S.2*Bs+L[k]) / by' % 4294967296=(S.2*Bs+L[k]) / by':=C7 hq
  rw[e3];have hkl:k < (m6 (k+1) 0++S.1).length:=by simp;omega
  refine aW cQ (e:=247) rfl rfl ho k rfl hkl λb3 hb3=>?_;refine mG (g:=λx:Nat=>.int .u32 x) (λ_=>rfl) cQ (i:=1) rfl hb3 ho hkl rfl rfl ((S.2*Bs+L[k]) / by') rfl rfl rfl λo2 f1 f2 f3 ho2=>?_;refine I8 by' rfl om ?_
  refine WD (S.2*Bs+L[k]) by' rfl rfl h0 hB ?_
  refine nwo ?_;have e4:((k:Int) - 1+1).toNat=k:=om
  refine⟨((k:Int) - 1,o2),⟨by dsimp only;omega,by dsimp only;omega,?_⟩,by dsimp only;omega,y6.mk (λ_ _ h=>h) ?_ rfl⟩
  ·dsimp only;rw[e4,hsd];rw[List.replicate_succ',f8] at ho2;have:=tI (m6 k 0) 0 ((S.2*Bs+L[k]) / by') S.1;rw[O1] at this;rw[List.singleton_append,this,f8] at ho2;exact ho2
  ·dsimp only[Os.v];rw[e4,hsd,f1,f2,f3];rfl
 ·have e:(i+1).toNat=0:=om
  rw[e,G6] at ho ⊢;have hsv:=zW h0 hb L hc;have hr:=hsv.2.2.2;have ho3:=w5.sl (f:=fW) (sz:=1) (λ_=>rfl) dc ho;rw[List.replicate_zero,I4] at ho3;refine k7 _ (λw' hm=>aT w' (ho3.mono (j7 _) (hm 1 _ rfl)) (by rw[hsv.2.1];omega)) ?_;refine iM (gD by' L).2 rfl ?_;have hdm:q7 (gD by' L).1=q7 L / by'/\(gD by' L).2=q7 L % by':=by
   have h:=hsv.1;rw[m8] at h;constructor
   ·rw[<-h,Nat.mul_add_div h0,Ir hr,E7]
   ·rw[<-h,Nat.mul_add_mod,C7 hr]
  have hcan:=U7 hsv.2.2.1;rw[hdm.1] at hcan;exact⟨[.hp o.h],⟨_,_,_,_,_,rfl,by rw[C7 om,hdm.2],iX ho3,hcan⟩,pk [0,1]⟩
end Go.Proofs.YtpjhmeicbjkcdaaGreatDoor
namespace Go.Dw
open Go Go.RowKit
theorem gJ {x y:Int} {q:Int->Prop} (h:x % 256=y) (hq:q y):bU .u8 x q:=⟨y,by rw[IntKind.wrap_u8',h],hq⟩
section
variable {P:Program} {s:List Ch} {ty:Nat} {q:TV->Prop}
theorem MV (a n:Nat) {x y:Int} (hx:x=a) (hy:y=n) (hn:n < 32) (h:q (.v (.int .u32 ((a / 2 ^ n:Nat):Int)))):C9 P s (binOp .shr ty (.int .u32 x) (.int .u64 y)) q:=by
 subst hx hy;exact⟨_,λw _=>DH a n .u64 hn w,h⟩
def Et (x:ByteArray):Bool:=W2 x.size 256 && (x8 256).all λn=>QZ n (2 ^ (x.get! n).toNat) && P9 (x.get! n).toNat 8 && (W2 n 0 || QZ 0 (x.get! n).toNat)
theorem Az {x:ByteArray} {X:Q2} (hx:Et x=true) (hX:X.Good) {S:Nat} {ti:TI} (ht:G9 X.tt S=some ti) (hk:ti.k=.str) {k:IntKind} {i:Int} (n:Nat) (hi:i=n) (hn:n < 256) (h :∀r:Nat,n < 2 ^ r->r<=8->(0 < n->0 < r)->q (.v (.int .u8 (r:Int)))) :
  C9 X.P s (Instr.index S (.string x) (.int k i)) q:=by
 unfold Et at hx;rw[j4] at hx;have hs:=I3 hx.1;have ha:=s7.1 hx.2 n (S6.2 hn);rw[j4,j4,Q3] at ha;obtain⟨⟨h1,h2⟩,h3⟩:=ha;refine Fb hX ht hk n hi om (h _ ?_ (D3 h2) λh0=>?_)
 ·exact D3 h1
 ·rcases h3 with g | g
  ·have:=I3 g;omega
  ·exact D3 g
end
end Go.Dw
namespace Go.Proofs.YtpjhmeicbjkcdaaGreatDoor
open Go Go.RowKit Go.Dw
theorem FY {n x r k:Nat} (h:x / 2 ^ k < 2 ^ r) (hn:n=k+r):x < 2 ^ n:=by
 rw[K5 (cC k),m8,<-jR] at h;rw[hn];exact h
theorem NI (x:Nat) (hx:x < 4294967296) (w:World):j2 Tryz.prog 296 #[.int .u32 x] w (fQ w λv cs=>cs = []/\∃r:Nat,v=iQ r/\x < 2 ^ r/\r<=32/\(0 < x->0 < r)):=by
 refine enterZ (cx 19) [.int .u32 x] [.tmp 2] Tryz.func296 ?_;refine d9 (λh1=>?_) λh1=>?_
 ·refine MV (ty:=247) x 16 rfl rfl dc ?_;refine d9 (λh2=>?_) λh2=>?_
  ·refine MV (ty:=247) (x / 2 ^ 16) 8 rfl rfl dc ?_;refine nwo ?_;refine gJ (y:=((x / 2 ^ 16 / 2 ^ 8:Nat):Int)) om ?_;refine Az kr cQ rfl rfl (x / 2 ^ 16 / 2 ^ 8) rfl om λr r1 r2 r3=>?_;(iterate 2 refine nwo ?_);exact⟨[],⟨rfl,24+r,sQ,FY (FY r1 rfl) om,om,λ_=>by omega⟩,pk [0]⟩
  ·refine gJ (y:=((x / 2 ^ 16:Nat):Int)) om ?_;refine Az kr cQ rfl rfl (x / 2 ^ 16) rfl om λr r1 r2 r3=>?_;(iterate 2 refine nwo ?_);exact⟨[],⟨rfl,16+r,sQ,FY r1 rfl,om,λ_=>by omega⟩,pk [0]⟩
 ·refine d9 (λh2=>?_) λh2=>?_
  ·refine MV (ty:=247) x 8 rfl rfl dc ?_;refine nwo ?_;refine gJ (y:=((x / 2 ^ 8:Nat):Int)) om ?_;refine Az kr cQ rfl rfl (x / 2 ^ 8) rfl om λr r1 r2 r3=>?_;(iterate 2 refine nwo ?_);exact⟨[],⟨rfl,8+r,sQ,FY r1 rfl,om,λ_=>by omega⟩,pk [0]⟩
  ·refine gJ (y:=((x:Nat):Int)) om ?_;refine Az kr cQ rfl rfl x rfl om λr r1 r2 r3=>?_;(iterate 2 refine nwo ?_);exact⟨[],⟨rfl,r,sQ,r1,om,r3⟩,pk [0]⟩
theorem JS (x:Nat) (hx:x < 4294967296) (h0:0 < x) (w:World):j2 Tryz.prog 271 #[.int .u32 x] w (fQ w λv cs=>cs = []/\∃r:Nat,v=iQ r/\x*2 ^ r < Bs/\r < 32):=by
 refine enterZ (cx 6) [.int .u32 x] [.tmp 2] Tryz.func271 ?_;refine call (λw' hm=>NI x hx w') ?_;rintro _ _ ⟨rfl,r,rfl,r1,r2,r3⟩;have:=r3 h0;refine nwo ?_;refine⟨[],⟨rfl,32 - r,by congr 1;omega,?_,om⟩,λw' h=>h⟩;have e:2 ^ r*2 ^ (32 - r)=Bs:=by rw[<-jR,show r+(32 - r)=32 by omega];rfl
 rw[<-e];exact Lw r1 (cC _)
theorem LC {a:Option Addr} {n c:Nat} {L:List Nat} (w:World) (hL:Sl (E0 fW) 1 (Hp.whole w) a n c L) (hn:n < 1000000000) :
  j2 Tryz.prog 297 #[.slice a n c] w (fQ w λv cs=>∃o,v=o.v/\cs = [.hp o.h]/\w5 fW 247 1 o L):=by
 have hlen:=hL.len;refine enterZ (cx 8) [.slice a n c] [.tmp 2] Tryz.func297 ?_;refine MW rfl ?_;refine v7 (λh=>?_) λh=>?_
 ·refine⟨[.hp Hp.emp],⟨Os.nil,rfl,rfl,?_⟩,λw' h=>h.emp⟩;have:L = []:=by
   cases a with
   | none=>cases L with
    | nil=>rfl
    | cons x r=>obtain⟨b,off,cs,h1,_⟩:=hL.cells 0 sQ;cases h1
   | some _=>simp at h
  rw[this];exact w5.nil _ _ _
 ·intro b;refine Lc cQ (e:=247) rfl (λ_=>rfl) (λ_=>rfl) (k:=0) rfl hL rfl om λo' ho'=>?_;exact⟨[.hp o'.h],⟨o',rfl,rfl,ho'⟩,pk [0,2]⟩
theorem vK {k:Nat} (hk:k < 32):2 ^ k*2 ^ (32 - k)=Bs/\2 ^ k < Bs:=by
 have e:2 ^ k*2 ^ (32 - k)=Bs:=by rw[<-jR,show k+(32 - k)=32 by omega];rfl
 exact⟨e,J1 (Nat.pow_lt_pow_right dc hk) dc⟩
theorem wS {L:List Nat} {a:Option Addr} {n c:Nat} (w:World) (k:Nat) (hs:Sl (E0 fW) 1 (Hp.whole w) a n c L) (hc:O4 L) (hl:L.length < 900000) (hk:k < 32) :
  j2 Tryz.prog 272 #[.slice a n c,iQ k] w (fQ w λv cs=>∃o:Dw.Os,cs = [.hp o.h]/\v=o.v/\w5 fW 247 1 o (iA (2 ^ k) L)):=by
 have hn:=hs.len;obtain⟨hps,hpB⟩:=vK hk;have hp0:=cC k;generalize hp:2 ^ k=p at *;refine enterZ (cx 40) [.slice a n c,iQ k] [.tmp 4] Tryz.func272 ?_;refine nwo ?_;refine Hj (f:=fW) cQ (e:=247) rfl (L.length+1) 0 rfl om om rfl om λo11 ho11n ho11=>?_;refine z6.mk (Nat×Dw.Os) (λg=>[(1,.v (iQ k)),(5,.v (g.2.v)),(12,.v (.slice a n c)),(13,.v (iQ n)),(14,.v (iQ g.1))]) (λg=>[.hp (Hp.whole w),.hp g.2.h])
  (λg=>g.1<=L.length/\w5 fW 247 1 g.2 (iA p (L.take g.1)++(m6 (L.length - g.1) 0++[]))) (λg=>L.length - g.1) (0,o11) ⟨j0 _,by
   have e:iA p (L.take 0)++(m6 (L.length - 0) 0++[])=m6 (L.length+1) 0:=by simp[iA,U1,sM]
   rw[e];exact ho11⟩ (y6.mk (λ_ _ h=>h) rfl rfl) ?_
 rintro⟨i,o⟩ ⟨hi,ho⟩;dsimp only at *;have hlen:=zY p (L.take i) 0;rw[j1,T6 hi] at hlen;refine d9 (λh1=>?_) λh1=>?_
 ·have hi':i < L.length:=om
  have hd:=hc L[i] (j5 hi');have hcar:=zZ hps (L.take i) 0 (λd hd=>hc d (A7 hd)) hp0;have hsn:=vH p (L.take i) L[i] 0;rw[<-I9 L i hi'] at hsn;generalize hS:U1 p (L.take i) 0=S at *;have hdp:L[i]*p<=(Bs - 1)*(Bs - 1):=P8 om om;obtain⟨q1,q2⟩:=RQ (d:=L[i]) hp.symm hps hcar;refine R2 cQ (e:=247) rfl hs i rfl hi' λb9 o9 cs hcs hR hcell2=>?_;subst hR;refine lQ 0 (hcell2 0 _ rfl) ?_;have e0:iA p (L.take i)++(m6 (L.length - i) 0++[])=S.1++S.2::(m6 (L.length - (i+1)+1) 0++[]):=by
   unfold iA;rw[hS,show L.length - i=L.length - (i+1)+1 by omega];simp
  rw[e0] at ho;have hSc:S.2 < 4294967296:=Nat.lt_trans hcar hpB;have hdB:L[i] < 4294967296:=hd;have hil:i < (S.1++S.2::(m6 (L.length - (i+1)+1) 0++[])).length:=by simp;omega
  have hgi:(S.1++S.2::(m6 (L.length - (i+1)+1) 0++[]))[i]=S.2:=by
   have:=yO S.1 S.2 (m6 (L.length - (i+1)+1) 0++[]) sQ;simpa only[hlen] using this
  refine u6.by_order cQ (.take 0 <| .take 1 <| .take 2 <| .take 3 <| .take 4 <| .take 5 <| .take 6 <| .take 7 <| .take 8 <| .run 9 <| .done) kr ?_;refine aW cQ (e:=247) rfl rfl ho i rfl hil λb3 hb3=>?_;refine tY (g:=λx:Nat=>.int .u32 x) (λ_=>rfl) cQ (i:=1) rfl hb3 ho hil rfl ?_;rw[hgi];refine Bc L[i] k rfl rfl hk ?_;rw[hp];refine Fa S.2 (L[i]*p % 4294967296) rfl rfl hSc (A6 _ dc) ?_;have q1':S.2 ||| L[i]*p % 4294967296=(S.2+L[i]*p) % Bs:=q1
  rw[q1'];refine aW cQ (e:=247) rfl rfl ho i rfl hil λb4 hb4=>?_;refine mG (g:=λx:Nat=>.int .u32 x) (λ_=>rfl) cQ (i:=1) rfl hb4 ho hil rfl rfl ((S.2+L[i]*p) % Bs) rfl rfl rfl λo2 f1 f2 f3 ho2=>?_;have e1:=tI S.1 S.2 ((S.2+L[i]*p) % Bs) (m6 (L.length - (i+1)+1) 0++[]);rw[hlen] at e1;rw[e1] at ho2;refine nwo ?_;refine I8 L[i] rfl om ?_;refine PG L[i] k rfl rfl om ?_;rw[hp];have e2:L[i]*p % 18446744073709551616=L[i]*p:=C7 (by unfold Bs at hdp;omega);rw[e2];refine rF (L[i]*p) 32 rfl rfl dc ?_;refine iM (L[i]*p / 2 ^ 32) rfl ?_;have e3:L[i]*p / 2 ^ 32 % 4294967296=(S.2+L[i]*p) / Bs:=by
   rw[show L[i]*p / 2 ^ 32=(S.2+L[i]*p) / Bs from q2];refine C7 ?_;rw[<-q2];show L[i]*p / Bs < Bs
   rw[K5 dc];unfold Bs at hdp ⊢;omega
  rw[e3];have ho2':w5 fW 247 1 o2 ((S.1++[(S.2+L[i]*p) % Bs])++(m6 (L.length - (i+1)+1) 0++[])):=ho2;have hl2:(S.1++[(S.2+L[i]*p) % Bs]).length=i+1:=by simp[hlen]
  have hil2:i+1 < ((S.1++[(S.2+L[i]*p) % Bs])++(m6 (L.length - (i+1)+1) 0++[])).length:=by rw[d6,hl2];simp
  have ev2:o2.v=o.v:=by unfold Os.v;rw[f1,f2,f3]
  rw[<-ev2];refine aW cQ (e:=247) rfl rfl ho2' (i+1) om hil2 λb5 hb5=>?_;refine mG (g:=λx:Nat=>.int .u32 x) (λ_=>rfl) cQ (i:=1) rfl hb5 ho2' hil2 rfl rfl ((S.2+L[i]*p) / Bs) rfl rfl rfl λo3 g1 g2 g3 ho3=>?_;have e4:=FK (S.1++[(S.2+L[i]*p) % Bs]) 0 ((S.2+L[i]*p) / Bs) (L.length - (i+1)) [];rw[hl2] at e4;rw[e4] at ho3;refine nwo ?_;exact⟨(i+1,o3),⟨om,by unfold iA;rw[hsn];exact ho3⟩,by dsimp only;omega,y6.mk (λ_ _ h=>h) (by dsimp only[Os.v];rw[g1,g2,g3];rfl) rfl⟩
 ·have hi':i=L.length:=om
  subst hi';rw[q8,bX,List.replicate_zero,I4,k8] at ho;exact⟨[.hp o.h],⟨o,rfl,rfl,ho⟩,pk [0,1]⟩
theorem GM {L:List Nat} {a:Option Addr} {n c:Nat} (w:World) (k:Nat) (hs:Sl (E0 fW) 1 (Hp.whole w) a n c L) (hc:O4 L) (hl:L.length < 900000) (hk:k < 32) :
  j2 Tryz.prog 274 #[.slice a n c,iQ k] w (fQ w λv cs=>∃g a' n' c' L',cs = [.hp g]/\v=.slice a' n' c'/\Sl (E0 fW) 1 g a' n' c' L'/\fX L' (q7 L / 2 ^ k)):=by
 have hn:=hs.len;obtain⟨hps,hpB⟩:=vK hk;have hp0:=cC k;generalize hp:2 ^ k=p at *;have hs0:2 ^ (32 - k)=2 ^ (32 - k):=rfl;generalize hsd:2 ^ (32 - k)=sd at hps hs0;refine enterZ (cx 45) [.slice a n c,iQ k] [.tmp 4] Tryz.func274 ?_;refine call (λw' hm=>LC w' (hs.mono (j7 _) (hm 0 _ rfl)) om) ?_;rintro _ _ ⟨o0,rfl,rfl,ho0⟩;have hlo:=AT p sd L;have hon:o0.n=L.length:=ho0.len;refine z6.mk (Nat×Dw.Os) (λg=>[(0,.v (.slice a n c)),(1,.v (iQ k)),(5,.v (g.2.v)),(10,.v (iQ (o0.n:Nat))),(11,.v (iQ g.1))]) (λg=>[.hp (Hp.whole w),.hp g.2.h])
  (λg=>g.1<=L.length/\w5 fW 247 1 g.2 ((fA p sd L).take g.1++L.drop g.1)) (λg=>L.length - g.1) (0,o0) ⟨j0 _,ho0⟩ (y6.mk (λ_ _ h=>h) rfl rfl) ?_
 rintro⟨i,o⟩ ⟨hi,ho⟩;dsimp only at *;refine d9 (λh1=>?_) λh1=>?_
 ·have hi':i < L.length:=om
  have hd:=hc L[i] (j5 hi');have hdB:L[i] < 4294967296:=hd;have htk:((fA p sd L).take i).length=i:=by rw[j1];omega
  rw[q6 hi'] at ho;have hil:i < ((fA p sd L).take i++L[i]::L.drop (i+1)).length:=by simp;omega
  have hgi:((fA p sd L).take i++L[i]::L.drop (i+1))[i]=L[i]:=by
   have:=yO ((fA p sd L).take i) L[i] (L.drop (i+1)) (by rw[htk];exact hil);simpa only[htk] using this
  have hlg:=XA (p:=p) (s:=sd) hi' om;have htk2:=I9 (fA p sd L) i om;rw[hlg] at htk2;refine aW cQ (e:=247) rfl rfl ho i rfl hil λb3 hb3=>?_;refine tY (g:=λx:Nat=>.int .u32 x) (λ_=>rfl) cQ (i:=1) rfl hb3 ho hil rfl ?_;rw[hgi];refine Bb L[i] k rfl rfl hk ?_;rw[hp];refine aW cQ (e:=247) rfl rfl ho i rfl hil λb4 hb4=>?_;refine mG (g:=λx:Nat=>.int .u32 x) (λ_=>rfl) cQ (i:=1) rfl hb4 ho hil rfl rfl (L[i] / p) rfl rfl rfl λo2 f1 f2 f3 ho2=>?_;have e1:=tI ((fA p sd L).take i) L[i] (L[i] / p) (L.drop (i+1));rw[htk] at e1;rw[e1] at ho2;have ev2:o2.v=o.v:=by unfold Os.v;rw[f1,f2,f3]
  refine nwo ?_;refine d9 (λh4=>?_) λh4=>?_
  ·have hi2:i+1 < L.length:=om
   have he:=hc L[i+1] (j5 hi2);have heB:L[i+1] < 4294967296:=he;have hgd:L.getD (i+1) 0=L[i+1]:=by rw[e8,i7 hi2];rfl
   rw[hgd] at htk2;have ho2':w5 fW 247 1 o2 ((fA p sd L).take i++(L[i] / p)::L.drop (i+1)):=by
    have:((fA p sd L).take i++[L[i] / p])++L.drop (i+1)=(fA p sd L).take i++(L[i] / p)::L.drop (i+1):=sQ
    rw[this] at ho2;exact ho2
   have hil2:i < ((fA p sd L).take i++(L[i] / p)::L.drop (i+1)).length:=by simp;omega
   have hgi2:((fA p sd L).take i++(L[i] / p)::L.drop (i+1))[i]=L[i] / p:=by
    have:=yO ((fA p sd L).take i) (L[i] / p) (L.drop (i+1)) (by rw[htk];exact hil2);simpa only[htk] using this
   refine u6.by_order cQ (.take 0 <| .take 1 <| .take 2 <| .take 3 <| .take 4 <| .take 5 <| .take 6 <| .take 7 <| .take 8 <| .take 9 <| .take 10 <| .take 11 <| .take 12 <| .take 13 <| .take 14 <| .take 15 <| .run 16 <| .done) kr ?_;rw[<-ev2];refine aW cQ (e:=247) rfl rfl ho2' i rfl hil2 λb5 hb5=>?_;refine tY (g:=λx:Nat=>.int .u32 x) (λ_=>rfl) cQ (i:=1) rfl hb5 ho2' hil2 rfl ?_;rw[hgi2];refine nwo ?_;refine R2 cQ (e:=247) rfl hs (i+1) om hi2 λb9 o9 cs hcs hR hcell6=>?_;subst hR;refine lQ 0 (hcell6 0 _ rfl) ?_;refine I8 L[i+1] rfl om ?_;refine FX L[i+1] 32 rfl rfl dc ?_;have e2:L[i+1]*2 ^ 32 % 18446744073709551616=L[i+1]*2 ^ 32:=C7 om;rw[e2];refine Ba (L[i+1]*2 ^ 32) k rfl rfl om ?_;rw[hp];have e3:L[i+1]*2 ^ 32 / p=L[i+1]*sd:=by
    rw[show (2:Nat) ^ 32=p*sd from hps.symm,lS,Po _ hp0]
   rw[e3];refine iM (L[i+1]*sd) rfl ?_;have hdp:L[i] / p < 4294967296:=p8 (D0 _ _) hdB;refine Fa (L[i] / p) (L[i+1]*sd % 4294967296) rfl rfl hdp (A6 _ dc) ?_;have e4:(L[i] / p) ||| (L[i+1]*sd % 4294967296)=L[i] / p+L[i+1]*sd % Bs:=RM (k:=32 - k) hsd.symm hps hp0 hd
   rw[e4];refine aW cQ (e:=247) rfl rfl ho2' i rfl hil2 λb6 hb6=>?_;refine mG (g:=λx:Nat=>.int .u32 x) (λ_=>rfl) cQ (i:=1) rfl hb6 ho2' hil2 rfl rfl (L[i] / p+L[i+1]*sd % Bs) rfl rfl rfl λo3 g1 g2 g3 ho3=>?_;have e5:=tI ((fA p sd L).take i) (L[i] / p) (L[i] / p+L[i+1]*sd % Bs) (L.drop (i+1));rw[htk] at e5;rw[e5,<-htk2] at ho3;refine nwo ?_;exact⟨(i+1,o3),⟨om,ho3⟩,by dsimp only;omega,y6.mk (λ_ _ h=>h) (by dsimp only[Os.v];rw[g1,g2,g3];rfl) rfl⟩
  ·have hgd:L.getD (i+1) 0=0:=by rw[e8,cT om];rfl
   simp only[hgd,bV,Nat.zero_mod,E7] at htk2;rw[<-htk2] at ho2;refine nwo ?_;exact⟨(i+1,o2),⟨om,ho2⟩,by dsimp only;omega,y6.mk (λ_ _ h=>h) (by dsimp only[Os.v];rw[f1,f2,f3];rfl) rfl⟩
 ·have hi':i=L.length:=om
  subst hi';rw[o6 om,oW,k8] at ho;have ho3:=w5.sl (f:=fW) (sz:=1) (λ_=>rfl) dc ho;have hlim:=JR hps hp0 hc;refine k7 _ (λw' hm=>aT w' (ho3.mono (j7 _) (hm 1 _ rfl)) om) ?_;have hcan:=U7 hlim;rw[JQ hps hp0 L hc] at hcan;exact⟨[.hp o.h],⟨_,_,_,_,_,rfl,rfl,iX ho3,hcan⟩,pk [0,1]⟩
end Go.Proofs.YtpjhmeicbjkcdaaGreatDoor
namespace Go.Dw
open Go Go.RowKit
theorem dC {X:Q2} {s:List Ch} (hX:X.Good) {T e:Nat} {te:TI} (hT:bQ X T=some (e,te)) (h1:te.size=1) {b off n c:Nat} {x:Int} (k j:Nat) (hx:x=k) (hk:k < n) (hj:off+k=j) {q:TV->Prop} (hq:q (.v (.pointer (some ⟨b,0+j,none⟩)))) :
  C9 X.P s (Instr.indexAt T (.slice (some ⟨b,off,none⟩) n c) (iQ x)) q:=by
 subst hx;refine⟨_,λw _=>nG hX hT hk w,?_⟩;rw[h1,D7,hj,<-w7 j];exact hq
end Go.Dw
namespace Go.Proofs.YtpjhmeicbjkcdaaGreatDoor
open Go Go.RowKit Go.Dw
theorem jK {α:Type} {L a b:List α} {x:α} {k:Nat} (hL:L=a++x::b) (hk:k=a.length) (h:k < L.length):L[k]=x:=by
 subst hL hk;exact yO a x b h
theorem FL {α:Type} {L a b:List α} {y:α} {k:Nat} (hL:L=a++y::b) (hk:k=a.length) (x:α):L.set k x=a++x::b:=by
 subst hL hk;rw[tI];simp
theorem zH (ul:List Nat) (u2 u1:Nat):q7 (ul++[u2,u1])=q7 ul+Bs ^ ul.length*(u2+Bs*u1):=by
 rw[W8];simp[q7]
theorem EK {ul vl:List Nat} {u2 u1 tt v2 v1 q r:Nat} (hl:ul.length=vl.length) (hlu:O4 (ul++[u2,u1])) (hlv:O4 (vl++[v2,v1])) (h0:v1≠0)
  (hw:q7 (ul++[u2,u1])+Bs ^ (ul++[u2,u1]).length*tt < Bs*q7 (vl++[v2,v1])) :
  tt<=v1/\(CV tt u1 u2 v1 v2 q r->¬ (r < Bs/\(Bs<=q\/r*Bs+u2 < q*v2))->q < Bs/\q*q7 (vl++[v2,v1]) < q7 (ul++[u2,u1])+Bs ^ (ul++[u2,u1]).length*tt+q7 (vl++[v2,v1])/\q7 (ul++[u2,u1])+Bs ^ (ul++[u2,u1]).length*tt < (q+1)*q7 (vl++[v2,v1])):=by
 have h1:u1 < Bs:=hlu u1 sQ;have h2:u2 < Bs:=hlu u2 sQ;have h3:v2 < Bs:=hlv v2 sQ;have hP:0 < Bs ^ vl.length:=qN dc;have hul:=bF (m:=ul) λd hd=>hlu d (by simp[hd]);have hvl:=bF (m:=vl) λd hd=>hlv d (by simp[hd]);have hlen:(ul++[u2,u1]).length=vl.length+2:=by simp[hl]
 rw[hlen] at hw ⊢;have eU:q7 (ul++[u2,u1])+Bs ^ (vl.length+2)*tt=((tt*Bs+u1)*Bs+u2)*Bs ^ vl.length+q7 ul:=by
  rw[zH,hl,jR];generalize Bs ^ vl.length=P;show q7 ul+P*(u2+Bs*u1)+P*(Bs*Bs)*tt=_
  rw[D2,D2,D2,B7];have e1:P*(Bs*Bs)*tt=tt*Bs*Bs*P:=by rw[m8 _ tt,m8 P,A0 tt Bs Bs,A0 tt]
  have e2:P*(Bs*u1)=u1*Bs*P:=by rw[m8 P,m8 Bs u1]
  have e3:P*u2=u2*P:=m8 _ _;omega
 have eV:q7 (vl++[v2,v1])=(v1*Bs+v2)*Bs ^ vl.length+q7 vl:=by
  rw[zH];generalize Bs ^ vl.length=P;rw[D2,B7];have e2:P*(Bs*v1)=v1*Bs*P:=by rw[m8 P,m8 Bs v1]
  have e3:P*v2=v2*P:=m8 _ _;omega
 rw[hl] at hul;have hle:tt<=v1:=by
  refine j3 λhn=>?_;have hn:v1+1<=tt:=om
  rw[eU,eV] at hw;have g1:(v1+1)*(Bs*Bs*Bs ^ vl.length)<=tt*(Bs*Bs*Bs ^ vl.length):=y9 _ hn;have g2:(tt*Bs*Bs)*Bs ^ vl.length<=((tt*Bs+u1)*Bs+u2)*Bs ^ vl.length:=y9 _ (by rw[D2];omega);have g3:tt*(Bs*Bs*Bs ^ vl.length)=(tt*Bs*Bs)*Bs ^ vl.length:=by rw[<-A0,<-A0]
  have g4:(v1*Bs+v2+1)*Bs ^ vl.length<=((v1+1)*Bs)*Bs ^ vl.length:=y9 _ (by rw[D2 v1 1 Bs];omega);have g5:Bs*(((v1+1)*Bs)*Bs ^ vl.length)=(v1+1)*(Bs*Bs*Bs ^ vl.length):=by
   rw[A0 (v1+1) Bs,lS Bs (v1+1),A0 Bs Bs]
  have g6:Bs*((v1*Bs+v2)*Bs ^ vl.length+q7 vl)<=Bs*(((v1+1)*Bs)*Bs ^ vl.length):=by
   refine x7 _ ?_;rw[D2 _ 1 (Bs ^ vl.length),O8] at g4;omega
  omega
 refine⟨hle,λhq hc=>?_⟩;obtain⟨k1,k2⟩:=hq.done h1 h3 hle hc;refine⟨k1,?_⟩;have hV1:Bs*Bs ^ vl.length<=q7 (vl++[v2,v1]):=by
  rw[eV];have:1*Bs*Bs ^ vl.length<=(v1*Bs+v2)*Bs ^ vl.length:=y9 _ (by
   have:1*Bs<=v1*Bs:=y9 _ om;omega)
  rw[O8] at this;omega
 exact Kf eU hul eV hvl k2 k1 hq.m hw hV1
set_option maxRecDepth 10000 in
theorem NV {A B ul vl:List Nat} {u2 u1 tt v2 v1:Nat} {b N C cu:Nat} {h:Hp} {av:Option Addr} {nv cv:Nat} (w:World) (hin:h.In w) (ho:w5 fW 247 1 ⟨some ⟨b,0,none⟩,N,C,h⟩ (A++(ul++[u2,u1]++tt::B)))
  (hv:Sl (E0 fW) 1 ((Hp.whole w).minus h) av nv cv (vl++[v2,v1])) (hl:ul.length=vl.length) (hlu:O4 (ul++[u2,u1])) (htt:tt < Bs) (hlv:O4 (vl++[v2,v1])) (h0:v1≠0) (hN:(A++(ul++[u2,u1]++tt::B)).length < 1000000)
  (hw:q7 (ul++[u2,u1])+Bs ^ (ul++[u2,u1]).length*tt < Bs*q7 (vl++[v2,v1])) :
  j2 Tryz.prog 273 #[.slice (some ⟨b,A.length,none⟩) (nv+1) cu,.slice av nv cv] w (O3 w h λv h' cs=>cs = []/\∃(q:Nat) (w':List Nat),v=.int .u32 (q:Nat)/\q < Bs/\w5 fW 247 1 ⟨some ⟨b,0,none⟩,N,C,h'⟩ (A++(w'++B))/\
   w'.length=nv+1/\O4 w'/\q7 w'+q*q7 (vl++[v2,v1])=q7 (ul++[u2,u1])+Bs ^ (ul++[u2,u1]).length*tt/\q7 w' < q7 (vl++[v2,v1])):=by
 have hnv:nv=vl.length+2:=by have:=hv.len;simpa using this
 have b1:u1 < 4294967296:=hlu u1 sQ;have b2:u2 < 4294967296:=hlu u2 sQ;have b3:v2 < 4294967296:=hlv v2 sQ;have b4:v1 < 4294967296:=hlv v1 sQ;have b5:tt < 4294967296:=htt;obtain⟨hle,hnum⟩:=EK (q:=0) (r:=0) hl hlu hlv h0 hw;have hnum :∀{q r:Nat},_:=λ{q r}=>(EK (q:=q) (r:=r) hl hlu hlv h0 hw).2;have hlen:(A++(ul++[u2,u1]++tt::B)).length=A.length+(vl.length+2+(B.length+1)):=by simp[hl];omega
 have hvlen:(vl++[v2,v1]).length=vl.length+2:=sQ
 have lT:A++(ul++[u2,u1]++tt::B)=(A++(ul++[u2,u1]))++tt::B:=sQ
 have l1:A++(ul++[u2,u1]++tt::B)=(A++(ul++[u2]))++u1::(tt::B):=sQ
 have l2:A++(ul++[u2,u1]++tt::B)=(A++ul)++u2::(u1::tt::B):=sQ
 have m1:vl++[v2,v1]=(vl++[v2])++v1::[]:=sQ
 have m2:vl++[v2,v1]=vl++v2::[v1]:=sQ
 have hkT:A.length+nv < (A++(ul++[u2,u1]++tt::B)).length:=om
 have hk1:A.length+(vl.length+1) < (A++(ul++[u2,u1]++tt::B)).length:=om
 have hk2:A.length+vl.length < (A++(ul++[u2,u1]++tt::B)).length:=om
 have gT:=jK lT (k:=A.length+nv) (by simp;omega) hkT;have g1:=jK l1 (k:=A.length+(vl.length+1)) (by simp;omega) hk1;have g2:=jK l2 (k:=A.length+vl.length) (by simp;omega) hk2;have gv1:=jK m1 (k:=vl.length+1) sQ om;have gv2:=jK m2 (k:=vl.length) rfl om;refine enterMZ (cx 173) [.slice (some ⟨b,A.length,none⟩) (nv+1) cu,.slice av nv cv] hin [.tmp 4] Tryz.func273 ?_;refine u6.by_order cQ (.take 0 <| .take 1 <| .take 2 <| .take 3 <| .take 4 <| .take 5 <| .take 6 <| .take 7 <| .take 8 <| .take 9 <| .take 10 <| .take 11 <| .take 12 <| .take 13 <| .done) kr ?_;refine dC cQ (e:=247) rfl rfl nv (A.length+nv) rfl om rfl ?_;refine tY (o:=⟨some ⟨b,0,none⟩,N,C,h⟩) (g:=λx:Nat=>.int .u32 x) (λ_=>rfl) cQ (i:=1) rfl rfl ho hkT rfl ?_;rw[gT];refine I8 tt rfl om ?_;refine FX tt 32 rfl rfl dc ?_;have e1:tt*2 ^ 32 % 18446744073709551616=2 ^ 32*tt:=by
  rw[m8];exact C7 om
 rw[e1];refine nwo ?_;refine dC cQ (e:=247) rfl rfl (vl.length+1) (A.length+(vl.length+1)) om om rfl ?_;refine tY (o:=⟨some ⟨b,0,none⟩,N,C,h⟩) (g:=λx:Nat=>.int .u32 x) (λ_=>rfl) cQ (i:=1) rfl rfl ho hk1 rfl ?_;rw[g1];refine I8 u1 rfl om ?_;refine PI (2 ^ 32*tt) u1 rfl rfl om om ?_;rw[GB (k:=32) rfl b1];have e2:2 ^ 32*tt+u1=tt*Bs+u1:=by rw[m8];rfl
 rw[e2];have hH:tt*Bs+u1 < 18446744073709551616:=by unfold Bs;omega
 refine u6.by_order cQ (.take 0 <| .take 1 <| .take 2 <| .take 3 <| .take 4 <| .take 5 <| .take 6 <| .take 7 <| .take 8 <| .take 9 <| .take 10 <| .take 11 <| .take 12 <| .take 13 <| .take 14 <| .take 15 <| .take 16 <| .take 17 <| .done) kr ?_;refine nwo ?_;refine R2 cQ (e:=247) rfl hv (vl.length+1) om om λb9 o9 cs hcs hR hcell3=>?_;rw[gv1] at hR;subst hR;refine lQ 0 (hcell3 0 _ rfl) ?_;refine I8 v1 rfl om ?_;refine WE (tt*Bs+u1) v1 rfl rfl om hH ?_;refine nwo ?_;refine R2 cQ (e:=247) rfl hv (vl.length+1) om om λb9 o9 cs hcs hR hcell4=>?_;rw[gv1] at hR;subst hR;refine lQ 0 (hcell4 0 _ rfl) ?_;refine I8 v1 rfl om ?_;refine WD (tt*Bs+u1) v1 rfl rfl om hH ?_;refine z6.mk (Nat×Nat×Int×Int) (λg=>[(0,.v (.slice (some ⟨b,A.length,none⟩) (nv+1) cu)),(1,.v (.slice av nv cv)),(5,.v (iQ nv)),(7,.v (.int .u64 g.2.2.1)),(8,.v (.int .u64 g.2.2.2))]) (λ_=>[.hp ((Hp.whole w).minus h),.hp h])
  (λg=>g.2.2.1=g.1/\g.2.2.2=g.2.1/\g.1 < 18446744073709551616/\g.2.1 < 8589934592/\CV tt u1 u2 v1 v2 g.1 g.2.1) (λg=>g.1) ((tt*Bs+u1) / v1,(tt*Bs+u1) % v1,_,_) ⟨rfl,rfl,p8 (D0 _ _) hH,by have:=A6 (tt*Bs+u1) (E4 h0);dsimp only;omega,CV.start (E4 h0) b2⟩ (y6.mk (λ_ _ h=>h) rfl rfl) ?_
 rintro⟨q,r,zq,zr⟩ ⟨hzq,hzr,hq1,hr1,hQ⟩;dsimp only at *;refine u6.cut Bool (λg=>[(0,.v (.slice (some ⟨b,A.length,none⟩) (nv+1) cu)),(1,.v (.slice av nv cv)),(5,.v (iQ nv)),(7,.v (.int .u64 zq)),(8,.v (.int .u64 zr)),(73,.v (.bool g))]) (λ_=>[.hp ((Hp.whole w).minus h),.hp h])
  (λg=>g=true↔(r < Bs/\(Bs<=q\/r*Bs+u2 < q*v2))) (u6.by_order cQ (.take 0 <| .take 1 <| .take 2 <| .take 3 <| .take 4 <| .take 5 <| .take 6 <| .take 7 <| .take 8 <| .take 9 <| .take 10 <| .take 11 <| .take 12 <| .take 13 <| .take 14 <| .take 15 <| .take 16 <| .take 17 <| .take 18 <| .take 19 <| .take 20 <| .take 21 <| .take 22 <| .take 23 <| .take 24 <| .take 25 <| .done) kr ?_) ?_
 ·refine d9 (λh5=>?_) λh5=>?_
  ·refine d9 (λh6=>?_) λh6=>?_
   ·exact⟨true,⟨λ_=>⟨by unfold Bs;omega,.inl (by unfold Bs;omega)⟩,λ_=>rfl⟩,y6.mk (λ_ _ h=>h) rfl rfl⟩
   ·have hqB:q < 4294967296:=om
    have hqv:q*v2<=4294967295*4294967295:=P8 om om;refine nwo ?_;refine R2 cQ (e:=247) rfl hv vl.length om om λb9 o9 cs hcs hR hcell7=>?_;rw[gv2] at hR;subst hR;refine lQ 0 (hcell7 0 _ rfl) ?_;refine I8 v2 rfl om ?_;refine I8 (q*v2) (by rw[hzq];simp) om ?_;refine FX r 32 hzr rfl dc ?_;have e3:r*2 ^ 32 % 18446744073709551616=2 ^ 32*r:=by
     rw[m8];exact C7 om
    rw[e3];refine nwo ?_;refine dC cQ (e:=247) rfl rfl vl.length (A.length+vl.length) om om rfl ?_;refine tY (o:=⟨some ⟨b,0,none⟩,N,C,h⟩) (g:=λx:Nat=>.int .u32 x) (λ_=>rfl) cQ (i:=1) rfl rfl ho hk2 rfl ?_;rw[g2];refine I8 u2 rfl om ?_;refine PI (2 ^ 32*r) u2 rfl rfl om om ?_;rw[GB (k:=32) rfl b2];have e4:2 ^ 32*r+u2=r*Bs+u2:=by rw[m8];rfl
    rw[e4];refine⟨decide (((q*v2:Nat):Int) > ((r*Bs+u2:Nat):Int)),?_,y6.mk (λ_ _ h=>h) rfl rfl⟩;rw[decide_eq_true_eq];constructor
    ·intro g;exact⟨by unfold Bs;omega,.inr om⟩
    ·rintro⟨_,g | g⟩
     ·unfold Bs at g;omega
     ·omega
  ·exact⟨false,⟨nofun,by rintro⟨g,_⟩;unfold Bs at g;omega⟩,y6.mk (λ_ _ h=>h) rfl rfl⟩
 rintro g hg hsat;dsimp only;refine v7 (λh9=>?_) λh9=>?_
 ·have h9:=hg.1 h9;obtain⟨hq0,hQ2⟩:=hQ.step h9.2;have hrB:r < 4294967296:=h9.1;refine I8 (q - 1) om om ?_;refine nwo ?_;refine R2 cQ (e:=247) rfl hv (vl.length+1) om om λb9 o9 cs hcs hR hcell10=>?_;rw[gv1] at hR;subst hR;refine lQ 0 (hcell10 0 _ rfl) ?_;refine I8 v1 rfl om ?_;refine I8 (r+v1) (by rw[hzr];simp) om ?_;exact⟨(q - 1,r+v1,_,_),⟨rfl,rfl,by dsimp only;omega,by dsimp only;omega,hQ2⟩,by dsimp only;omega,y6.mk (λ_ _ h=>h) rfl rfl⟩
 ·have h9 : ¬ (r < Bs/\(Bs<=q\/r*Bs+u2 < q*v2)):=λc=>by rw[hg.2 c] at h9;cases h9
  obtain⟨hqB,k1,k2⟩:=hnum hQ h9;clear hnum hQ hq1 hg hsat h9 gT g1 g2 gv1 gv2 lT l1 l2 m1 m2 hkT hk1 hk2;have hqB':q < 4294967296:=hqB;generalize hus:ul++[u2,u1]=us at *;generalize hV:vl++[v2,v1]=V at *;have husl:us.length=nv:=by rw[<-hus];simp;omega
  have hVl:V.length=nv:=om
  have hfit:=TO (t:=tt) (by omega:us.length=V.length) hlu hlv hqB k1 k2;refine z6.mk (Nat×Hp) (λg=>[(0,.v (.slice (some ⟨b,A.length,none⟩) (nv+1) cu)),(1,.v (.slice av nv cv)),(5,.v (iQ nv)),(7,.v (.int .u64 zq)),(9,.v (.int .u64 ((bM q (us.take g.1) (V.take g.1) 0 0).2.1:Nat))),(10,.v (iQ ((bM q (us.take g.1) (V.take g.1) 0 0).2.2:Nat))),(84,.v (.slice av nv cv)),(85,.v (iQ nv)),(86,.v (iQ g.1))]) (λg=>[.hp ((Hp.whole w).minus h),.hp g.2])
   (λg=>g.1<=nv/\w5 fW 247 1 ⟨some ⟨b,0,none⟩,N,C,g.2⟩ (A++((bM q (us.take g.1) (V.take g.1) 0 0).1++(us.drop g.1++tt::B)))) (λg=>nv - g.1) (0,h) ⟨j0 _,by simpa [bM] using ho⟩ (y6.mk (λ_ _ h=>h) rfl rfl) ?_
  rintro⟨k,hh⟩ ⟨hk,hoh⟩;dsimp only at *;have htl:(us.take k).length=(V.take k).length:=by rw[j1,j1];omega
  have hSl:=JM q (us.take k) (V.take k) 0 0 htl;rw[j1,show min k us.length=k by omega] at hSl;have hSv:=AP hqB (us.take k) (V.take k) 0 0 htl (λd hd=>hlu d (A7 hd)) (λd hd=>hlv d (A7 hd)) dc dc;refine d9 (λh11=>?_) λh11=>?_
  ·have hku:k < us.length:=om
   have hkv:k < V.length:=om
   have hdv:V[k] < 4294967296:=hlv V[k] (j5 hkv);have hdu:us[k] < 4294967296:=hlu us[k] (j5 hku);have hsn:=DY q (us.take k) (V.take k) us[k] V[k] 0 0 htl;rw[<-I9 us k hku,<-I9 V k hkv] at hsn;generalize hS:bM q (us.take k) (V.take k) 0 0=S at *;obtain⟨D,c,bw⟩:=S;dsimp only at *;have hcB:c < 4294967296:=hSv.2.2.2.1;have hbw:bw<=1:=hSv.2.2.2.2;have hqv:q*V[k]<=4294967295*4294967295:=P8 om om;refine R2 cQ (e:=247) rfl hv k rfl om λb9 o9 cs hcs hR hcell12=>?_;subst hR;refine lQ 0 (hcell12 0 _ rfl) ?_;refine I8 V[k] rfl om ?_;refine I8 (q*V[k]) (by rw[hzq];simp) om ?_;refine I8 (c+q*V[k]) sQ om ?_;have lk:A++(D++(us.drop k++tt::B))=(A++D)++us[k]::(us.drop (k+1)++tt::B):=by
    rw[q6 hku];simp only[f8,CZ]
   have hkl:A.length+k < (A++(D++(us.drop k++tt::B))).length:=by rw[lk];simp;omega
   have gk:=jK lk (k:=A.length+k) (by simp;omega) hkl;refine dC cQ (e:=247) rfl rfl k (A.length+k) rfl om rfl ?_;refine tY (o:=⟨some ⟨b,0,none⟩,N,C,hh⟩) (g:=λx:Nat=>.int .u32 x) (λ_=>rfl) cQ (i:=1) rfl rfl hoh hkl rfl ?_;rw[gk];refine nwo ?_;refine nwo ?_;refine iM (c+q*V[k]) rfl ?_;have hx:=A6 (c+q*V[k]) (show 4294967296 > 0 by decide);generalize hX:(c+q*V[k]) % 4294967296=x at *;refine nwo ?_;refine nwo ?_;refine rF (c+q*V[k]) 32 rfl rfl dc ?_;refine tZ (y:=(((us[k]+2*Bs - bw - x) % Bs:Nat):Int)) (by unfold Bs;omega) ?_;refine dC cQ (e:=247) rfl rfl k (A.length+k) rfl om rfl ?_;refine mG (o:=⟨some ⟨b,0,none⟩,N,C,hh⟩) (g:=λx:Nat=>.int .u32 x) (λ_=>rfl) cQ (i:=1) rfl rfl hoh hkl rfl rfl ((us[k]+2*Bs - bw - x) % Bs) rfl rfl rfl λo2 f1 f2 f3 ho2=>?_;obtain⟨ja,jn,jc,h2⟩:=o2;simp only at f1 f2 f3;subst ja jn jc;rw[FL lk (by simp;omega)] at ho2;have hX':(c+q*V[k]) % Bs=x:=hX;rw[hX'] at hsn;have el:(A++D)++((us[k]+2*Bs - bw - x) % Bs)::(us.drop (k+1)++tt::B)=A++((D++[(us[k]+2*Bs - bw - x) % Bs])++(us.drop (k+1)++tt::B)):=sQ
   rw[el] at ho2;refine d9 (λh15=>?_) λh15=>?_;focus
    refine nwo ?_;rw[if_pos om] at hsn
   rotate_left
   focus
    refine nwo ?_;rw[if_neg om] at hsn
   all_goals
    exact⟨(k+1,h2),⟨by dsimp only;omega,by dsimp only;rw[hsn];exact ho2⟩,by dsimp only;omega,y6.mk (λ_ _ h=>h) (by dsimp only;rw[hsn];rfl) rfl⟩
  ·have hkn:k=nv:=om
   subst hkn;rw[o6 om,o6 om] at hSl hSv hoh ⊢;rw[bZ om,I4] at hoh;generalize hS:bM q us V 0 0=S at *;obtain⟨D,c,bw⟩:=S;dsimp only at *;have hcB:c < 4294967296:=hSv.2.2.2.1;have hbw:bw<=1:=hSv.2.2.2.2;have lk:A++(D++tt::B)=(A++D)++tt::B:=sQ
   have hkl:A.length+k < (A++(D++tt::B)).length:=by rw[lk];simp;omega
   have gk:=jK lk (k:=A.length+k) (by simp;omega) hkl;refine dC cQ (e:=247) rfl rfl k (A.length+k) rfl om rfl ?_;refine tY (o:=⟨some ⟨b,0,none⟩,N,C,hh⟩) (g:=λx:Nat=>.int .u32 x) (λ_=>rfl) cQ (i:=1) rfl rfl hoh hkl rfl ?_;rw[gk];(iterate 4 refine nwo ?_);refine tZ (y:=(((tt+2*Bs - bw - c) % Bs:Nat):Int)) (by unfold Bs;omega) ?_;refine dC cQ (e:=247) rfl rfl k (A.length+k) rfl om rfl ?_;refine mG (o:=⟨some ⟨b,0,none⟩,N,C,hh⟩) (g:=λx:Nat=>.int .u32 x) (λ_=>rfl) cQ (i:=1) rfl rfl hoh hkl rfl rfl ((tt+2*Bs - bw - c) % Bs) rfl rfl rfl λo2 f1 f2 f3 ho2=>?_;obtain⟨ja,jn,jc,h2⟩:=o2;simp only at f1 f2 f3;subst ja jn jc;rw[FL lk (by simp;omega)] at ho2;have hDl:O4 D:=hSv.2.2.1;refine d9 (λh18=>?_) λh18=>?_
   ·refine rH q hzq om ?_;have hle2:c+bw<=tt:=om
    have hf:=hfit.1 hle2;have et:(tt+2*Bs - bw - c) % Bs=tt - (c+bw):=by unfold Bs;omega
    rw[et] at ho2;have ew:q7 (D++[tt - (c+bw)])=q7 D+Bs ^ us.length*(tt - (c+bw)):=by rw[X8,hSl,husl]
    refine⟨h2,[],⟨rfl,q,D++[tt - (c+bw)],rfl,hqB,by rw[f8] at ho2 ⊢;exact ho2,by simp;omega,λd hd=>?_,by rw[ew];exact hf,?_⟩,λw' h=>h⟩
    ·rcases y8.1 hd with g | g
     ·exact hDl d g
     ·rw[v6] at g;unfold Bs;omega
    ·rw[ew];rw[D2,O8] at k2;omega
   ·obtain⟨hq0,ht1,hm1,hm2⟩:=hfit.2 om;have et:(tt+2*Bs - bw - c) % Bs=Bs - 1:=by unfold Bs;omega
    rw[et] at ho2;have hDV:D.length=V.length:=om
    refine z6.mk (Nat×Hp) (λg=>[(0,.v (.slice (some ⟨b,A.length,none⟩) (k+1) cu)),(5,.v (iQ k)),(7,.v (.int .u64 zq)),(9,.v (.int .u64 ((dN (D.take g.1) (V.take g.1) 0).2:Nat))),(137,.v (.slice av k cv)),(138,.v (iQ k)),(139,.v (iQ g.1))]) (λg=>[.hp ((Hp.whole w).minus h),.hp g.2])
     (λg=>g.1<=k/\w5 fW 247 1 ⟨some ⟨b,0,none⟩,N,C,g.2⟩ (A++((dN (D.take g.1) (V.take g.1) 0).1++(D.drop g.1++(Bs - 1)::B)))) (λg=>k - g.1) (0,h2) ⟨j0 _,by rw[f8] at ho2;exact ho2⟩ (y6.mk (λ_ _ h=>h) rfl rfl) ?_
    rintro⟨m,hh3⟩ ⟨hm,hoh3⟩;dsimp only at *;have htl3:(D.take m).length=(V.take m).length:=by rw[j1,j1];omega
    have hMl:=JP (D.take m) (V.take m) 0 htl3;rw[j1,show min m D.length=m by omega] at hMl;have hMv:=AR (D.take m) (V.take m) 0 htl3 (λd hd=>hDl d (A7 hd)) (λd hd=>hlv d (A7 hd)) dc;refine d9 (λh19=>?_) λh19=>?_
    ·have hku:m < D.length:=om
     have hkv:m < V.length:=om
     have hdv:V[m] < 4294967296:=hlv V[m] (j5 hkv);have hdu:D[m] < 4294967296:=hDl D[m] (j5 hku);have hsn:=EA (D.take m) (V.take m) D[m] V[m] 0 htl3;rw[<-I9 D m hku,<-I9 V m hkv] at hsn;generalize hM:dN (D.take m) (V.take m) 0=M at *;obtain⟨E,c3⟩:=M;dsimp only at *;have hc3:c3<=1:=hMv.2.2.2;refine R2 cQ (e:=247) rfl hv m rfl om λb9 o9 cs hcs hR hcell20=>?_;subst hR;refine lQ 0 (hcell20 0 _ rfl) ?_;have lk3:A++(E++(D.drop m++(Bs - 1)::B))=(A++E)++D[m]::(D.drop (m+1)++(Bs - 1)::B):=by
      rw[q6 hku];simp only[f8,CZ]
     have hkl3:A.length+m < (A++(E++(D.drop m++(Bs - 1)::B))).length:=by rw[lk3];simp;omega
     have gk3:=jK lk3 (k:=A.length+m) (by simp;omega) hkl3;refine dC cQ (e:=247) rfl rfl m (A.length+m) rfl om rfl ?_;refine tY (o:=⟨some ⟨b,0,none⟩,N,C,hh3⟩) (g:=λx:Nat=>.int .u32 x) (λ_=>rfl) cQ (i:=1) rfl rfl hoh3 hkl3 rfl ?_;rw[gk3];refine I8 D[m] rfl om ?_;refine I8 V[m] rfl om ?_;refine I8 (D[m]+V[m]) sQ om ?_;refine I8 (c3+D[m]+V[m]) (by simp;omega) om ?_;refine iM (c3+D[m]+V[m]) rfl ?_;refine dC cQ (e:=247) rfl rfl m (A.length+m) rfl om rfl ?_;refine mG (o:=⟨some ⟨b,0,none⟩,N,C,hh3⟩) (g:=λx:Nat=>.int .u32 x) (λ_=>rfl) cQ (i:=1) rfl rfl hoh3 hkl3 rfl rfl ((c3+D[m]+V[m]) % Bs) rfl rfl rfl λo2 f1 f2 f3 ho2=>?_;obtain⟨ja,jn,jc,h3⟩:=o2;simp only at f1 f2 f3;subst ja jn jc;rw[FL lk3 (by simp;omega)] at ho2;refine rF (c3+D[m]+V[m]) 32 rfl rfl dc ?_;refine nwo ?_;have el:(A++E)++((c3+D[m]+V[m]) % Bs)::(D.drop (m+1)++(Bs - 1)::B)=A++((E++[(c3+D[m]+V[m]) % Bs])++(D.drop (m+1)++(Bs - 1)::B)):=sQ
     rw[el] at ho2;exact⟨(m+1,h3),⟨by dsimp only;omega,by dsimp only;rw[hsn];exact ho2⟩,by dsimp only;omega,y6.mk (λ_ _ h=>h) (by dsimp only;rw[hsn];rfl) rfl⟩
    ·have hmn:m=k:=om
     subst hmn;rw[o6 om,o6 om] at hMl hMv hoh3 ⊢;rw[bZ om,I4] at hoh3;generalize hM:dN D V 0=M at *;obtain⟨E,c3⟩:=M;dsimp only at *;subst hm1;have lk3:A++(E++(Bs - 1)::B)=(A++E)++(Bs - 1)::B:=sQ
     have hkl3:A.length+m < (A++(E++(Bs - 1)::B)).length:=by rw[lk3];simp;omega
     have gk3:=jK lk3 (k:=A.length+m) (by simp;omega) hkl3;refine dC cQ (e:=247) rfl rfl m (A.length+m) rfl om rfl ?_;refine tY (o:=⟨some ⟨b,0,none⟩,N,C,hh3⟩) (g:=λx:Nat=>.int .u32 x) (λ_=>rfl) cQ (i:=1) rfl rfl hoh3 hkl3 rfl ?_;rw[gk3];refine rH 1 rfl dc ?_;refine tZ (y:=((0:Nat):Int)) dc ?_;refine dC cQ (e:=247) rfl rfl m (A.length+m) rfl om rfl ?_;refine mG (o:=⟨some ⟨b,0,none⟩,N,C,hh3⟩) (g:=λx:Nat=>.int .u32 x) (λ_=>rfl) cQ (i:=1) rfl rfl hoh3 hkl3 rfl rfl 0 rfl rfl rfl λo2 f1 f2 f3 ho2=>?_;obtain⟨ja,jn,jc,h3⟩:=o2;simp only at f1 f2 f3;subst ja jn jc;rw[FL lk3 (by simp;omega)] at ho2;refine I8 (q - 1) om om ?_;refine rH (q - 1) rfl om ?_;have ew:q7 (E++[0])=q7 E:=by rw[X8];simp
     refine⟨h3,[],⟨rfl,q - 1,E++[0],rfl,om,by rw[f8] at ho2 ⊢;exact ho2,by simp;omega,λd hd=>?_,by rw[ew];exact hm2,?_⟩,λw' h=>h⟩
     ·rcases y8.1 hd with g | g
      ·exact hMv.2.2.1 d g
      ·rw[v6] at g;rw[g];decide
     ·rw[ew];have hD1:=bF hDl;rw[hSl] at hD1;have hS1:=hSv.1;rw[<-ht1,B7,D7,husl] at hS1;rw[husl] at hm2;clear hSv hMv ho2 hoh hoh3 lk lk3 gk gk3 hkl hkl3;obtain⟨p,rfl⟩ :∃p,q=p+1:=⟨q - 1,om⟩
      rw[D2,O8] at hS1;rw[wC] at hm2;omega
end Go.Proofs.YtpjhmeicbjkcdaaGreatDoor
namespace Go.Dw
open Go Go.RowKit
theorem Hp.le_left (h k:Hp):h.le (h.join k):=λx o e=>by unfold Hp.join;rw[e]
theorem HG.leR {s:List Ch} (h:HG s) (i j:Nat) {c d:Ch} (hi:l7 s i=some c) (hj:l7 s j=some d):d.h.le (c.h.join d.h):=
 let ⟨_,_,hok⟩:=h;Hp.le_join_in (hok.mem i c hi) (hok.mem j d hj)
theorem k6 {P:Program} {s:List Ch} {f:Nat} {args:List Value} {q:TV->List Ch->Prop} {i:Nat} {h:Hp} (hi:l7 s i=some (.hp h)) {R:Value->Hp->List Ch->Prop}
  (hc :∀w0 w,Ok w0 s w->j2 P f args.toArray w (O3 w h R)) (k :∀v h' cs,R v h' cs->q (.v v) (w8 s i (.hp h')++cs)):P4 P s f args q:=by
 refine⟨λw0 w hok=>⟨(hc w0 w hok).1,(hc w0 w hok).2.mono λe w' he=>?_⟩⟩;obtain⟨v,h',cs,rfl,h1,h2⟩:=he;exact⟨v,_,rfl,hok.callM hi h1,(I5.set hi (λb cs T e=>by cases e)).trans (I5.app _ cs),k v h' cs h2⟩
theorem Pd {X:Q2} {s:List Ch} (hX:X.Good) {T e:Nat} {te:TI} (hT:bQ X T=some (e,te)) (h1:te.size=1) {b n c:Nat} (l m:Nat) {k1 k2:IntKind} {x y:Int} (hx:x=l) (hy:y=m) (hlm:l < m) (hmc:m<=c) {q:TV->Prop}
  (hq:q (.v (.slice (some ⟨b,l,none⟩) (m - l) (c - l)))):C9 X.P s (Instr.sliceAt T (.slice (some ⟨b,0,none⟩) n c) (some (.int k1 x)) (some (.int k2 y)) none) q:=by
 refine Lo hX hT l m (.inr ⟨_,_,rfl,hx⟩) (.inr ⟨_,_,rfl,hy⟩) om hmc ?_;rw[if_neg om,h1];have e:(some (⟨b,0,none⟩:Addr)).map (·.add (l*1))=some ⟨b,l,none⟩:=by simp[Addr.add_mk]
 rw[e];exact hq
theorem w5.addr {α:Type} {f:α->List Value} {T sz:Nat} {o:Os} {L:List α} (h:w5 f T sz o L) (h0:0 < L.length) :∃b,o.a=some ⟨b,0,none⟩:=by
 rcases h.2.2 with ⟨g,_⟩ | ⟨b,arr,g,_⟩
 ·have:=h.len;omega
 ·exact⟨b,g⟩
end Go.Dw
namespace Go.Proofs.YtpjhmeicbjkcdaaGreatDoor
open Go Go.RowKit Go.Dw
theorem fX.le_len {a b:List Nat} {x y:Nat} (ha:fX a x) (hb:fX b y) (h:x<=y):a.length<=b.length:=by
 refine j3 λg=>?_;have:=hb.shorter ha om;omega
def cA (h:Hp) (v:Value) (m:Nat):Prop:=∃a n c L,v=.slice a n c/\Sl (E0 fW) 1 h a n c L/\fX L m/\L.length<=800000
theorem cA.mono {h k:Hp} {v:Value} {m:Nat} (hl:h.le k):cA h v m->cA k v m
 | ⟨a,n,c,L,h1,h2,h3,h4⟩=>⟨a,n,c,L,h1,h2.mono (j7 _) hl,h3,h4⟩
theorem AU {L:List Nat} (h:2<=L.length) :∃l v2 v1,L=l++[v2,v1]/\l.length+2=L.length/\L.getD (L.length - 1) 0=v1:=by
 obtain⟨a,p,e,hl,hp⟩:=tG (m:=L) om;obtain⟨a2,p2,e2,hl2,_⟩:=tG (m:=a) om;exact⟨a2,p2,p,by rw[e,e2];simp,om,hp⟩
theorem VO {x y p la lb:Nat} (hx:x < Bs ^ la) (hy:Bs ^ (lb - 1)<=y) (h1:0 < lb) (h2:lb<=la) (hp:0 < p) {A D:Nat} (e:x*p=A+Bs ^ (la - lb+1)*D):D < y*p:=by
 refine j3 λhn=>?_;have hn:y*p<=D:=om
 have g1:Bs ^ (lb - 1)*p<=y*p:=y9 _ hy;have g2:Bs ^ (la - lb+1)*(Bs ^ (lb - 1)*p)<=Bs ^ (la - lb+1)*D:=x7 _ om;rw[<-A0,<-jR,show la - lb+1+(lb - 1)=la by omega] at g2;have g3:x*p < Bs ^ la*p:=Lw hx hp;omega
theorem LY {u:List Nat} {k nv V:Nat} (hk:k+nv < u.length) (hr:q7 (u.drop (k+1)) < V) (hV:V<=Bs ^ nv):q7 (u.drop (k+nv+1))=0/\q7 (u.drop k)=q7 ((u.drop k).take nv)+Bs ^ nv*u[k+nv]:=by
 have e1:=nA (u.drop (k+1)) nv;rw[J7,show k+1+nv=k+nv+1 by omega,show ((u.drop (k+1)).take nv).length=nv by rw[j1,j9];omega] at e1;have z:q7 (u.drop (k+nv+1))=0:=by
  refine j3 λhn=>?_;have:Bs ^ nv*1<=Bs ^ nv*q7 (u.drop (k+nv+1)):=x7 _ om;omega
 refine⟨z,?_⟩;have e2:=nA (u.drop k) nv;rw[J7,show ((u.drop k).take nv).length=nv by rw[j1,j9];omega,q6 (show k+nv < u.length from hk)] at e2;rw[e2];show _+Bs ^ nv*(u[k+nv]+Bs*q7 (u.drop (k+nv+1)))=_
 rw[z];simp
theorem LZ {u:List Nat} {k nv:Nat} (hk:k+nv < u.length):u=u.take k++((u.drop k).take nv++u[k+nv]::u.drop (k+nv+1)):=by
 rw[<-q6 hk];have:u.drop (k+nv)=(u.drop k).drop nv:=by rw[J7]
 rw[this,F8,F8]
theorem TM {La Lb:List Nat} {x y p m:Nat} (ca:fX La x) (cb:fX Lb y) (hb0:0 < Lb.length) (hll:Lb.length<=La.length) (hp0:0 < p) (hpB:p < Bs) (hm:m=La.length - Lb.length+1) {z:Int} (hz:z+1=m) {Lq:List Nat} (hq:Lq.length<=m) :
  DA (x*p) (y*p) Lb.length (iA p La) (z+1).toNat (q7 (Lq.drop (z+1).toNat)):=by
 have hra:=AE hpB ca.l;rw[ca.v] at hra;rw[hz,show ((m:Nat):Int).toNat=m from rfl,bZ hq];have hcut:=nA (iA p La) m;have hl:((iA p La).take m).length=m:=by
  have:=hra.2.2;rw[j1];omega
 rw[hra.1,hl] at hcut;refine⟨hra.2.1,?_,?_⟩
 ·rw[hra.1];show x*p+y*p*(Bs ^ m*0)=x*p
  rw[lP,lP,E7]
 ·subst hm;exact VO ca.lt (cb.ge hb0) hb0 hll hp0 hcut
theorem TL {α:Type} {L:List α} {m:Nat} (h:m < L.length) (x:α):(L.set m x).drop m=x::L.drop (m+1):=by
 rw[ZM,if_pos h,X7 (by rw[j1];omega)]
theorem xF {va vb:Value} {x y:Nat} (w:World) (ha:cA (Hp.whole w) va x) (hb:cA (Hp.whole w) vb y) (hy:0 < y) :
  j2 Tryz.prog 240 #[va,vb] w (fQ w λv cs=>∃g vq vr,cs = [.hp g]/\v=.tuple #[vq,vr]/\cA g vq (x / y)/\(vr=va/\x < y\/cA g vr (x % y))):=by
 obtain⟨a,n,c,La,rfl,sa,ca,la⟩:=ha;obtain⟨a2,n2,c2,Lb,rfl,sb,cb,lb⟩:=hb;have hn:=sa.len;have hn2:=sb.len;have hb0:0 < Lb.length:=E4 λe=>by
  have:=cb.zero.2 (w6 e);omega
 refine enterZ (cx 79) [.slice a n c,.slice a2 n2 c2] [.tmp 4,.tmp 5] Tryz.func240 ?_;refine k7 _ (λw' hm=>oA w' (sa.mono (j7 _) (hm 0 _ rfl)) (sb.mono (j7 _) (hm 0 _ rfl)) ca cb om) ?_;refine d9 (λh1=>?_) λh1=>?_
 ·have hlt:x < y:=by
   unfold CQ at h1;split at h1
   ·assumption
   ·split at h1 <;> omega
  exact⟨[.hp Hp.emp],⟨_,_,_,rfl,rfl,⟨_,_,_,[],rfl,Sl.nil _ _ _ _ _,by rw[Ir hlt];exact fX.nil,sQ⟩,.inl ⟨rfl,hlt⟩⟩,λw' h=>h.emp⟩
 ·have hge:y<=x:=by
   unfold CQ at h1;split at h1
   ·omega
   ·omega
  have hll:=cb.le_len ca hge;refine d9 (λh2=>?_) λh2=>?_
  ·obtain⟨d,hd⟩ :∃d,Lb = [d]:=List.length_eq_one_iff.1 om;subst hd;have hdB:d < Bs:=cb.l d sQ;have hdy:d=y:=by have:=cb.v;simpa [q7] using this
   subst hdy;refine R2 cQ (e:=247) rfl sb 0 rfl sQ λb9 o9 cs hcs hR hcell3=>?_;subst hR;refine lQ 0 (hcell3 0 _ rfl) ?_;refine call (λw' hm=>zV w' d (sa.mono (j7 _) (hm 0 _ rfl)) ca.l om hy hdB) ?_;rintro _ _ ⟨g,aq,nq,cq,Lq,rfl,rfl,sq,cq'⟩;rw[ca.v] at cq' ⊢;intro b30;have hrB:x % d < 4294967296:=J1 (A6 _ hy) (lU hdB);refine EO (λw' hm=>aT (L:=[x % d]) w' (Sl.box (f:=fW) (λ_=>rfl) dc (hm 2 _ rfl) [x % d] rfl rfl sQ) sQ) ?_;rintro _ _ ⟨rfl,rfl⟩ hsat;have hlim:O4 [x % d]:=λe he=>by rw[v6] at he;rw[he];exact hrB
   have hb3:=w5.sl (f:=fW) (sz:=1) (λ_=>rfl) dc (w5.ofBox (sz:=1) (f:=fW) (b:=b30) (T:=247) (λ_=>rfl) [x % d] rfl rfl sQ);have hcan:=U7 hlim;rw[show q7 [x % d]=x % d by simp[q7]] at hcan;exact⟨[.hp (g.join (Ch.box b30 [.int .u32 ((x % d:Nat):Int)] 247).h)],⟨_,_,_,rfl,rfl,⟨_,_,_,_,rfl,sq.mono (j7 _) (Hp.le_left _ _),cq',by have:=cq'.le_len ca (D0 _ _);omega⟩,
    .inr ⟨_,_,_,_,rfl,(iX hb3).mono (j7 _) (hsat.leR 1 2 rfl rfl),hcan,by rw[iH];have:=nB [x % d];simp at this;omega⟩⟩,λw' h=>Ok.join (h.pick [0,1,2] rfl rfl)⟩
  ·have hl2:2<=Lb.length:=om
   obtain⟨tl,tv2,tv1,etl,htl,htop⟩:=AU hl2;have htop0:tv1≠0:=by
    rw[<-htop];exact cb.t _ hb0 om
   have htopB:tv1 < Bs:=cb.l tv1 (by rw[etl];simp);have hgt:Lb[Lb.length - 1]'(by omega)=tv1:=jK (a:=tl++[tv2]) (b:=[]) (by rw[etl];simp) (by simp;omega) om;refine nwo ?_;refine R2 cQ (e:=247) rfl sb (Lb.length - 1) om om λb9 o9 cs hcs hR hcell4=>?_;rw[hgt] at hR;subst hR;refine lQ 0 (hcell4 0 _ rfl) ?_;refine call (λw' hm=>JS tv1 htopB (E4 htop0) w') ?_;rintro _ _ ⟨rfl,k,rfl,hk1,hk⟩;obtain⟨hps,hpB⟩:=vK hk;have hp0:=cC k;generalize hp:2 ^ k=p at hk1 hps hpB hp0;have hra:=AE hpB ca.l;have hrb:=AE hpB cb.l;rw[ca.v] at hra;rw[cb.v] at hrb;refine call (λw' hm=>wS w' k (sa.mono (j7 _) (hm 0 _ rfl)) ca.l om hk) ?_;rintro _ _ ⟨o1,rfl,rfl,ho1⟩;refine call (λw' hm=>wS w' k (sb.mono (j7 _) (hm 0 _ rfl)) cb.l om hk) ?_;rintro _ _ ⟨o2,rfl,rfl,ho2⟩;rw[hp] at ho1 ho2;have s2:=w5.sl (f:=fW) (sz:=1) (λ_=>rfl) dc ho2;have cV:=U7 hrb.2.1;rw[hrb.1] at cV;have hyp:y*p < Bs ^ Lb.length:=by
    have e:y=q7 tl+Bs ^ tl.length*(tv2+Bs*tv1):=by rw[<-cb.v,etl,zH]
    have h1:=bF (m:=tl) λd hd=>cb.l d (by rw[etl];simp[hd]);have h2:tv2 < Bs:=cb.l tv2 (by rw[etl];simp);have e2:Bs ^ Lb.length=Bs ^ tl.length*(Bs*Bs):=by rw[<-htl,jR];rfl
    have h3:y < Bs ^ tl.length*(Bs*(tv1+1)):=by
     have g1:Bs ^ tl.length*(tv2+Bs*tv1+1)<=Bs ^ tl.length*(Bs*(tv1+1)):=x7 _ (by rw[B7];omega);rw[B7 _ _ 1,D7] at g1;omega
    have h4:(tv1+1)*p<=Bs:=by
     have g2:=hk1;rw[D2,O8];have g3:tv1*p < p*2 ^ (32 - k):=by rw[hps];exact g2
     rw[m8 tv1 p] at g3;have g4:=Nat.lt_of_mul_lt_mul_left g3;have g5:p*(tv1+1)<=p*2 ^ (32 - k):=x7 _ g4;rw[hps,B7,D7,m8 p tv1] at g5;exact g5
    have h5:y*p < Bs ^ tl.length*(Bs*(tv1+1))*p:=Lw h3 hp0;have h6:Bs ^ tl.length*(Bs*(tv1+1))*p=Bs ^ tl.length*(Bs*((tv1+1)*p)):=by rw[A0,A0]
    have h7:Bs ^ tl.length*(Bs*((tv1+1)*p))<=Bs ^ tl.length*(Bs*Bs):=x7 _ (x7 _ h4);omega
   have hVl:(LV (iA p Lb)).length=Lb.length:=by
    rcases Em (LV (iA p Lb)).length Lb.length with g | g | g
    ·have:=cV.lt;have h2:=cb.ge hb0;have h3:Bs ^ (LV (iA p Lb)).length<=Bs ^ (Lb.length - 1):=E9 dc om;have h4:y*1<=y*p:=x7 _ hp0;omega
    ·exact g
    ·have h2:=cV.ge om;have h3:Bs ^ Lb.length<=Bs ^ ((LV (iA p Lb)).length - 1):=E9 dc om;omega
   have hvn:trN (iA p Lb)=Lb.length:=by rw[<-iH];exact hVl
   refine k7 _ (λw' hm=>aT w' (s2.mono (j7 _) (hm 2 _ rfl)) (by rw[hrb.2.2];omega)) ?_;have sV:=iX s2;rw[hvn] at sV ⊢;obtain⟨vl,v2,v1,eV,hvl,hv1⟩:=AU (L:=LV (iA p Lb)) om;have hv0:v1≠0:=by rw[<-hv1];exact cV.t _ om om
   have cV':=cV;rw[eV] at cV' sV;(iterate 2 refine nwo ?_);refine Hj (f:=fW) cQ (e:=247) rfl (La.length - Lb.length+1) 0 rfl om om rfl om λo52 ho52n ho52=>?_;refine nwo ?_;obtain⟨b1,hb1⟩:=ho1.addr (by rw[hra.2.2];omega);obtain⟨a1',n1',c1',h1'⟩:=o1;simp only at hb1;subst hb1;have hn1':n1'=La.length+1:=by have:=ho1.len;rw[hra.2.2] at this;exact this
   subst hn1';have hnp:=hra.2.2;refine z6.mk (Int×Hp×Dw.Os×List Nat×List Nat) (λg=>[(4,.v g.2.2.1.v),(8,.v (iQ k)),(9,.v (.slice (some ⟨b1,0,none⟩) (La.length+1) c1')),(10,.v (.slice o2.a Lb.length o2.c)),(11,.v (iQ g.1))]) (λg=>[.hp (Hp.whole w),.hp g.2.1,.hp o2.h,.hp g.2.2.1.h])
    (λg=>-1<=g.1/\g.1<=La.length - Lb.length/\w5 fW 247 1 ⟨some ⟨b1,0,none⟩,La.length+1,c1',g.2.1⟩ g.2.2.2.1/\g.2.2.2.1.length=La.length+1/\w5 fW 247 1 g.2.2.1 g.2.2.2.2/\g.2.2.2.2.length=La.length - Lb.length+1/\O4 g.2.2.2.2/\
     DA (x*p) (y*p) Lb.length g.2.2.2.1 (g.1+1).toNat (q7 (g.2.2.2.2.drop (g.1+1).toNat))) (λg=>(g.1+1).toNat) ((o52.n:Int) - 1,h1',o52,iA p La,m6 (La.length - Lb.length+1) 0)
    ⟨by dsimp only;omega,by dsimp only;omega,ho1,hnp,ho52,sQ,λd hd=>by rw[List.eq_of_mem_replicate hd];decide,TM ca cb hb0 hll hp0 hpB rfl om sQ⟩ (y6.mk (λ_ _ h=>h) rfl rfl) ?_
   rintro⟨i,hu,oq,u,Lq⟩ ⟨hi1,hi2,hou,hul,hoq,hql,hqlim,hD⟩;dsimp only at *;refine d9 (λh5=>?_) λh5=>?_
   ·obtain⟨m,hm⟩ :∃m:Nat,i=m:=⟨i.toNat,om⟩
    subst hm;have em:((m:Int)+1).toNat=m+1:=om
    rw[em] at hD;have hmu:m+Lb.length < u.length:=om
    have hwin:=hD.window (by omega:m < u.length);obtain⟨z0,hwv⟩:=LY hmu hD.r (lU hyp);have hcutu:=LZ hmu;obtain⟨ul,u2,u1,eu,hul2,_⟩:=AU (L:=(u.drop m).take Lb.length) (by rw[j1,j9];omega);have hulen:((u.drop m).take Lb.length).length=Lb.length:=by rw[j1,j9];omega
    have hAl:(u.take m).length=m:=by rw[j1];omega
    rw[eu] at hcutu hwv hulen;have hlimW:O4 (ul++[u2,u1]):=λd hd=>hD.l d (by
     rw[<-eu] at hd;exact A8 (A7 hd))
    refine nwo ?_;refine nwo ?_;refine Pd cQ (e:=247) rfl rfl m (m+Lb.length+1) rfl om om (by have:=hou.2.cap;dsimp only at this;omega) ?_;rw[show m+Lb.length+1 - m=Lb.length+1 by omega];have hou2:w5 fW 247 1 ⟨some ⟨b1,0,none⟩,La.length+1,c1',hu⟩ (u.take m++(ul++[u2,u1]++u[m+Lb.length]::u.drop (m+Lb.length+1))):=by
     rw[<-hcutu];exact hou
    have htt:u[m+Lb.length] < Bs:=hD.l _ (j5 hmu);rw[hwv,<-cV'.v] at hwin;refine k6 (i:=1) rfl (λw0 w' hok=>by
     have hsV:=sV.mono (j7 _) (Hp.le_minus (hok.mem 2 _ rfl).whole (hok.disj 2 1 _ _ om rfl rfl));have:=NV (cu:=c1' - m) w' (hok.mem 1 _ rfl) hou2 hsV (by have h9:=hulen;simp only[d6,d7,i6] at h9;omega) hlimW htt cV'.l hv0 (by rw[<-hcutu];omega) (by rw[hulen];exact hwin);rw[hAl] at this;exact this) ?_
    rintro _ hu3 _ ⟨rfl,qd,w2,rfl,hqdB,hou3,hw2l,hw2m,hw2v,hw2r⟩;have hmq:m < Lq.length:=om
    refine aW cQ (e:=247) rfl rfl hoq m rfl hmq λb3 hb3=>?_;refine mG (g:=λx:Nat=>.int .u32 x) (λ_=>rfl) cQ (i:=3) rfl hb3 hoq hmq rfl rfl qd rfl rfl rfl λo3 f1 f2 f3 ho3=>?_;refine nwo ?_;have e0:((m:Int) - 1+1).toNat=m:=om
    have hdr:(u.take m++(w2++u.drop (m+Lb.length+1))).drop m=w2++u.drop (m+Lb.length+1):=X7 hAl;have hw2z:q7 (w2++u.drop (m+Lb.length+1))=q7 w2:=by rw[W8,z0];simp
    have hnext:DA (x*p) (y*p) Lb.length (u.take m++(w2++u.drop (m+Lb.length+1))) m (qd+Bs*q7 (Lq.drop (m+1))):=by
     refine hD.next om (λd hd=>?_) (by simp only[d6,j9,hAl,hw2l];omega) (X6 hAl) ?_ ?_
     ·rcases y8.1 hd with g | g
      ·exact hD.l d (A7 g)
      ·rcases y8.1 g with g | g
       ·exact hw2m d g
       ·exact hD.l d (A8 g)
     ·rw[hdr,hw2z,hwv];rw[cV'.v,hulen] at hw2v;exact hw2v
     ·rw[hdr,hw2z];rw[cV'.v] at hw2r;exact hw2r
    refine⟨((m:Int) - 1,hu3,o3,_,Lq.set m qd),⟨by dsimp only;omega,by dsimp only;omega,hou3,by simp only[d6,j9,hAl,hw2l];omega,ho3,by rw[M3];exact hql,λd hd=>?_,?_⟩,by dsimp only;omega,y6.mk (λ_ _ h=>h) (by dsimp only[Os.v];rw[f1,f2,f3];rfl) rfl⟩
    ·rcases List.mem_or_eq_of_mem_set hd with g | g
     ·exact hqlim d g
     ·rw[g];exact hqdB
    ·dsimp only;rw[e0,TL hmq];exact hnext
   ·have ei:(i+1).toNat=0:=om
    rw[ei,G6] at hD;obtain⟨hQ,hR⟩:=hD.fin;rw[Nat.mul_div_mul_right _ _ hp0] at hQ;rw[Nat.mul_mod_mul_right] at hR;have sq:=w5.sl (f:=fW) (sz:=1) (λ_=>rfl) dc hoq;have su:=w5.sl (f:=fW) (sz:=1) (λ_=>rfl) dc hou;have cq:=U7 hqlim;have cu:=U7 hD.l;rw[hQ] at cq;rw[hR] at cu;refine k7 _ (λw' hm=>aT w' (sq.mono (j7 _) (hm 3 _ rfl)) om) ?_;refine k7 _ (λw' hm=>aT w' (su.mono (j7 _) (hm 1 _ rfl)) om) ?_;refine EO (λw' hm=>GM w' k ((iX su).mono (j7 _) (hm 1 _ rfl)) cu.l (by rw[iH];have:=nB u;omega) hk) ?_;rintro _ _ ⟨g,ar,nr,cr,Lr,rfl,rfl,sr,cr'⟩ hsat;rw[cu.v,hp,Nat.mul_div_cancel _ hp0] at cr';exact⟨[.hp (oq.h.join g)],⟨_,_,_,rfl,rfl,⟨_,_,_,_,rfl,(iX sq).mono (j7 _) (Hp.le_left _ _),cq,by have:=cq.le_len ca (D0 _ _);omega⟩,
     .inr ⟨_,_,_,_,rfl,sr.mono (j7 _) (hsat.leR 3 4 rfl rfl),cr',by have:=cr'.le_len ca (Nat.mod_le _ _);omega⟩⟩,λw' h=>Ok.join (h.pick [0,3,4] rfl rfl)⟩
end Go.Proofs.YtpjhmeicbjkcdaaGreatDoor
namespace Go.Dw
open Go Go.RowKit
section
variable {X:Q2} {s:List Ch}
theorem m9 {all r:List Oper} {q:Tm->List Ch->Prop} {t:Tm} (h :∀q':Tm->List Ch->Prop,(∀t s,q t s->q' t s)->Q7 X all r q' t s):Q7 X all r q t s:=h q λ_ _ h=>h
theorem cD {all r:List Oper} {q:Tm->List Ch->Prop} {t:Tm} {s:List Ch} (s':List Ch) (hs:s=s') (h:Q7 X all r q t s'):Q7 X all r q t s:=by subst hs;exact h
theorem nQ {all r:List Oper} {q:Tm->List Ch->Prop} {t:Tm} {s:List Ch} (s':List Ch) (h :∀q':Tm->List Ch->Prop,(∀t s,q t s->q' t s)->Q7 X all r q' t s') (hs:s=s':=by exact rfl):Q7 X all r q t s:=cD s' hs (m9 h)
theorem GS (hX:X.Good) {T e len:Nat} {te ti:TI} (ht:G9 X.tt T=some ti) (hk:ti.k=.ar len e) (hte:G9 X.tt e=some te) {b off:Nat} {k:IntKind} {x:Int} (m:Nat) (hx:x=m) (hm:QZ m len=true) {q:TV->Prop}
  (hq:q (.v (.pointer (some ⟨b,off+m*te.size,none⟩)))):C9 X.P s (Instr.indexAt T (.pointer (some ⟨b,off,none⟩)) (.int k x)) q:=by
 subst hx;have hlt:m < len:=by simpa [Nx] using hm
 refine⟨_,λw _=>?_,hq⟩;obtain⟨_,sz,by',z⟩:=ti;dsimp only at hk;subst hk;have hu:=(Good.und hX ht).2;have hun:(underlying T).run X.P w=.ok (.array len e) w:=by simp[underlying,show X.P.underlying T=_ from hu]
 have hsz:=(Good.und hX hte).size w;simp only[Instr.indexAt,asIntOf,Sem.run_bind,Sem.run_pure,Result.andThen_ok,hun,Instr.sureAddr];have c:(0:Int)<=(m:Int)/\(m:Int) < (len:Int):=⟨R6 m,om⟩
 rw[if_pos c];simp[hsz,Addr.add_mk]
end
end Go.Dw
namespace Go.Dw
open Go Go.RowKit
theorem AK {x y:Int} {q:Int->Prop} (h:x=y) (h1 : -9223372036854775808<=y) (h2:y<=9223372036854775807) (hq:q y):bU .i64 x q:=by subst h;exact nw h1 h2 hq
section
variable {X:Q2} {s:List Ch}
end
end Go.Dw
namespace Go.Proofs.YtpjhmeicbjkcdaaGreatDoor
open Go Go.RowKit Go.Dw
theorem cA.len {h:Hp} {a:Option Addr} {n c m:Nat} (hm:cA h (.slice a n c) m):n=0↔m=0:=by
 obtain⟨a',n',c',L,e,h1,h2,_⟩:=hm;cases e;rw[h2.zero,h1.len];exact⟨w6,λe=>by rw[e];rfl⟩
def Nv (W G:Hp) (t:Option Addr×Nat×Nat) (m:Nat):Prop:=∀k,W.le k->G.le k->cA k (.slice t.1 t.2.1 t.2.2) m
theorem cA.slice {h:Hp} {v:Value} {m:Nat} (hm:cA h v m) :∃t:Option Addr×Nat×Nat,v=.slice t.1 t.2.1 t.2.2:=by
 obtain⟨a,n,c,L,e,_⟩:=hm;exact⟨(a,n,c),e⟩
theorem KI {g1 g2:Bool} {a1 a2:Option Addr} {n1 c1 n2 c2 x y:Nat} {h:Hp} (w:World) (hin:h.In w) (ha:cA h (.slice a1 n1 c1) x) (hb:cA h (.slice a2 n2 c2) y) :
  j2 Tryz.prog 194 #[T8 g1 a1 n1 c1,T8 g2 a2 n2 c2] w (fQ w λv cs=>∃g a n c,cs = [.hp g]/\v=T8 false a n c/\∀k,h.le k->g.le k->cA k (.slice a n c) (G8 x y)):=by
 have hW:h.le (Hp.whole w):=hin.whole;refine enterZ (cx 26) [T8 g1 a1 n1 c1,T8 g2 a2 n2 c2] [.cell 4 139] Tryz.func194 ?_;intro b2;intro b3;intro b4;refine u6.by_order cQ (.take 0 <| .take 1 <| .take 2 <| .take 3 <| .take 4 <| .take 5 <| .done) kr ?_;refine z6.mkS ((Option Addr×Nat×Nat)×(Option Addr×Nat×Nat)×Nat×Nat×Hp) (λg=>[(4,.bx 3 0),(5,.v (.slice g.1.1 g.1.2.1 g.1.2.2)),(6,.v (.slice g.2.1.1 g.2.1.2.1 g.2.1.2.2))])
  (λg=>[.hp (Hp.whole w),.box b2 [.bool g1,.slice a1 n1 c1] 139,.box b3 [.bool g2,.slice a2 n2 c2] 139,.box b4 [.bool false,zl] 139,.hp g.2.2.2.2])
  (λg=>Nv h g.2.2.2.2 g.1 g.2.2.1/\Nv h g.2.2.2.2 g.2.1 g.2.2.2.1/\G8 g.2.2.1 g.2.2.2.1=G8 x y) (λg=>g.2.2.2.1) ((a1,n1,c1),(a2,n2,c2),x,y,Hp.emp)
  ⟨λk h1 _=>ha.mono h1,λk h1 _=>hb.mono h1,rfl⟩ (y6.mk (λ_ _ h=>h.emp) rfl rfl) ?_
 rintro⟨⟨ax,nx,cx⟩,⟨ay,ny,cy⟩,X,Y,G⟩ ⟨hX,hY,hg⟩ hsat;dsimp only at *;have hX' :∀k,h.le k->G.le k->cA k (.slice ax nx cx) X:=hX;have hY' :∀k,h.le k->G.le k->cA k (.slice ay ny cy) Y:=hY;have hl:=(hY' ((Hp.whole w).join G) (λb o e=>Hp.le_left _ _ b o (hW b o e)) (hsat.leR 0 4 rfl rfl)).len;refine d9 (λh1=>?_) λh1=>?_
 ·have hYp:0 < Y:=E4 λe=>by
   have:=hl.2 e;omega
  clear hsat;refine EO (λw' hm=>xF w' (hX' _ (λb o e=>(hm 0 _ rfl).whole b o (hW b o e)) (hm 4 _ rfl).whole) (hY' _ (λb o e=>(hm 0 _ rfl).whole b o (hW b o e)) (hm 4 _ rfl).whole) hYp) ?_;rintro _ _ ⟨g,vq,vr,rfl,rfl,_,hr⟩ hsat;have hgl:g.le (G.join g):=hsat.leR 4 5 rfl rfl;have hr2 :∀k,h.le k->(G.join g).le k->cA k vr (X % Y):=λk k1 k2=>by
   rcases hr with ⟨rfl,hlt⟩ | hr
   ·rw[C7 hlt];exact hX' k k1 λb o e=>k2 b o (Hp.le_left _ _ b o e)
   ·exact hr.mono λb o e=>k2 b o (hgl b o e)
  obtain⟨⟨ar,nr,cr⟩,rfl⟩:=(hr2 ((Hp.whole w).join (G.join g)) (λb o e=>Hp.le_left _ _ b o (hW b o e)) (by
   have h1:Hp.le (G.join g) ((Hp.whole w).join (G.join g)):=by
    obtain⟨w0,w1,hok⟩:=hsat;exact Hp.le_join_in (hok.mem 0 _ rfl) (Hp.join_in (hok.mem 4 _ rfl) (hok.mem 5 _ rfl))
   exact h1)).slice
  refine⟨((ay,ny,cy),(ar,nr,cr),Y,X % Y,G.join g),⟨λk k1 k2=>hY' k k1 λb o e=>k2 b o (Hp.le_left _ _ b o e),hr2,?_⟩,A6 _ hYp,y6.mk (λ_ _ h=>(Ok.join (h.pick [0,4,5,1,2,3] rfl rfl)).pick [0,2,3,4,1] rfl rfl) rfl rfl⟩;dsimp only;rw[<-XP];exact hg
 ·have hY0:Y=0:=hl.1 om;subst hY0;rw[Nat.gcd_zero_right] at hg;subst hg;exact⟨[.hp G],⟨_,_,_,_,rfl,rfl,hX'⟩,pk [0,4]⟩
theorem Hd {u:Nat} {z:Int} {q:Int->Prop} (hz:z=((-(u:Int)) % 18446744073709551616)) (hu:u<=9223372036854775808) (hq:q (-(u:Int))):bU .i64 z q:=by
 refine⟨-(u:Int),?_,hq⟩;subst hz;simp only[IntKind.wrap,IntKind.bits,IntKind.signed];simp;omega
def fB (neg:Bool) (m:Nat):Int×Bool:=if neg=true then (if m<=9223372036854775808 then (-(m:Int),true) else (0,false)) else (if m < 9223372036854775808 then ((m:Int),true) else (0,false))
theorem XI {neg:Bool} {a:Option Addr} {n c m:Nat} (w:World) (ha:cA (Hp.whole w) (.slice a n c) m) :
  j2 Tryz.prog 246 #[T8 neg a n c] w (v8 w (.tuple #[iQ (fB neg m).1,.bool (fB neg m).2])):=by
 obtain⟨a',n',c',L,e,hs,hc,hl⟩:=ha;cases e;have hn:=hs.len;refine enterZ (cx 47) [T8 neg a n c] [.tmp 2,.tmp 3] Tryz.func246 ?_;intro b1;refine d9 (λh1=>?_) λh1=>?_
 ·have h2:=hc.ge om;have h3:Bs ^ 2<=Bs ^ (L.length - 1):=E9 dc om;have h4:Bs ^ 2=18446744073709551616:=rfl;have e:fB neg m=(0,false):=by
   unfold fB;split
   ·rw[if_neg om]
   ·rw[if_neg om]
  exact⟨[],⟨by rw[e],rfl⟩,pk [0]⟩
 ·refine z6.mk (Nat×Int) (λg=>[(1,.bx 1 0),(4,.v (.int .u64 g.2)),(12,.v (.slice a n c)),(13,.v (iQ n)),(14,.v (iQ g.1))]) (λg=>[.hp (Hp.whole w),.box b1 [.bool neg,.slice a n c] 139])
   (λg=>g.1<=L.length/\g.2=((q7 (L.take g.1):Nat):Int)) (λg=>L.length - g.1) (0,0) ⟨j0 _,rfl⟩ (y6.mk (λ_ _ h=>h) rfl rfl) ?_
  rintro⟨i,zu⟩ ⟨hi,hz⟩;dsimp only at *;refine d9 (λh2=>?_) λh2=>?_
  ·have hi':i < L.length:=om
   have hd:L[i] < 4294967296:=hc.l _ (j5 hi');have hp:2 ^ (32*i)=Bs ^ i:=by rw[Nat.pow_mul];rfl
   have htv:=bF (m:=L.take i) λd hd=>hc.l d (A7 hd);rw[j1,T6 hi] at htv;have hsn:=X8 (L.take i) L[i];rw[<-I9 L i hi',j1,T6 hi] at hsn;have hB:Bs ^ i*L[i] < 18446744073709551616/\q7 (L.take i) < 18446744073709551616:=by
    have:i=0\/i=1:=om
    rcases this with rfl | rfl
    ·rw[Nat.pow_zero] at htv ⊢;omega
    ·rw[Nat.pow_one] at htv ⊢;unfold Bs at htv ⊢;omega
   refine R2 cQ (e:=247) rfl hs i rfl hi' λb9 o9 cs hcs hR hcell2=>?_;subst hR;refine lQ 0 (hcell2 0 _ rfl) ?_;refine I8 L[i] rfl om ?_;refine AK (y:=((32*i:Nat):Int)) sQ om om ?_;refine PG L[i] (32*i) rfl rfl om ?_;rw[hp,m8 L[i],C7 hB.1];refine PI (q7 (L.take i)) (Bs ^ i*L[i]) hz rfl hB.2 hB.1 ?_;rw[GA (k:=32*i) hp.symm htv,<-hsn];refine nwo ?_;exact⟨(i+1,_),⟨by dsimp only;omega,rfl⟩,by dsimp only;omega,y6.mk (λ_ _ h=>h) rfl rfl⟩
  ·have hi':i=L.length:=om
   subst hi';rw[q8,hc.v] at hz;have hB:m < 18446744073709551616:=by
    have:=hc.lt;have h3:Bs ^ L.length<=Bs ^ 2:=E9 dc om;have h4:Bs ^ 2=18446744073709551616:=rfl;omega
   refine v7 (λh4=>?_) λh4=>?_
   ·have hneg:neg=false:=by simpa using h4
    subst hneg;refine d9 (λh5=>?_) λh5=>?_
    ·refine nwo ?_;exact⟨[],⟨by unfold fB;rw[if_neg dc,if_pos om,hz],rfl⟩,pk [0]⟩
    ·exact⟨[],⟨by unfold fB;rw[if_neg dc,if_neg om],rfl⟩,pk [0]⟩
   ·have hneg:neg=true:=by simpa using h4
    subst hneg;refine d9 (λh5=>?_) λh5=>?_
    ·refine yJ (y:=(-(m:Int)) % 18446744073709551616) (by rw[hz,Int.zero_sub]) ?_;refine Hd rfl om ?_;exact⟨[],⟨by unfold fB;rw[if_pos rfl,if_pos om],rfl⟩,pk [0]⟩
    ·exact⟨[],⟨by unfold fB;rw[if_pos rfl,if_neg om],rfl⟩,pk [0]⟩
theorem cG {neg:Bool} {a:Option Addr} {n c m:Nat} (w:World) (ha:cA (Hp.whole w) (.slice a n c) m) :
  j2 Tryz.prog 192 #[T8 neg a n c] w (v8 w (iQ (if m=0 then 0 else if neg=true then -1 else 1))):=by
 have hl:=ha.len;refine enterZ (cx 11) [T8 neg a n c] [.tmp 2] Tryz.func192 ?_;intro b1;refine d9 (λh1=>?_) λh1=>?_
 ·exact⟨[],⟨by rw[if_pos (hl.1 om)],rfl⟩,pk [0]⟩
 ·have:m≠0:=λe=>by have:=hl.2 e;omega
  refine v7 (λh2=>?_) λh2=>?_
  ·exact⟨[],⟨by rw[if_neg this,if_pos h2],rfl⟩,pk [0]⟩
  ·exact⟨[],⟨by rw[if_neg this,h2];rfl,rfl⟩,pk [0]⟩
end Go.Proofs.YtpjhmeicbjkcdaaGreatDoor
namespace Go.Proofs.YtpjhmeicbjkcdaaGreatDoor
abbrev d8:=List UInt8
def J4 (c:UInt8):Bool:=decide (97<=c.toNat) && decide (c.toNat<=122)
def k9 (c:UInt8):Bool:=decide (48<=c.toNat) && decide (c.toNat<=57)
def G5 (c:UInt8):Bool:=J4 c || k9 c || decide (c=45) || decide (c=95)
def aJ (p:Nat×Nat) (c:UInt8):Nat×Nat:=if c=10 then (p.1+1,1) else (p.1,p.2+1)
def I6 (p:Nat×Nat) (l:d8):Nat×Nat:=l.foldl aJ p
def s9 (f:UInt8->Bool) (l:d8):Nat:=(l.takeWhile f).length
def P6 (l:d8):Nat:=fG (l.map λc=>c.toNat - 48)
def aM (l:d8):Bool:=decide (0 < l.length) && (decide (l.length=1) || !decide (l.getD 0 0=48))
def V8 (s:d8) (k:Nat):Bool:=
 if s.length=k then aM s else aM (s.take k) && (aM (s.drop (k+1)) && (decide (1 < P6 (s.drop (k+1))) && decide (G8 (P6 (s.take k)) (P6 (s.drop (k+1)))=1)))
def J3:d8->Nat->d8->Nat×d8×Int
 | [],_,_=>(0,[],4)
 | [c],i,out=>if c=10 then (0,[],4) else if c=34 then (if 4096 < out.length then (0,[],5) else (i+1,out,0)) else if c.toNat < 32\/126 < c.toNat then (i,[],14) else if c=92 then (i,[],14) else (0,[],4)
 | c::e::r,i,out=>if c=10 then (0,[],4) else if c=34 then (if 4096 < out.length then (0,[],5) else (i+1,out,0)) else if c.toNat < 32\/126 < c.toNat then (i,[],14) else
  if c=92 then (if e=34\/e=92 then J3 r (i+2) (out++[e]) else (i,[],14)) else J3 (e::r) (i+1) (out++[c])
def Z4:List d8:=[[46,46],[60,61],[62,61],[45,62]]
def CK:d8:=[123,125,40,41,91,93,44,59,58,61,60,62,43,45,42,47,64]
def W3 (s:d8):Nat:=if Z4.any (λx=>decide (s.take 2=x)) then 2 else if s.length≠0/\s.getD 0 0∈CK then 1 else 0
def N0 (s:d8):Nat×Nat:=
 let k:=s9 k9 s
 let m:=s9 k9 (s.drop (k+1))
 if s.getD k 0=47/\k < s.length/\0 < m then (k+1+m,k) else (k,k)
def A9 (s:d8):Nat×Int×d8×Int:=
 let c:=s.getD 0 0
 if c=34 then
  let r:=J3 (s.drop 1) 1 []
  (r.1,3,r.2.1,r.2.2)
 else if J4 c then (if 40 < s9 G5 s then (0,1,[],5) else (s9 G5 s,1,s.take (s9 G5 s),0))
 else if k9 c then
  let n:=N0 s
  if 400 < n.1 then (0,2,[],5) else if V8 (s.take n.1) n.2 then (n.1,2,s.take n.1,0) else (0,2,[],3)
 else if W3 s=0 then (0,4,[],14) else (W3 s,4,s.take (W3 s),0)
abbrev mR:=Int×d8×Nat×Nat
def cH:Nat->d8->Nat×Nat->List mR->List mR×Nat×Nat×Int
 | 0,_,p,out=>(out++[(5,[],p.1,p.2)],0,0,0)
 | f+1,s,p,out=>match s with
  | []=>(out++[(5,[],p.1,p.2)],0,0,0)
  | c::r=>
   if c=32\/c=10 then cH f r (aJ p c) out
   else if c=35 then cH f (s.drop (s9 (λc=>!decide (c=10)) s)) (I6 p (s.take (s9 (λc=>!decide (c=10)) s))) out
   else
    let t:=A9 s
    if t.2.2.2≠0 then ([],(I6 p (s.take t.1)).1,(I6 p (s.take t.1)).2,t.2.2.2)
    else cH f (s.drop t.1) (I6 p (s.take t.1)) (out++[(t.2.1,t.2.2.1,p.1,p.2)])
def dG (s:d8):List mR×Nat×Nat×Int:=if 65536 < s.length then ([],1,1,5) else cH (s.length+1) s (1,1) []
theorem OW {s:d8} (h0:0 < s.length) (h:(A9 s).2.2.2=0):0 < (A9 s).1:=by
 cases s with
 | nil=>cases h0
 | cons c r=>
  have key :∀(l:d8) (i:Nat) (out:d8),(J3 l i out).2.2=0->i < (J3 l i out).1:=by
   intro l;induction hn:l.length using sI generalizing l with
   | _ n ih=>
    intro i out h;match l,hn with
    | [],_=>simp[J3] at h
    | [c],_=>
     unfold J3 at h ⊢;split at h
     ·cases h
     ·split at h
      ·split at h
       ·cases h
       ·rename_i g1 g2 g3
        rw[if_neg g1,if_pos g2,if_neg g3];exact Iq i
      ·split at h
       ·cases h
       ·split at h <;> cases h
    | c::e::r,hn=>
     unfold J3 at h ⊢;split at h
     ·cases h
     ·rename_i g1
      rw[if_neg g1];split at h
      ·rename_i g2
       rw[if_pos g2];split at h
       ·cases h
       ·rename_i g3
        rw[if_neg g3];exact Iq i
      ·rename_i g2
       rw[if_neg g2];split at h
       ·cases h
       ·rename_i g3
        rw[if_neg g3];split at h
        ·rename_i g4
         rw[if_pos g4];split at h
         ·rename_i g5
          rw[if_pos g5];have:=ih r.length (by simp at hn;omega) r rfl (i+2) (out++[e]) h;omega
         ·cases h
        ·rename_i g4
         rw[if_neg g4];have:=ih (e::r).length (by simp at hn ⊢;omega) (e::r) rfl (i+1) (out++[c]) h;omega
  have run1 :∀f:UInt8->Bool,f c=true->0 < s9 f (c::r):=λf hf=>by
   unfold s9;rw[B6,if_pos hf];exact Nat.succ_pos _
  unfold A9 at h ⊢;have e:(c::r).getD 0 0=c:=rfl;rw[e] at h ⊢;dsimp only at h ⊢;by_cases c1:c=34
  ·rw[if_pos c1] at h ⊢;have:=key r 1 [] h;show 0 < (J3 r 1 []).1
   omega
  ·rw[if_neg c1] at h ⊢;by_cases c2:J4 c=true
   ·rw[if_pos c2] at h ⊢;have hi:G5 c=true:=by unfold G5;rw[c2];rfl
    split at h
    ·cases h
    ·rename_i g
     rw[if_neg g];exact run1 _ hi
   ·rw[if_neg c2] at h ⊢;by_cases c3:k9 c=true
    ·rw[if_pos c3] at h ⊢;have hk:=run1 k9 c3;have hn:0 < (N0 (c::r)).1:=by
      unfold N0;dsimp only;split
      ·show 0 < s9 k9 (c::r)+1+_;omega
      ·exact hk
     split at h
     ·cases h
     ·rename_i g
      rw[if_neg g];split at h
      ·rename_i g2
       rw[if_pos g2];exact hn
      ·cases h
    ·rw[if_neg c3] at h ⊢;split at h
     ·cases h
     ·rename_i g
      rw[if_neg g];exact E4 g
end Go.Proofs.YtpjhmeicbjkcdaaGreatDoor
namespace Go.Proofs.YtpjhmeicbjkcdaaGreatDoor
def bH (l:d8):Bool:=decide (l.getD 0 0=45) && decide (0 < l.length)
def M4 (l:d8):d8:=if bH l=true then l.drop 1 else l
def R4 (l:d8):Int:=
 if 65536 < l.length then 5 else if M4 l = []\/(M4 l).any (λc=>!k9 c)=true then 14 else if (M4 l).getD 0 0=48/\(1 < (M4 l).length\/bH l=true) then 3 else 0
def J6 (l:d8):d8×d8×Bool:=if s9 (λc=>!decide (c=47)) l < l.length then (l.take (s9 (λc=>!decide (c=47)) l),l.drop (s9 (λc=>!decide (c=47)) l+1),true) else (l,[],false)
def bR (l:d8):Bool:=decide (l≠[]) && l.all k9
def X9 (most:Nat) (l:d8):Int:=
 if most < l.length then 5
 else if (!bR (M4 (J6 l).1) || (J6 l).2.2 && !bR (J6 l).2.1)=true then 14
 else if ((J6 l).2.2 && (J6 l).2.1.all λc=>decide (c=48))=true then 19
 else if R4 (J6 l).1≠0 then 3
 else if (J6 l).2.2=false then 0
 else if R4 (J6 l).2.1≠0\/P6 (J6 l).2.1=1\/G8 (P6 (M4 (J6 l).1)) (P6 (J6 l).2.1)≠1 then 3 else 0
theorem iR {c:UInt8} (h:k9 c=true):c≠45/\c≠47:=by
 unfold k9 at h;rw[j4,decide_eq_true_eq,decide_eq_true_eq] at h;refine⟨λe=>?_,λe=>?_⟩ <;> · subst e;revert h;decide
theorem yT {l:d8} {f:UInt8->Bool} (h:l.all f=true) {i:Nat} (hi:i < l.length):f (l.getD i 0)=true:=by
 rw[e8,i7 hi];exact s7.1 h _ (j5 hi)
theorem iJ {l:d8} (h:l.all k9=true):bH l=false/\M4 l=l:=by
 have e:bH l=false:=by
  unfold bH;rcases u9 l.length with g | g
  ·rw[decide_eq_false (show ¬ 0 < l.length by omega),Bool.and_false]
  ·rw[decide_eq_false (iR (yT h g)).1,eG]
 exact⟨e,by unfold M4;rw[e];rfl⟩
theorem QU {l:d8} (h:l.all k9=true):l.any (λc=>!k9 c)=false:=by
 rw[K8];intro c hc;rw[s7.1 h c hc];decide
theorem jT {l:d8} (h:l.all k9=true) (h0:0 < l.length) (h1:l.length<=65536):R4 l=0↔aM l=true:=by
 obtain⟨e1,e2⟩:=iJ h;unfold R4 aM;rw[e1,e2,QU h,if_neg om,if_neg (by intro g;rcases g with g | g <;> first | (rw[g] at h0;cases h0) | cases g)];rw[decide_eq_true h0];by_cases c:l.getD 0 0=48/\(1 < l.length\/false=true)
 ·rw[if_pos c];have:1 < l.length:=by rcases c.2 with g | g <;> first | exact g | cases g
  rw[decide_eq_true c.1,decide_eq_false (show ¬ l.length=1 by omega)];simp
 ·rw[if_neg c];simp only[true_iff];by_cases g:l.length=1
  ·rw[decide_eq_true g];rfl
  ·have : ¬ l.getD 0 0=48:=λe=>c ⟨e,.inl om⟩;rw[decide_eq_false this];simp
theorem yF {f:UInt8->Bool} :∀{l:d8},l.all f=true->s9 f l=l.length
 | [],_=>rfl
 | c::l,h=>by
  rw[S3,j4] at h;have:=yF h.2;unfold s9 at *;rw[B6,if_pos h.1,d7,d7,this]
theorem pE {f:UInt8->Bool} :∀{a:d8} {c:UInt8} {b:d8},a.all f=true->f c=false->s9 f (a++c::b)=a.length
 | [],c,b,_,h=>by
  unfold s9;rw[I4,B6,h];rfl
 | d::a,c,b,h,h2=>by
  rw[S3,j4] at h;have:=pE (b:=b) h.2 h2;unfold s9 at *;rw[CZ,B6,if_pos h.1,d7,d7,this]
theorem lL {l:d8} (h:l.all k9=true):l.all (λc=>!decide (c=47))=true:=by
 rw[s7] at h ⊢;intro c hc;rw[decide_eq_false (iR (h c hc)).2];rfl
theorem KZ {l:d8} (h:l.all k9=true):J6 l=(l,[],false):=by
 unfold J6;rw[yF (lL h),if_neg (pX _)]
theorem KY {a b:d8} (h:a.all k9=true):J6 (a++47::b)=(a,b,true):=by
 unfold J6;rw[pE (lL h) dc,if_pos sQ];simp
theorem BG {l:d8} (h:l.all k9=true):P6 l=0↔(l.all λc=>decide (c=48))=true:=by
 unfold P6;rw[uN];rw[s7] at h ⊢;constructor
 ·intro g c hc;have h1:=g (c.toNat - 48) (y7.2 ⟨c,hc,rfl⟩);have h2:=h c hc;unfold k9 at h2;rw[j4,decide_eq_true_eq,decide_eq_true_eq] at h2;rw[decide_eq_true_eq];apply UInt8.toNat_inj.1;show c.toNat=48
  omega
 ·intro g d hd;obtain⟨c,hc,rfl⟩:=y7.1 hd;have:=g c hc;rw[decide_eq_true_eq] at this;subst this;rfl
theorem AB {l:d8} (h:l.all k9=true) (h0:0 < l.length) (h1:l.length<=400):X9 400 l=0↔V8 l l.length=true:=by
 obtain⟨_,e2⟩:=iJ h;have hd:bR l=true:=by unfold bR;rw[h,decide_eq_true (by intro e;rw[e] at h0;cases h0)];rfl
 have hp:=jT h h0 om;unfold X9 V8;rw[KZ h];dsimp only;rw[if_neg om,e2,hd,if_neg dc,if_neg sQ,if_pos rfl];rw[if_pos rfl];by_cases c:R4 l=0
 ·rw[if_neg om];exact⟨λ_=>hp.1 c,λ_=>rfl⟩
 ·rw[if_pos c];exact⟨λg=>(by cases g),λg=>absurd (hp.2 g) c⟩
theorem IU {a b:d8} (ha:a.all k9=true) (hb:b.all k9=true) (h0:0 < a.length) (h1:0 < b.length) (h2:(a++47::b).length<=400):X9 400 (a++47::b)=0↔V8 (a++47::b) a.length=true:=by
 obtain⟨_,ea⟩:=iJ ha;have hl:(a++47::b).length=a.length+(b.length+1):=sQ
 have hda:bR a=true:=by unfold bR;rw[ha,decide_eq_true (by intro e;rw[e] at h0;cases h0)];rfl
 have hdb:bR b=true:=by unfold bR;rw[hb,decide_eq_true (by intro e;rw[e] at h1;cases h1)];rfl
 have hpa:=jT ha h0 om;have hpb:=jT hb h1 om;have hz:=BG hb;unfold X9 V8;rw[KY ha];dsimp only;rw[if_neg om,ea,hda,hdb,if_neg dc,if_neg (show ¬ (a++47::b).length=a.length by omega)];have et:(a++47::b).take a.length=a:=sQ
 have ed:(a++47::b).drop (a.length+1)=b:=by
  rw[List.drop_append];simp
 rw[et,ed,D9];by_cases c1:(b.all λc=>decide (c=48))=true
 ·rw[if_pos c1,hz.2 c1];constructor
  ·intro g;cases g
  ·intro g;simp at g
 ·rw[if_neg c1];have hnz:P6 b≠0:=λe=>c1 (hz.1 e);by_cases c2:R4 a=0
  ·rw[if_neg (show ¬ R4 a≠0 from λg=>g c2),if_neg (show ¬ (true=false) from nofun),hpa.1 c2,D9];by_cases c3:R4 b=0
   ·rw[hpb.1 c3,D9];by_cases c4:P6 b=1
    ·rw[if_pos (.inr (.inl c4)),decide_eq_false (show ¬ 1 < P6 b by omega)];simp
    ·rw[decide_eq_true (show 1 < P6 b by omega),D9];by_cases c5:G8 (P6 a) (P6 b)=1
     ·rw[if_neg (by rintro (g | g | g) <;> first | exact g c3 | exact c4 g | exact g c5),decide_eq_true c5];simp
     ·rw[if_pos (.inr (.inr c5)),decide_eq_false c5];simp
   ·rw[if_pos (.inl c3)];have:aM b=false:=by cases e:aM b with | false=>rfl | true=>exact absurd (hpb.2 e) c3
    rw[this];simp
  ·rw[if_pos c2];have:aM a=false:=by cases e:aM a with | false=>rfl | true=>exact absurd (hpa.2 e) c2
   rw[this];simp
end Go.Proofs.YtpjhmeicbjkcdaaGreatDoor
namespace Go.Proofs
open Go.Shelf
def Tryz.lIB_ren:Go.Shelf.Ren:=⟨λ| 217=>298 | 266=>318 | n=>n,λ| 9=>9 | 5=>5 | 3=>3 | n=>n,λ| n=>n⟩
theorem Tryz.lIB:Go.Proofs.Lays.n217 Tryz.prog Tryz.lIB_ren:={
 mixed:=kr
 f217:=Tryz.func298.trans (congrArg some kr)
 f266:=Tryz.func318.trans (congrArg some kr)
 t3:=Tryz.underlying3
 a3:=Tryz.isAgg3
 z3:=Tryz.sizeOf3
 v3:=Tryz.zeroValue3
 t5:=Tryz.underlying5
 a5:=Tryz.isAgg5
 z5:=Tryz.sizeOf5
 v5:=Tryz.zeroValue5
 t9:=Tryz.underlying9
 a9:=Tryz.isAgg9
 z9:=Tryz.sizeOf9
 v9:=Tryz.zeroValue9 }
end Go.Proofs
namespace Go.Proofs.YtpjhmeicbjkcdaaGreatDoor
open Go Go.RowKit Go.Dw
def Y0 (s p:d8):Bool:=decide (p.length<=s.length) && decide (s.take p.length=p)
theorem eA (s p:d8) (w:World):j2 Tryz.prog 224 #[sv s,sv p] w (v8 w (.bool (Y0 s p))):=by
 have hs:=C8 s;have hp:=C8 p;refine enterZ (cx 18) [sv s,sv p] [.tmp 4] Tryz.func224 ?_;refine d9 (λh1=>?_) λh1=>?_
 ·refine nN cQ rfl rfl 0 p.length (.inl ⟨rfl,rfl⟩) (.inr ⟨_,_,rfl,by rw[hp]⟩) om om ?_;rw[G6];refine dL ?_;exact⟨[],⟨by unfold Y0;rw[decide_eq_true (show p.length<=s.length by omega),D9],rfl⟩,pk [0]⟩
 ·exact⟨[],⟨by unfold Y0;rw[decide_eq_false (show ¬ p.length<=s.length by omega),eG],rfl⟩,pk [0]⟩
theorem AY (s p:d8) (w:World):j2 Tryz.prog 245 #[sv s,sv p] w (v8 w (.bool (Y0 s p))):=by
 refine enterZ (cx 8) [sv s,sv p] [.tmp 4] Tryz.func245 ?_;refine k7 _ (λw' hm=>eA s p w') ?_;exact⟨[],⟨rfl,rfl⟩,λw' h=>h⟩
theorem JA {s p:d8} (h:Y0 s p=true):p.length<=s.length:=by
 unfold Y0 at h;rw[j4,decide_eq_true_eq] at h;exact h.1
theorem oL (s p:d8) (w:World):j2 Tryz.prog 134 #[sv s,sv p] w (v8 w (.tuple #[sv (if Y0 s p=true then s.drop p.length else s),.bool (Y0 s p)])):=by
 have h0 :∀w,j2 Tryz.prog 189 #[sv s,sv p] w (v8 w (.tuple #[sv (if Y0 s p=true then s.drop p.length else s),.bool (Y0 s p)])):=by
  intro w;have hp:=C8 p;refine enterZ (cx 15) [sv s,sv p] [.tmp 4,.tmp 5] Tryz.func189 ?_;refine k7 _ (λw' hm=>eA s p w') ?_;refine v7 (λh1=>?_) λh1=>?_
  ·have h1:Y0 s p=false:=by simpa using h1
   exact⟨[],⟨by rw[h1];rfl,rfl⟩,pk [0]⟩
  ·have h1:Y0 s p=true:=by simpa using h1
   have hl:=JA h1;refine nN cQ rfl rfl p.length s.length (.inr ⟨_,_,rfl,by rw[hp]⟩) (.inl ⟨rfl,rfl⟩) hl (j8 _) ?_;rw[q8];exact⟨[],⟨by rw[h1];rfl,rfl⟩,pk [0]⟩
 refine enterZ (cx 11) [sv s,sv p] [.tmp 4,.tmp 5] Tryz.func134 ?_;refine k7 _ (λw' hm=>h0 w') ?_;exact⟨[],⟨rfl,rfl⟩,λw' h=>h⟩
theorem xL (s p:d8) (w:World):j2 Tryz.prog 212 #[sv s,sv p] w (v8 w (sv (if Y0 s p=true then s.drop p.length else s))):=by
 have h0 :∀w,j2 Tryz.prog 248 #[sv s,sv p] w (v8 w (sv (if Y0 s p=true then s.drop p.length else s))):=by
  intro w;have hp:=C8 p;refine enterZ (cx 13) [sv s,sv p] [.tmp 4] Tryz.func248 ?_;refine k7 _ (λw' hm=>eA s p w') ?_;refine v7 (λh1=>?_) λh1=>?_
  ·have hl:=JA h1;refine nN cQ rfl rfl p.length s.length (.inr ⟨_,_,rfl,by rw[hp]⟩) (.inl ⟨rfl,rfl⟩) hl (j8 _) ?_;rw[q8];exact⟨[],⟨by rw[h1];rfl,rfl⟩,pk [0]⟩
  ·exact⟨[],⟨by rw[h1];rfl,rfl⟩,pk [0]⟩
 refine enterZ (cx 8) [sv s,sv p] [.tmp 4] Tryz.func212 ?_;refine k7 _ (λw' hm=>h0 w') ?_;exact⟨[],⟨rfl,rfl⟩,λw' h=>h⟩
def CM (c:UInt8) (l:d8):Int:=if s9 (λd=>!decide (d=c)) l < l.length then (s9 (λd=>!decide (d=c)) l:Nat) else -1
theorem KF (c:UInt8) :∀l:d8,Lib.indexByte l c=CM c l
 | []=>rfl
 | b::l=>by
  have ih:=KF c l;unfold Lib.indexByte;by_cases h:b=c
  ·subst h;rw[if_pos sQ];unfold CM s9;simp
  ·rw[if_neg (by simpa using h),ih];have e:s9 (λd=>!decide (d=c)) (b::l)=s9 (λd=>!decide (d=c)) l+1:=by
    unfold s9;rw[B6,if_pos (by simp[h])];rfl
   unfold CM;rw[e,d7];by_cases h2:s9 (λd=>!decide (d=c)) l < l.length
   ·rw[if_pos h2,if_neg sQ,if_pos om];rfl
   ·rw[if_neg h2,if_pos sQ,if_neg om]
theorem AX (s:d8) (c:UInt8) (w:World):j2 Tryz.prog 298 #[sv s,.int .u8 c.toNat] w (v8 w (iQ (CM c s))):=by
 have hcon:=Any.stringslite_IndexByte Tryz.lIB (bs s) (c.toNat:Int) w;change Calls Tryz.prog 298 _ _ _ at hcon
 refine gX (enters_of Tryz.func298 kr rfl _) hcon ?_;rintro e w' ⟨rfl,rfl⟩;refine⟨?_,Below.refl _ _,j8 _⟩;rw[lN,show (c.toNat:Int).toNat.toUInt8=c by simp,KF]
theorem KD (s:d8) (c:UInt8) (w:World):j2 Tryz.prog 279 #[sv s,sv [c]] w (v8 w (iQ (CM c s))):=by
 have hs:=C8 s;have hp:=C8 [c];refine enterZ (cx 143) [sv s,sv [c]] [.tmp 4] Tryz.func279 ?_;refine dL ?_;refine d9 (λh2=>?_) λh2=>?_
 ·exact⟨[],⟨by rw[<-h2];unfold CM s9;simp,rfl⟩,pk [0]⟩
 ·refine aB cQ rfl rfl 0 rfl sQ ?_;refine k7 _ (λw' hm=>AX s c w') ?_;exact⟨[],⟨rfl,rfl⟩,pk [0]⟩
theorem TQ (s:d8) (w:World) (hl:s.length < 1000000000):j2 Tryz.prog 210 #[sv s,sv [47]] w (v8 w (.tuple #[sv (J6 s).1,sv (J6 s).2.1,.bool (J6 s).2.2])):=by
 have h0 :∀w,j2 Tryz.prog 247 #[sv s,sv [47]] w (v8 w (.tuple #[sv (J6 s).1,sv (J6 s).2.1,.bool (J6 s).2.2])):=by
  intro w;have hp:=C8 [47];refine enterZ (cx 23) [sv s,sv [47]] [.tmp 4,.tmp 5,.tmp 6] Tryz.func247 ?_;refine k7 _ (λw' hm=>KD s 47 w') ?_;refine d9 (λh1=>?_) λh1=>?_
  ·have h2:s9 (λd=>!decide (d=47)) s < s.length:=by
    unfold CM at h1;split at h1
    ·assumption
    ·omega
   have e1:CM 47 s=(s9 (λd=>!decide (d=47)) s:Nat):=by unfold CM;rw[if_pos h2]
   have e2:J6 s=(s.take (s9 (λd=>!decide (d=47)) s),s.drop (s9 (λd=>!decide (d=47)) s+1),true):=by unfold J6;rw[if_pos h2]
   rw[e1,e2];refine u6.by_order cQ (.take 0 <| .take 1 <| .take 2 <| .take 3 <| .take 4 <| .take 5 <| .take 6 <| .take 7 <| .take 8 <| .take 9 <| .take 10 <| .take 11 <| .done) kr ?_;refine nN cQ rfl rfl 0 (s9 (λd=>!decide (d=47)) s) (.inl ⟨rfl,rfl⟩) (.inr ⟨_,_,rfl,rfl⟩) om om ?_;refine nw (by rw[hp];simp;omega) (by rw[hp];simp;omega) ?_;refine nN cQ rfl rfl (s9 (λd=>!decide (d=47)) s+1) s.length (.inr ⟨_,_,rfl,by rw[hp];simp⟩) (.inl ⟨rfl,rfl⟩) om om ?_;rw[q8,G6];exact⟨[],⟨rfl,rfl⟩,pk [0]⟩
  ·have h2 : ¬ s9 (λd=>!decide (d=47)) s < s.length:=λg=>h1 (by unfold CM;rw[if_pos g];omega);have e2:J6 s=(s,[],false):=by unfold J6;rw[if_neg h2]
   rw[e2];exact⟨[],⟨rfl,rfl⟩,pk [0]⟩
 refine enterZ (cx 13) [sv s,sv [47]] [.tmp 4,.tmp 5,.tmp 6] Tryz.func210 ?_;refine k7 _ (λw' hm=>h0 w') ?_;exact⟨[],⟨rfl,rfl⟩,λw' h=>h⟩
end Go.Proofs.YtpjhmeicbjkcdaaGreatDoor
namespace Go.Proofs
open Go.Shelf
def Tryz.lPu_ren:Go.Shelf.Ren:=⟨λ| 14=>257 | 16=>284 | 17=>285 | 19=>305 | 20=>306 | 21=>307 | 22=>308 | 23=>309 | 24=>310 | 25=>322 | 27=>58 | 26=>323 | 28=>132 | 29=>187 | 30=>219 | 31=>220 | 32=>221 | 33=>222 | 35=>263 | 34=>262 | 36=>264 | 37=>265 | 38=>266 | 39=>292 | 40=>293 | n=>n,λ| 9=>9 | 3=>3 | 22=>248 | 24=>196 | 25=>312 | 4=>4 | 34=>356 | 5=>5 | 36=>135 | 37=>68 | 0=>0 | 39=>358 | 21=>21 | 44=>387 | 47=>239 | 50=>410 | 48=>408 | 2=>2 | 52=>281 | 55=>284 | 59=>319 | 60=>247 | 20=>20 | 61=>320 | 65=>375 | 66=>376 | 67=>206 | n=>n,λ| 0=>8 | 1=>9 | 2=>0 | 3=>3 | 4=>4 | n=>n⟩
theorem Tryz.lPu:Go.Proofs.LaysPu.n14 Tryz.prog Tryz.lPu_ren:={
 mixed:=kr
 f14:=Tryz.func257.trans (congrArg some kr)
 f16:=Tryz.func284.trans (congrArg some kr)
 f17:=Tryz.func285.trans (congrArg some kr)
 f19:=Tryz.func305.trans (congrArg some kr)
 f20:=Tryz.func306.trans (congrArg some kr)
 f21:=Tryz.func307.trans (congrArg some kr)
 f22:=Tryz.func308.trans (congrArg some kr)
 f23:=Tryz.func309.trans (congrArg some kr)
 f24:=Tryz.func310.trans (congrArg some kr)
 f25:=Tryz.func322.trans (congrArg some kr)
 f26:=Tryz.func323.trans (congrArg some kr)
 f27:=Tryz.func58.trans (congrArg some kr)
 f28:=Tryz.func132.trans (congrArg some kr)
 f29:=Tryz.func187.trans (congrArg some kr)
 f30:=Tryz.func219.trans (congrArg some kr)
 f31:=Tryz.func220.trans (congrArg some kr)
 f32:=Tryz.func221.trans (congrArg some kr)
 f33:=Tryz.func222.trans (congrArg some kr)
 f34:=Tryz.func262.trans (congrArg some kr)
 f35:=Tryz.func263.trans (congrArg some kr)
 f36:=Tryz.func264.trans (congrArg some kr)
 f37:=Tryz.func265.trans (congrArg some kr)
 f38:=Tryz.func266.trans (congrArg some kr)
 f39:=Tryz.func292.trans (congrArg some kr)
 f40:=Tryz.func293.trans (congrArg some kr)
 t0:=Tryz.underlying0
 a0:=Tryz.isAgg0
 z0:=Tryz.sizeOf0
 v0:=Tryz.zeroValue0
 i0:=kr
 t2:=Tryz.underlying2
 a2:=Tryz.isAgg2
 z2:=Tryz.sizeOf2
 v2:=Tryz.zeroValue2
 i2:=kr
 t3:=Tryz.underlying3
 a3:=Tryz.isAgg3
 z3:=Tryz.sizeOf3
 v3:=Tryz.zeroValue3
 i3:=kr
 t4:=Tryz.underlying4
 a4:=Tryz.isAgg4
 z4:=Tryz.sizeOf4
 v4:=Tryz.zeroValue4
 i4:=kr
 t5:=Tryz.underlying5
 a5:=Tryz.isAgg5
 z5:=Tryz.sizeOf5
 v5:=Tryz.zeroValue5
 i5:=kr
 t9:=Tryz.underlying9
 a9:=Tryz.isAgg9
 z9:=Tryz.sizeOf9
 v9:=Tryz.zeroValue9
 i9:=kr
 t20:=Tryz.underlying20
 a20:=Tryz.isAgg20
 z20:=Tryz.sizeOf20
 v20:=Tryz.zeroValue20
 i20:=kr
 t21:=Tryz.underlying21
 a21:=Tryz.isAgg21
 z21:=Tryz.sizeOf21
 v21:=Tryz.zeroValue21
 i21:=kr
 t22:=Tryz.underlying248
 a22:=Tryz.isAgg248
 z22:=Tryz.sizeOf248
 v22:=Tryz.zeroValue248
 i22:=kr
 t24:=Tryz.underlying196
 a24:=Tryz.isAgg196
 z24:=Tryz.sizeOf196
 v24:=Tryz.zeroValue196
 i24:=kr
 t25:=Tryz.underlying312
 a25:=Tryz.isAgg312
 z25:=Tryz.sizeOf312
 v25:=Tryz.zeroValue312
 i25:=kr
 t34:=Tryz.underlying356
 a34:=Tryz.isAgg356
 z34:=Tryz.sizeOf356
 v34:=Tryz.zeroValue356
 i34:=kr
 c34:=kr
 t36:=Tryz.underlying135
 a36:=Tryz.isAgg135
 z36:=Tryz.sizeOf135
 v36:=Tryz.zeroValue135
 i36:=kr
 t37:=Tryz.underlying68
 a37:=Tryz.isAgg68
 z37:=Tryz.sizeOf68
 v37:=Tryz.zeroValue68
 i37:=kr
 t39:=Tryz.underlying358
 a39:=Tryz.isAgg358
 z39:=Tryz.sizeOf358
 v39:=Tryz.zeroValue358
 i39:=kr
 t44:=Tryz.underlying387
 a44:=Tryz.isAgg387
 z44:=Tryz.sizeOf387
 v44:=Tryz.zeroValue387
 i44:=kr
 t47:=Tryz.underlying239
 a47:=Tryz.isAgg239
 z47:=Tryz.sizeOf239
 v47:=Tryz.zeroValue239
 i47:=kr
 t48:=Tryz.underlying408
 a48:=Tryz.isAgg408
 z48:=Tryz.sizeOf408
 v48:=Tryz.zeroValue408
 i48:=kr
 t50:=Tryz.underlying410
 a50:=Tryz.isAgg410
 z50:=Tryz.sizeOf410
 v50:=Tryz.zeroValue410
 i50:=kr
 t52:=Tryz.underlying281
 a52:=Tryz.isAgg281
 z52:=Tryz.sizeOf281
 v52:=Tryz.zeroValue281
 i52:=kr
 t55:=Tryz.underlying284
 a55:=Tryz.isAgg284
 z55:=Tryz.sizeOf284
 v55:=Tryz.zeroValue284
 i55:=kr
 t59:=Tryz.underlying319
 a59:=Tryz.isAgg319
 z59:=Tryz.sizeOf319
 v59:=Tryz.zeroValue319
 i59:=kr
 t60:=Tryz.underlying247
 a60:=Tryz.isAgg247
 z60:=Tryz.sizeOf247
 v60:=Tryz.zeroValue247
 i60:=kr
 t61:=Tryz.underlying320
 a61:=Tryz.isAgg320
 z61:=Tryz.sizeOf320
 t65:=Tryz.underlying375
 a65:=Tryz.isAgg375
 z65:=Tryz.sizeOf375
 v65:=Tryz.zeroValue375
 i65:=kr
 t66:=Tryz.underlying376
 a66:=Tryz.isAgg376
 z66:=Tryz.sizeOf376
 v66:=Tryz.zeroValue376
 i66:=kr
 t67:=Tryz.underlying206
 a67:=Tryz.isAgg206
 z67:=Tryz.sizeOf206
 v67:=Tryz.zeroValue206
 i67:=kr
 g0:=kr
 m0:=kr
 g1:=kr
 m1:=kr
 g2:=kr
 m2:=kr
 g3:=kr
 m3:=kr
 g4:=kr
 m4:=by kernel_rfl }
end Go.Proofs
namespace Go.Proofs
open Go.Shelf
def Tryz.lTr_ren:Go.Shelf.Ren:=⟨λ| 160=>213 | 232=>250 | 231=>249 | 227=>251 | 234=>253 | 233=>252 | 236=>255 | 235=>254 | 228=>280 | 271=>283 | 151=>282 | 197=>281 | 120=>304 | 152=>303 | 260=>302 | 137=>320 | 119=>321 | 224=>300 | 225=>299 | 217=>298 | 266=>318 | n=>n,λ| 9=>9 | 4=>4 | 3=>3 | 5=>5 | 117=>308 | 116=>307 | 0=>0 | 124=>311 | 21=>21 | 105=>334 | 46=>135 | 119=>346 | 139=>385 | 138=>384 | n=>n,λ| 3=>6 | 4=>7 | n=>n⟩
theorem Tryz.lTr:Go.Proofs.Lays.n160 Tryz.prog Tryz.lTr_ren:={
 mixed:=kr
 f119:=Tryz.func321.trans (congrArg some kr)
 f120:=Tryz.func304.trans (congrArg some kr)
 f137:=Tryz.func320.trans (congrArg some kr)
 f151:=Tryz.func282.trans (congrArg some kr)
 f152:=Tryz.func303.trans (congrArg some kr)
 f160:=Tryz.func213.trans (congrArg some kr)
 f197:=Tryz.func281.trans (congrArg some kr)
 f217:=Tryz.func298.trans (congrArg some kr)
 f224:=Tryz.func300.trans (congrArg some kr)
 f225:=Tryz.func299.trans (congrArg some kr)
 f227:=Tryz.func251.trans (congrArg some kr)
 f228:=Tryz.func280.trans (congrArg some kr)
 f231:=Tryz.func249.trans (congrArg some kr)
 f232:=Tryz.func250.trans (congrArg some kr)
 f233:=Tryz.func252.trans (congrArg some kr)
 f234:=Tryz.func253.trans (congrArg some kr)
 f235:=Tryz.func254.trans (congrArg some kr)
 f236:=Tryz.func255.trans (congrArg some kr)
 f260:=Tryz.func302.trans (congrArg some kr)
 f266:=Tryz.func318.trans (congrArg some kr)
 f271:=Tryz.func283.trans (congrArg some kr)
 t0:=Tryz.underlying0
 a0:=Tryz.isAgg0
 z0:=Tryz.sizeOf0
 v0:=Tryz.zeroValue0
 t3:=Tryz.underlying3
 a3:=Tryz.isAgg3
 z3:=Tryz.sizeOf3
 v3:=Tryz.zeroValue3
 t4:=Tryz.underlying4
 a4:=Tryz.isAgg4
 z4:=Tryz.sizeOf4
 v4:=Tryz.zeroValue4
 t5:=Tryz.underlying5
 a5:=Tryz.isAgg5
 z5:=Tryz.sizeOf5
 v5:=Tryz.zeroValue5
 t9:=Tryz.underlying9
 a9:=Tryz.isAgg9
 z9:=Tryz.sizeOf9
 v9:=Tryz.zeroValue9
 t21:=Tryz.underlying21
 a21:=Tryz.isAgg21
 z21:=Tryz.sizeOf21
 v21:=Tryz.zeroValue21
 t46:=Tryz.underlying135
 a46:=Tryz.isAgg135
 z46:=Tryz.sizeOf135
 v46:=Tryz.zeroValue135
 t105:=Tryz.underlying334
 a105:=Tryz.isAgg334
 z105:=Tryz.sizeOf334
 v105:=Tryz.zeroValue334
 t116:=Tryz.underlying307
 a116:=Tryz.isAgg307
 z116:=Tryz.sizeOf307
 t117:=Tryz.underlying308
 a117:=Tryz.isAgg308
 z117:=Tryz.sizeOf308
 v117:=Tryz.zeroValue308
 t119:=Tryz.underlying346
 a119:=Tryz.isAgg346
 z119:=Tryz.sizeOf346
 t124:=Tryz.underlying311
 a124:=Tryz.isAgg311
 z124:=Tryz.sizeOf311
 v124:=Tryz.zeroValue311
 t138:=Tryz.underlying384
 a138:=Tryz.isAgg384
 z138:=Tryz.sizeOf384
 v138:=Tryz.zeroValue384
 t139:=Tryz.underlying385
 a139:=Tryz.isAgg385
 z139:=Tryz.sizeOf385
 v139:=Tryz.zeroValue385
 g3:=kr
 g4:=by kernel_rfl }
end Go.Proofs
namespace Go.Proofs.YtpjhmeicbjkcdaaGreatDoor
open Go Go.RowKit Go.Dw
theorem Mh {s:List Ch} {xo yo:Operand} {x y:Bool} {q:TV->Prop} (h:q (.v (.bool (x==y)))) :
  C9 Tryz.prog s (do eqGuard .eql 4 xo yo (.bool x) (.bool y);binOp .eql 4 (.bool x) (.bool y)) q:=by
 refine⟨_,λw _=>?_,h⟩;have hun:(underlying 4).run Tryz.prog w=.ok .bool w:=by simp[underlying,Tryz.underlying4]
 have hg:(eqGuard .eql 4 xo yo (.bool x) (.bool y)).run Tryz.prog w=.ok () w:=by simp[eqGuard]
 rw[Sem.run_bind,hg];simp only[Result.andThen_ok,binOp,Sem.run_bind];unfold Op.equal Op.maxDepth;rw[show (10000:Nat)=9999+1 from rfl];unfold Op.equalIn;simp only[Sem.run_bind,hun,Result.andThen_ok];rfl
def KE (p:Int->Bool) (x:ByteArray):Int:=match (x8 x.size).find? (λi=>p ((x.get! i).toNat:Int)) with
 | some i=>i
 | none=>-1
theorem XM {p:Int->Bool} {x:ByteArray} {k:Nat} (hk:k < x.size) (ho :∀i,i < k->p ((x.get! i).toNat:Int)=false) (h:p ((x.get! k).toNat:Int)=true):KE p x=k:=by
 unfold KE;have:(x8 x.size).find? (λi=>p ((x.get! i).toNat:Int))=some k:=by
  rw[List.find?_range_eq_some];exact⟨h,S6.2 hk,λj hj=>by rw[ho j hj];rfl⟩
 rw[this]
theorem TC {p:Int->Bool} {x:ByteArray} (ho :∀i,i < x.size->p ((x.get! i).toNat:Int)=false):KE p x = -1:=by
 unfold KE;have:(x8 x.size).find? (λi=>p ((x.get! i).toNat:Int))=none:=by
  rw[jP];intro i hi;rw[ho i (S6.1 hi)];simp
 rw[this]
theorem AW (g:Nat) (p:Int->Bool) (x:ByteArray) (w:World) (hp :∀w' (r:Int),j2 Tryz.prog g #[.int .i32 r] w' (v8 w' (.bool (p r)))) (hh :∀r:Int,128<=r->p r=true) :
  j2 Tryz.prog 209 #[.string x,.func (.func g) #[] #[],.bool true] w (v8 w (iQ (KE p x))):=by
 refine enterZ (cx 21) [.string x,.func (.func g) #[] #[],.bool true] [.tmp 6] Tryz.func209 ?_;refine PE cQ rfl rfl λb=>?_;refine z6.mk Nat (λ_=>[(1,.v (.func (.func g) #[] #[])),(2,.v (.bool true)),(10,.v (pQ b))]) (λk=>[.hp (Hp.whole w),.hp (Hp.one b (.stringIter x k))])
  (λk=>k<=x.size/\∀i,i < k->p ((x.get! i).toNat:Int)=false) (λk=>x.size - k) 0 ⟨j0 _,λi hi=>by omega⟩ (y6.mk (λ_ _ h=>h) rfl rfl) ?_
 rintro k ⟨hk,ho⟩;refine WX (i:=1) rfl (λhlt=>?_) λhge=>?_
 ·obtain⟨r,hr⟩ :∃r:Int,r=((Utf8.decode x k).1:Nat):=⟨_,rfl⟩
  refine k7 (.bool (p r)) (λw' hm=>by rw[hr];exact hp w' _) ?_;refine Mh ?_;have hb:128<=(x.get! k).toNat->p r=true:=λh=>hh r (by have:=Dw.decode_high (x:=x) (i:=k) h;omega);have hl:(x.get! k).toNat < 128->Utf8.decode x k=((x.get! k).toNat,1):=Dw.decode_low;refine v7 (λh=>?_) λh=>?_
  ·have hpr:p r=true:=by simpa using h
   have:p ((x.get! k).toNat:Int)=true:=by
    rcases M9 (x.get! k).toNat 128 with h1 | h1
    ·rw[hl h1] at hr;rw[<-hr];exact hpr
    ·exact hh _ om
   exact⟨[],⟨by rw[XM hlt ho this],rfl⟩,pk [0]⟩
  ·have hpr:p r=false:=by simpa using h
   have h1:(x.get! k).toNat < 128:=by
    rcases M9 (x.get! k).toNat 128 with h1 | h1
    ·exact h1
    ·rw[hb h1] at hpr;cases hpr
   rw[hl h1] at hr ⊢;have hr':r=((x.get! k).toNat:Int):=hr;rw[hr'] at hpr;exact⟨k+1,⟨om,λi hi=>by
    rcases M9 i k with h2 | h2
    ·exact ho i h2
    ·have:i=k:=om
     subst this;exact hpr⟩,om,y6.mk (λ_ _ h=>h) rfl rfl⟩
 ·exact⟨[],⟨by rw[TC λi hi=>ho i om],rfl⟩,pk [0]⟩
theorem tC (g:Nat) (p:Int->Bool) (x:ByteArray) (w:World) (hp :∀w' (r:Int),j2 Tryz.prog g #[.int .i32 r] w' (v8 w' (.bool (p r)))) (hh :∀r:Int,128<=r->p r=true) :
  j2 Tryz.prog 178 #[.string x,.func (.func g) #[] #[]] w (v8 w (iQ (KE p x))):=by
 refine enterZ (cx 8) [.string x,.func (.func g) #[] #[]] [.tmp 4] Tryz.func178 ?_;refine k7 _ (λw' _=>AW g p x w' hp hh) ?_;exact⟨[],⟨rfl,rfl⟩,λw' h=>h⟩
theorem XN (p:Int->Bool) (x:ByteArray):decide (KE p x>=0)=(x8 x.size).any λi=>p ((x.get! i).toNat:Int):=by
 unfold KE;cases h:(x8 x.size).find? (λi=>p ((x.get! i).toNat:Int)) with
 | none=>
  rw[jP] at h;symm
  rw[decide_eq_false dc,K8];intro i hi;exact h i hi
 | some i=>
  have:=List.find?_some h;have hm:=Ov h;dsimp only;rw[decide_eq_true om];symm
  rw[E5];exact⟨i,hm,this⟩
theorem nD (g:Nat) (p:Int->Bool) (x:ByteArray) (w:World) (hp :∀w' (r:Int),j2 Tryz.prog g #[.int .i32 r] w' (v8 w' (.bool (p r)))) (hh :∀r:Int,128<=r->p r=true) :
  j2 Tryz.prog 108 #[.string x,.func (.func g) #[] #[]] w (v8 w (.bool ((x8 x.size).any λi=>p ((x.get! i).toNat:Int)))):=by
 rw[<-XN];refine enterZ (cx 9) [.string x,.func (.func g) #[] #[]] [.tmp 4] Tryz.func108 ?_;refine k7 _ (λw' _=>tC g p x w' hp hh) ?_;exact⟨[],⟨rfl,rfl⟩,λw' h=>h⟩
theorem Oi (M:Nat) (hM:M < 18446744073709551616) :∀(l:d8) (acc:Nat),l.all k9=true->acc*10 ^ l.length+P6 l<=M->Lib.parseUintM M acc l=.ok (acc*10 ^ l.length+P6 l)
 | [],acc,_,_=>by
  show Lib.NumEnd.ok acc=.ok (acc*10 ^ 0+P6 [])
  congr 1
  simp[P6,fG]
 | c::r,acc,h,hle=>by
  rw[S3,j4] at h;have hc:=h.1;unfold k9 at hc;rw[j4,decide_eq_true_eq,decide_eq_true_eq] at hc;have e:P6 (c::r)=(c.toNat - 48)*10 ^ r.length+P6 r:=by
   unfold P6;have:=cO [c.toNat - 48] (r.map λc=>c.toNat - 48);rw[j6] at this;rw[M2];show fG ([c.toNat - 48]++_)=_
   rw[this];simp[fG]
  have e2:acc*10 ^ (r.length+1)+((c.toNat - 48)*10 ^ r.length+P6 r)=(acc*10+(c.toNat - 48))*10 ^ r.length+P6 r:=by
   rw[K6,D2,m8 (10 ^ r.length) 10,<-A0];omega
  have hl:(c::r).length=r.length+1:=rfl;rw[hl,e,e2] at hle ⊢;have hp:1<=10 ^ r.length:=qN dc;have h3:(acc*10+(c.toNat - 48))*1<=(acc*10+(c.toNat - 48))*10 ^ r.length:=x7 _ hp;unfold Lib.parseUintM;rw[if_pos ⟨hc.1,hc.2⟩,if_neg om,if_neg om];exact Oi M hM r _ h.2 hle
theorem BH {l:d8} (h:l.all k9=true):P6 l < 10 ^ l.length:=by
 unfold P6;have:=YN (l:=l.map λc=>c.toNat - 48) λd hd=>by
  obtain⟨c,hc,rfl⟩:=y7.1 hd;have:=s7.1 h c hc;unfold k9 at this;rw[j4,decide_eq_true_eq,decide_eq_true_eq] at this;omega
 rwa [j6] at this
theorem nR (s:d8) (h:s.all k9=true) (h0:0 < s.length) (h9:s.length<=9) (w:World):j2 Tryz.prog 257 #[sv s,iQ 10,iQ 32] w (v8 w (.tuple #[.int .u64 (P6 s:Nat),.nilIface])):=by
 have hlt:=BH h;have h10:10 ^ s.length<=10 ^ 9:=E9 dc h9;have hp:=Oi (2 ^ 32 - 1) dc s 0 h (by rw[bV,w7];omega);rw[bV,w7] at hp;have hu:Lib.parseUintB 32 (bs s).data.toList=.ok (P6 s):=by
  rw[lN];unfold Lib.parseUintB;rw[if_neg (by intro e;rw[e] at h0;cases h0)];exact hp
 have hcon:=Any.strconv_ParseUint_10_at32_ok Tryz.lPu (bs s) (by rw[C8];omega) (P6 s) hu w;change Calls Tryz.prog 257 _ _ _ at hcon
 refine gX (enters_of Tryz.func257 kr rfl _) hcon ?_;rintro e w' ⟨rfl,hw⟩;rcases hw with rfl | rfl
 ·exact⟨rfl,Below.refl _ _,j8 _⟩
 ·refine⟨rfl,?_,?_⟩
  ·exact Lib.below_freeze ((Below.refl w.heap.size w).drew.alloc (j8 _) _) (j8 _) _
  ·unfold Lib.bytesWorld World.freeze;split
   ·exact Nat.le_succ _
   ·exact Nat.le_succ _
theorem pR {f:UInt8->Bool} :∀{l:d8},l.dropWhile f = []↔l.all f=true
 | []=>by simp
 | c::l=>by
  rw[List.dropWhile_cons,S3];by_cases h:f c=true
  ·rw[if_pos h,h,D9];exact pR
  ·rw[if_neg h];constructor
   ·intro g;cases g
   ·intro g;rw[j4] at g;exact absurd g.1 h
theorem ID {l cs:d8}:Lib.trimS l cs = []↔l.all (λc=>cs.contains c)=true:=by
 unfold Lib.trimS Lib.trimLeftS;rw[pR];unfold Lib.trimRightS;rw[List.all_reverse];constructor
 ·intro h;have h2:(l.reverse.dropWhile λc=>cs.contains c) = []:=by
   cases hd:l.reverse.dropWhile (λc=>cs.contains c) with
   | nil=>rfl
   | cons c r=>
    have hn:cs.contains c=false:=by
     have:=List.head?_dropWhile_not (λc=>cs.contains c) l.reverse;rw[hd] at this;simpa using this
    rw[hd] at h;rw[S3,hn] at h;cases h
  rw[pR,List.all_reverse] at h2;exact h2
 ·intro h;rw[<-List.all_reverse,<-pR] at h;rw[h];rfl
theorem MD (s cs:d8) (hs:s.length < 1000000) (h2:2<=cs.length) (hcs:cs.length < 1000) (ha:cs.all (λb=>decide (b.toNat < 128))=true) (w:World):j2 Tryz.prog 213 #[sv s,sv cs] w (v8 w (sv (Lib.trimS s cs))):=by
 have he:=enters_of (args:=#[sv s,sv cs]) Tryz.func213 kr rfl;by_cases h0:s.length=0
 ·have hcon:=Any.strings_Trim_empty Tryz.lTr (bs s) (bs cs) w (.inl (by rw[C8];exact h0));change Calls Tryz.prog 213 _ _ _ at hcon
  refine gX he hcon ?_;rintro e w' ⟨rfl,rfl⟩;have:s = []:=w6 h0;subst this;exact⟨rfl,Below.refl _ _,j8 _⟩
 ·have h116:(Tryz.prog.info? (Tryz.lTr_ren.t 116)).map (λi=>(i.zero,i.size))=some (some (.agg (Array.replicate 256 (.bool false))),256):=kr
  have hcon:=Any.strings_Trim_set Tryz.lTr (zero_of_info h116).1 (zero_of_info h116).2 (bs s) (bs cs) w (by rw[C8];exact h2) (by rw[C8];omega) (by rw[C8];omega) (by rw[C8];omega) (by rw[lN];exact ascii_of_all ha);change Calls Tryz.prog 213 _ _ _ at hcon
  refine gX he hcon ?_;rintro e w' ⟨rfl,q,rfl⟩;refine⟨rfl,?_,?_⟩
  ·exact (((Below.refl _ _).alloc (j8 _) _).alloc sQ _).trans ⟨rfl,rfl,rfl,j8 _,λ_ _=>rfl⟩
  ·exact aN _ _
theorem ME (s:d8) (c:UInt8) (hs:s.length < 1000000) (ha:c.toNat < 128) (w:World):j2 Tryz.prog 213 #[sv s,sv [c]] w (v8 w (sv (Lib.trimS s [c]))):=by
 have he:=enters_of (args:=#[sv s,sv [c]]) Tryz.func213 kr rfl;have hcon:=Any.strings_Trim_one Tryz.lTr (bs s) c ha w (by rw[C8];omega);change Calls Tryz.prog 213 _ _ _ at hcon
 refine gX he hcon ?_;rintro e w' ⟨rfl,hw⟩;rw[Lib.trimS_one];rcases hw with rfl | rfl
 ·exact⟨rfl,Below.refl _ _,j8 _⟩
 ·exact⟨rfl,(Below.refl _ _).drew,Nat.le_succ _⟩
end Go.Proofs.YtpjhmeicbjkcdaaGreatDoor
namespace Go.Dw
open Go Go.RowKit
theorem Ez {P:Program} {s:List Ch} {ty:Nat} (a b:Nat) {k:IntKind} {x y:Int} (hx:x=a) (hy:y=b) (hb:0 < b) {q:TV->Prop} (h:q (.v (.int k ((a % b:Nat):Int)))):C9 P s (binOp .rem ty (.int k x) (.int k y)) q:=by
 subst hx hy;refine⟨_,λw _=>?_,h⟩;have h0 : ¬ b=0:=om
 rw[Int.natCast_emod];simp[binOp,Op.intDiv,h0];exact Ob (R6 _)
end Go.Dw
namespace Go.Proofs.YtpjhmeicbjkcdaaGreatDoor
open Go Go.RowKit Go.Dw
theorem AG (s:d8) (c:UInt8):Y0 s [c]=(decide (s.getD 0 0=c) && decide (0 < s.length)):=by
 cases s with
 | nil=>unfold Y0;simp
 | cons d r=>
  unfold Y0;rw[T7];simp
theorem CO (s:d8) (w:World):j2 Tryz.prog 134 #[sv s,sv [45]] w (v8 w (.tuple #[sv (M4 s),.bool (bH s)])):=by
 have h:=oL s [45] w;have e:Y0 s [45]=bH s:=AG s 45;rw[e] at h;exact h
theorem Ip (f:UInt8->Bool) (l:d8):((x8 (bs l).size).any λi=>f ((bs l).get! i))=l.any f:=by
 rw[T7,E5,E5];constructor
 ·rintro⟨i,hi,h⟩;have hi:i < l.length:=by rw[<-C8];exact S6.1 hi
  rw[OB hi] at h;exact⟨_,j5 hi,h⟩
 ·rintro⟨c,hc,h⟩;obtain⟨i,hi,rfl⟩:=qQ.1 hc;exact⟨i,S6.2 (by rw[C8];exact hi),by rw[OB hi];exact h⟩
def wV (r:Int):Bool:=decide (r < 48) || decide (r > 57)
theorem NF (c:UInt8):wV (c.toNat:Int) = !k9 c:=by
 unfold wV k9;rw[T7];simp;omega
theorem JC (r:Int) (w:World):j2 Tryz.prog 256 #[.int .i32 r] w (v8 w (.bool (wV r))):=by
 refine enterZ (cx 9) [.int .i32 r] [.tmp 2] Tryz.func256 ?_;refine d9 (λh1=>?_) λh1=>?_
 ·exact⟨[],⟨by unfold wV;rw[decide_eq_true h1];rfl,rfl⟩,pk [0]⟩
 ·exact⟨[],⟨by unfold wV;rw[decide_eq_false h1];rfl,rfl⟩,pk [0]⟩
theorem GZ (s:d8) (w:World):j2 Tryz.prog 108 #[sv s,.func (.func 256) #[] #[]] w (v8 w (.bool (s.any λc=>!k9 c))):=by
 have h:=nD 256 wV (bs s) w (λw' r=>JC r w') (λr hr=>by unfold wV;rw[decide_eq_true (show r > 57 by omega),lX]);have e:((x8 (bs s).size).any λi=>wV (((bs s).get! i).toNat:Int))=s.any λc=>!k9 c:=by
  rw[<-Ip];congr 1
  funext i
  exact NF _
 rw[e] at h;exact h
theorem aL (a b:d8):P6 (a++b)=P6 a*10 ^ b.length+P6 b:=by
 unfold P6;rw[E1,cO,j6]
theorem QO {l:d8} (h:l.all k9=true) (h0:0 < l.length) (h1:l.getD 0 0≠48):0 < P6 l:=by
 unfold P6;refine Dk (λd hd=>?_) (by rw[j6];exact h0) ?_
 ·obtain⟨c,hc,rfl⟩:=y7.1 hd;have:=s7.1 h c hc;unfold k9 at this;rw[j4,decide_eq_true_eq,decide_eq_true_eq] at this;omega
 ·cases l with
  | nil=>cases h0
  | cons c r=>
   have hc:=s7.1 h c sQ;unfold k9 at hc;rw[j4,decide_eq_true_eq,decide_eq_true_eq] at hc;intro e;have e:c.toNat - 48=0:=e;apply h1;show c=48
   apply UInt8.toNat_inj.1;show c.toNat=48
   omega
theorem yL (h:Hp):cA h zl 0:=⟨_,_,_,[],rfl,Sl.nil _ _ _ _ _,fX.nil,sQ⟩
def Lh (s:d8) (g:Hp) (v:Value):Prop:=∃neg a n c m,v=.tuple #[T8 neg a n c,iQ (R4 s)]/\cA g (.slice a n c) m/\(neg=true->0 < m)/\(R4 s=0->neg=bH s/\m=P6 (M4 s))/\(R4 s≠0->neg=false/\m=0)
theorem AI {s:d8} (h:R4 s≠0) (g:Hp):Lh s g (.tuple #[T8 false none 0 0,iQ (R4 s)]):=
 ⟨false,none,0,0,0,rfl,yL g,nofun,λe=>absurd e h,λ_=>⟨rfl,rfl⟩⟩
set_option maxRecDepth 10000 in
theorem jH (s:d8) (hs:s.length < 1000000000) (w:World) :
  j2 Tryz.prog 214 #[sv s] w (fQ w λv cs=>∃g,cs = [.hp g]/\Lh s g v):=by
 have hsz:=C8 s;refine enterZ (cx 71) [sv s] [.cell 2 139,.tmp 3] Tryz.func214 ?_;intro b2;refine d9 (λh1=>?_) λh1=>?_
 ·have e:R4 s=5:=by unfold R4;rw[if_pos om]
  exact⟨[.hp Hp.emp],⟨_,rfl,by have:=AI (s:=s) (by rw[e];decide) Hp.emp;rw[e] at this;exact this⟩,λw' h=>(h.pick [0] rfl rfl).emp⟩
 ·refine k7 _ (λw' hm=>CO s w') ?_;generalize hD:M4 s=D;generalize hB:bH s=B;have hDl:D.length<=s.length:=by rw[<-hD];unfold M4;split <;> simp
  have hDz:=C8 D;refine dL (b:=[]) ?_;refine d9 (λh2=>?_) λh2=>?_;focus
   have e:R4 s=14:=by unfold R4;rw[if_neg om,hD,if_pos (.inl h2)]
  rotate_left
  focus
   refine k7 _ (λw' hm=>GZ D w') ?_;refine v7 (λh3=>?_) λh3=>?_;focus
    have e:R4 s=14:=by unfold R4;rw[if_neg om,hD,if_pos (.inr h3)]
   rotate_left
   ·have hall:D.all k9=true:=by
     rw[s7];intro c hc;have:=K8.1 h3 c hc;simpa using this
    have hE:R4 s=if D.getD 0 0=48/\(1 < D.length\/B=true) then 3 else 0:=by
     have hno : ¬ (M4 s = []\/(M4 s).any (λc=>!k9 c)=true):=by
      rw[hD,h3];intro g;rcases g with g | g
      ·exact h2 g
      ·cases g
     unfold R4;rw[if_neg om,if_neg hno,hD,hB]
    have h0:0 < D.length:=D1.2 h2;refine aB cQ rfl rfl 0 rfl h0 ?_;refine d9 (λh5=>?_) λh5=>?_
    ·have h5:D.getD 0 0=48:=UInt8.toNat_inj.1 (by show (D.getD 0 0).toNat=48;omega);refine d9 (λh6=>?_) λh6=>?_;focus
      have e:R4 s=3:=by rw[hE,if_pos ⟨h5,.inl om⟩]
     rotate_left
     focus
      refine v7 (λh7=>?_) λh7=>?_;focus
       have e:R4 s=3:=by rw[hE,if_pos ⟨h5,.inr h7⟩]
      rotate_left
      ·have he:R4 s=0:=by
        rw[hE,if_neg];intro g;rcases g.2 with g | g
        ·omega
        ·rw[h7] at g;cases g
       have hneg:B=true->0 < P6 D:=λg=>by rw[h7] at g;cases g
       refine z6.mk (Nat×(Option Addr×Nat×Nat)×List Nat×Hp) (λg=>[(2,.bx 1 0),(4,.v (sv (D.drop g.1))),(5,.v (.bool B)),(6,.v (.slice g.2.1.1 g.2.1.2.1 g.2.1.2.2))]) (λg=>[.hp (Hp.whole w),.box b2 [.bool false,zl] 139,.hp g.2.2.2])
        (λg=>g.1<=D.length/\Sl (E0 fW) 1 g.2.2.2 g.2.1.1 g.2.1.2.1 g.2.1.2.2 g.2.2.1/\fX g.2.2.1 (P6 (D.take g.1))/\g.2.2.1.length<=g.1) (λg=>D.length - g.1) (0,(none,0,0),[],Hp.emp) ⟨j0 _,Sl.nil _ _ _ _ _,fX.nil,j8 _⟩ (y6.mk (λ_ _ h=>h.emp) rfl rfl) ?_
       rintro⟨k,⟨ax,nx,cx'⟩,L,G⟩ ⟨hk,hL,hC,hLl⟩;dsimp only at *;have hrl:=C8 (D.drop k);rw[j9] at hrl;refine d9 (λh8=>?_) λh8=>?_
       ·have hk':k < D.length:=om
        obtain⟨n,hn⟩ :∃n,n=(D.length - k - 1) % 9+1:=⟨_,rfl⟩
        have hn9:n<=9:=om
        have hnk:k+n<=D.length:=om
        refine nwo ?_;refine Ez (D.length - k - 1) 9 om rfl dc ?_;refine AK (y:=((n:Nat):Int)) om om om ?_;refine z6.mk (Nat×Int) (λg=>[(2,.bx 1 0),(4,.v (sv (D.drop k))),(5,.v (.bool B)),(6,.v (.slice ax nx cx')),(7,.v (iQ n)),(8,.v (.int .u32 ((10 ^ g.1:Nat):Int))),(47,.v (iQ n)),(48,.v (iQ g.2))]) (λ_=>[.hp (Hp.whole w),.box b2 [.bool false,zl] 139,.hp G])
         (λg=>g.1<=n/\g.2=g.1) (λg=>n - g.1) (0,0) ⟨j0 _,rfl⟩ (y6.mk (λ_ _ h=>h) rfl rfl) ?_
        rintro⟨j,zj⟩ ⟨hj,hzj⟩;dsimp only at *;have hpj:10 ^ j<=10 ^ 9:=E9 dc om;refine d9 (λh9=>?_) λh9=>?_
        ·have hpj1:10 ^ (j+1)<=10 ^ 9:=E9 dc om;refine rH (10 ^ (j+1)) (by rw[K6];simp) om ?_;refine nwo ?_;exact⟨(j+1,zj+1),⟨by dsimp only;omega,by dsimp only;omega⟩,by dsimp only;omega,y6.mk (λ_ _ h=>h) rfl rfl⟩
        ·have hjn:j=n:=om
         subst hjn;have hgl:((D.drop k).take j).length=j:=by rw[j1,j9];omega
         have hga:((D.drop k).take j).all k9=true:=by
          rw[s7] at hall ⊢;exact λc hc=>hall c (A8 (A7 hc))
         have hgv:=BH hga;rw[hgl] at hgv;refine nN cQ rfl rfl 0 j (.inl ⟨rfl,rfl⟩) (.inr ⟨_,_,rfl,rfl⟩) om (by rw[j9];omega) ?_;rw[G6];refine k7 _ (λw' hm=>nR ((D.drop k).take j) hga om om w') ?_;refine rH (P6 ((D.drop k).take j)) rfl om ?_;refine call (λw' hm=>zX w' (10 ^ j) (P6 ((D.drop k).take j)) (hL.mono (j7 _) (hm 2 _ rfl)) hC om (by unfold Bs;omega) (by unfold Bs;omega)) ?_;rintro _ _ ⟨g,a',n',c',L',rfl,rfl,hL',hC',hl'⟩;refine nN cQ rfl rfl j (D.drop k).length (.inr ⟨_,_,rfl,rfl⟩) (.inl ⟨rfl,rfl⟩) (by rw[j9];omega) (j8 _) ?_;rw[q8,J7];have et:P6 (D.take k)*10 ^ j+P6 ((D.drop k).take j)=P6 (D.take (k+j)):=by
          rw[UW,aL,hgl]
         rw[et] at hC';exact⟨(k+j,(a',n',c'),L',g),⟨by dsimp only;omega,hL',hC',by dsimp only;omega⟩,by dsimp only;omega,y6.mk (pj [0,1,3]) rfl rfl⟩
       ·have hkl:k=D.length:=om
        subst hkl;rw[q8] at hC;refine k7 _ (λw' hm=>aU B w' (hL.mono (j7 _) (hm 2 _ rfl)) om) ?_;rw[hC.trN];have hb:(B && decide (0 < L.length))=B:=by
         cases hBB:B with
         | false=>rfl
         | true=>
          have:=hneg hBB;rw[decide_eq_true (E4 λe=>by
           have:=hC.zero.2 (w6 e);omega)];rfl
        rw[hb];have hLn:=hL.len;subst hLn;exact⟨[.hp G],⟨G,rfl,B,ax,L.length,cx',P6 D,by rw[he];rfl,⟨_,_,_,L,rfl,hL,hC,om⟩,hneg,λ_=>⟨by rw[hB],by rw[hD]⟩,λg=>absurd he g⟩,pk [0,2]⟩
     all_goals
      exact⟨[.hp Hp.emp],⟨_,rfl,by have:=AI (s:=s) (by rw[e];decide) Hp.emp;rw[e] at this;exact this⟩,λw' h=>(h.pick [0] rfl rfl).emp⟩
    ·have h5 : ¬ D.getD 0 0=48:=λg=>h5 (by rw[g];rfl);have he:R4 s=0:=by rw[hE,if_neg (λg=>h5 g.1)]
     have hneg:B=true->0 < P6 D:=λ_=>QO hall h0 h5;refine z6.mk (Nat×(Option Addr×Nat×Nat)×List Nat×Hp) (λg=>[(2,.bx 1 0),(4,.v (sv (D.drop g.1))),(5,.v (.bool B)),(6,.v (.slice g.2.1.1 g.2.1.2.1 g.2.1.2.2))]) (λg=>[.hp (Hp.whole w),.box b2 [.bool false,zl] 139,.hp g.2.2.2])
      (λg=>g.1<=D.length/\Sl (E0 fW) 1 g.2.2.2 g.2.1.1 g.2.1.2.1 g.2.1.2.2 g.2.2.1/\fX g.2.2.1 (P6 (D.take g.1))/\g.2.2.1.length<=g.1) (λg=>D.length - g.1) (0,(none,0,0),[],Hp.emp) ⟨j0 _,Sl.nil _ _ _ _ _,fX.nil,j8 _⟩ (y6.mk (λ_ _ h=>h.emp) rfl rfl) ?_
     rintro⟨k,⟨ax,nx,cx'⟩,L,G⟩ ⟨hk,hL,hC,hLl⟩;dsimp only at *;have hrl:=C8 (D.drop k);rw[j9] at hrl;refine d9 (λh8=>?_) λh8=>?_
     ·have hk':k < D.length:=om
      obtain⟨n,hn⟩ :∃n,n=(D.length - k - 1) % 9+1:=⟨_,rfl⟩
      have hn9:n<=9:=om
      have hnk:k+n<=D.length:=om
      refine nwo ?_;refine Ez (D.length - k - 1) 9 om rfl dc ?_;refine AK (y:=((n:Nat):Int)) om om om ?_;refine z6.mk (Nat×Int) (λg=>[(2,.bx 1 0),(4,.v (sv (D.drop k))),(5,.v (.bool B)),(6,.v (.slice ax nx cx')),(7,.v (iQ n)),(8,.v (.int .u32 ((10 ^ g.1:Nat):Int))),(47,.v (iQ n)),(48,.v (iQ g.2))]) (λ_=>[.hp (Hp.whole w),.box b2 [.bool false,zl] 139,.hp G])
       (λg=>g.1<=n/\g.2=g.1) (λg=>n - g.1) (0,0) ⟨j0 _,rfl⟩ (y6.mk (λ_ _ h=>h) rfl rfl) ?_
      rintro⟨j,zj⟩ ⟨hj,hzj⟩;dsimp only at *;have hpj:10 ^ j<=10 ^ 9:=E9 dc om;refine d9 (λh9=>?_) λh9=>?_
      ·have hpj1:10 ^ (j+1)<=10 ^ 9:=E9 dc om;refine rH (10 ^ (j+1)) (by rw[K6];simp) om ?_;refine nwo ?_;exact⟨(j+1,zj+1),⟨by dsimp only;omega,by dsimp only;omega⟩,by dsimp only;omega,y6.mk (λ_ _ h=>h) rfl rfl⟩
      ·have hjn:j=n:=om
       subst hjn;have hgl:((D.drop k).take j).length=j:=by rw[j1,j9];omega
       have hga:((D.drop k).take j).all k9=true:=by
        rw[s7] at hall ⊢;exact λc hc=>hall c (A8 (A7 hc))
       have hgv:=BH hga;rw[hgl] at hgv;refine nN cQ rfl rfl 0 j (.inl ⟨rfl,rfl⟩) (.inr ⟨_,_,rfl,rfl⟩) om (by rw[j9];omega) ?_;rw[G6];refine k7 _ (λw' hm=>nR ((D.drop k).take j) hga om om w') ?_;refine rH (P6 ((D.drop k).take j)) rfl om ?_;refine call (λw' hm=>zX w' (10 ^ j) (P6 ((D.drop k).take j)) (hL.mono (j7 _) (hm 2 _ rfl)) hC om (by unfold Bs;omega) (by unfold Bs;omega)) ?_;rintro _ _ ⟨g,a',n',c',L',rfl,rfl,hL',hC',hl'⟩;refine nN cQ rfl rfl j (D.drop k).length (.inr ⟨_,_,rfl,rfl⟩) (.inl ⟨rfl,rfl⟩) (by rw[j9];omega) (j8 _) ?_;rw[q8,J7];have et:P6 (D.take k)*10 ^ j+P6 ((D.drop k).take j)=P6 (D.take (k+j)):=by
        rw[UW,aL,hgl]
       rw[et] at hC';exact⟨(k+j,(a',n',c'),L',g),⟨by dsimp only;omega,hL',hC',by dsimp only;omega⟩,by dsimp only;omega,y6.mk (pj [0,1,3]) rfl rfl⟩
     ·have hkl:k=D.length:=om
      subst hkl;rw[q8] at hC;refine k7 _ (λw' hm=>aU B w' (hL.mono (j7 _) (hm 2 _ rfl)) om) ?_;rw[hC.trN];have hb:(B && decide (0 < L.length))=B:=by
       cases hBB:B with
       | false=>rfl
       | true=>
        have:=hneg hBB;rw[decide_eq_true (E4 λe=>by
         have:=hC.zero.2 (w6 e);omega)];rfl
      rw[hb];have hLn:=hL.len;subst hLn;exact⟨[.hp G],⟨G,rfl,B,ax,L.length,cx',P6 D,by rw[he];rfl,⟨_,_,_,L,rfl,hL,hC,om⟩,hneg,λ_=>⟨by rw[hB],by rw[hD]⟩,λg=>absurd he g⟩,pk [0,2]⟩
  all_goals
   exact⟨[.hp Hp.emp],⟨_,rfl,by have:=AI (s:=s) (by rw[e];decide) Hp.emp;rw[e] at this;exact this⟩,λw' h=>(h.pick [0] rfl rfl).emp⟩
end Go.Proofs.YtpjhmeicbjkcdaaGreatDoor
namespace Go.Proofs
open Go.Shelf
def Tryz.lIt_ren:Go.Shelf.Ren:=⟨λ| 171=>58 | 243=>132 | 246=>187 | 283=>219 | 284=>220 | 285=>221 | 286=>222 | 129=>263 | 317=>262 | 318=>264 | 319=>265 | 320=>266 | 337=>292 | 338=>293 | n=>n,λ| 3=>3 | 9=>9 | 2=>2 | 4=>4 | 171=>281 | 0=>0 | 53=>248 | 37=>68 | 5=>5 | 173=>284 | 212=>319 | 51=>247 | 20=>20 | 213=>320 | 46=>135 | 232=>375 | 233=>376 | n=>n,λ| 17=>0 | 18=>3 | 19=>4 | n=>n⟩
theorem Tryz.lIt:Go.Proofs.LaysM.n171 Tryz.prog Tryz.lIt_ren:={
 mixed:=kr
 f129:=Tryz.func263.trans (congrArg some kr)
 f171:=Tryz.func58.trans (congrArg some kr)
 f243:=Tryz.func132.trans (congrArg some kr)
 f246:=Tryz.func187.trans (congrArg some kr)
 f283:=Tryz.func219.trans (congrArg some kr)
 f284:=Tryz.func220.trans (congrArg some kr)
 f285:=Tryz.func221.trans (congrArg some kr)
 f286:=Tryz.func222.trans (congrArg some kr)
 f317:=Tryz.func262.trans (congrArg some kr)
 f318:=Tryz.func264.trans (congrArg some kr)
 f319:=Tryz.func265.trans (congrArg some kr)
 f320:=Tryz.func266.trans (congrArg some kr)
 f337:=Tryz.func292.trans (congrArg some kr)
 f338:=Tryz.func293.trans (congrArg some kr)
 t0:=Tryz.underlying0
 a0:=Tryz.isAgg0
 z0:=Tryz.sizeOf0
 v0:=Tryz.zeroValue0
 t2:=Tryz.underlying2
 a2:=Tryz.isAgg2
 z2:=Tryz.sizeOf2
 v2:=Tryz.zeroValue2
 t3:=Tryz.underlying3
 a3:=Tryz.isAgg3
 z3:=Tryz.sizeOf3
 v3:=Tryz.zeroValue3
 t4:=Tryz.underlying4
 a4:=Tryz.isAgg4
 z4:=Tryz.sizeOf4
 v4:=Tryz.zeroValue4
 t5:=Tryz.underlying5
 a5:=Tryz.isAgg5
 z5:=Tryz.sizeOf5
 v5:=Tryz.zeroValue5
 t9:=Tryz.underlying9
 a9:=Tryz.isAgg9
 z9:=Tryz.sizeOf9
 v9:=Tryz.zeroValue9
 t20:=Tryz.underlying20
 a20:=Tryz.isAgg20
 z20:=Tryz.sizeOf20
 v20:=Tryz.zeroValue20
 t37:=Tryz.underlying68
 a37:=Tryz.isAgg68
 z37:=Tryz.sizeOf68
 v37:=Tryz.zeroValue68
 t46:=Tryz.underlying135
 a46:=Tryz.isAgg135
 z46:=Tryz.sizeOf135
 v46:=Tryz.zeroValue135
 t51:=Tryz.underlying247
 a51:=Tryz.isAgg247
 z51:=Tryz.sizeOf247
 v51:=Tryz.zeroValue247
 t53:=Tryz.underlying248
 a53:=Tryz.isAgg248
 z53:=Tryz.sizeOf248
 v53:=Tryz.zeroValue248
 t171:=Tryz.underlying281
 a171:=Tryz.isAgg281
 z171:=Tryz.sizeOf281
 v171:=Tryz.zeroValue281
 t173:=Tryz.underlying284
 a173:=Tryz.isAgg284
 z173:=Tryz.sizeOf284
 v173:=Tryz.zeroValue284
 t212:=Tryz.underlying319
 a212:=Tryz.isAgg319
 z212:=Tryz.sizeOf319
 v212:=Tryz.zeroValue319
 t213:=Tryz.underlying320
 a213:=Tryz.isAgg320
 z213:=Tryz.sizeOf320
 t232:=Tryz.underlying375
 a232:=Tryz.isAgg375
 z232:=Tryz.sizeOf375
 v232:=Tryz.zeroValue375
 t233:=Tryz.underlying376
 a233:=Tryz.isAgg376
 z233:=Tryz.sizeOf376
 v233:=Tryz.zeroValue376
 g17:=kr
 g18:=kr
 g19:=kr
 i0:=kr
 i2:=kr
 i3:=kr
 i4:=kr
 i5:=kr
 i9:=kr
 i20:=kr
 i37:=kr
 i46:=kr
 i51:=kr
 i53:=kr
 i171:=kr
 i173:=kr
 i212:=kr
 i232:=kr
 i233:=kr
 m17:=kr
 m18:=kr
 m19:=by kernel_rfl }
end Go.Proofs
namespace Go.Proofs.YtpjhmeicbjkcdaaGreatDoor
open Go Go.RowKit Go.Dw
def dY (h:Hp):Prop:=∃o,h 0=some o/\∀w:World,w.heap[0]?=some o->Lib.TabIs Tryz.prog w "internal/strconv.uint64pow10" .u64 Lib.pow10Tab
theorem dY.mono {h k:Hp} (ht:dY h) (l:h.le k):dY k:=by
 obtain⟨o,h1,h2⟩:=ht;exact⟨o,l _ _ h1,h2⟩
theorem dY.at {w:World} (ht:dY (Hp.whole w)):Lib.TabIs Tryz.prog w "internal/strconv.uint64pow10" .u64 Lib.pow10Tab:=by
 obtain⟨o,h1,h2⟩:=ht;exact h2 w h1
theorem dY.of {w:World} (h:Lib.TabIs Tryz.prog w "internal/strconv.uint64pow10" .u64 Lib.pow10Tab):dY (Hp.whole w):=by
 have hg:Tryz.prog.globalNamed "internal/strconv.uint64pow10" = some 0:=kr
 unfold Lib.TabIs World.var? at h;rw[hg] at h;simp only[Option.bind_some] at h;cases ho:w.heap[0]? with
 | none=>rw[ho] at h;cases h
 | some o=>
  refine⟨o,ho,λw' hw=>?_⟩;unfold Lib.TabIs World.var?;rw[hg,Option.bind_some,hw];rw[ho] at h;exact h
theorem SS (n:Nat) (hn:n<=9223372036854775807) (w:World) (hP:dY (Hp.whole w)):j2 Tryz.prog 58 #[iQ n] w (v8 w (sv (Lib.decDigits n))):=by
 have hcon:=Any.strconv_Itoa Tryz.lIt (n:Int) om om w hP.at;change Calls Tryz.prog 58 _ _ _ at hcon
 refine⟨enters_of (args:=#[iQ n]) Tryz.func58 kr rfl,hcon.mono ?_⟩;rintro e w' ⟨rfl,k,os,rfl⟩;have e1:(⟨(Lib.itoa (n:Int)).toArray⟩:ByteArray)=bs (Lib.decDigits n):=by rw[Lib.itoa_nonneg];rfl
 rw[e1];refine v8.ofBelow rfl ⟨rfl,rfl,rfl,?_,λj hj=>?_⟩
 ·show w.heap.size<=(w.heap++os).size
  rw[Array.size_append];omega
 ·exact Sort.heap_grow_old (w.drewN k) os hj
theorem KW {u:Nat} (h : ¬ u < 10):Lib.decDigits u=Lib.decDigits (u / 10)++[UInt8.ofNat (48+u % 10)]:=by rw[Lib.decDigits,dif_neg h]
theorem YM {d:Nat} (h:d < 10):k9 (UInt8.ofNat (48+d))=true/\(UInt8.ofNat (48+d)).toNat - 48=d:=by
 have e:(UInt8.ofNat (48+d)).toNat=48+d:=by
  rw[UInt8.toNat_ofNat'];omega
 unfold k9;rw[e,j4,decide_eq_true_eq,decide_eq_true_eq];omega
theorem bS :∀u:Nat,(Lib.decDigits u).all k9=true/\P6 (Lib.decDigits u)=u/\0 < (Lib.decDigits u).length/\(0 < u->(Lib.decDigits u).getD 0 0≠48)/\∀k,0 < k->u < 10 ^ k->(Lib.decDigits u).length<=k:=by
 intro u;induction u using sI with
 | _ u ih=>
  by_cases h:u < 10
  ·rw[Lib.decDigits_one h];obtain⟨h1,h2⟩:=YM h;refine⟨by rw[S3,h1];rfl,?_,sQ,λh0 e=>?_,λk hk _=>by simp;omega⟩
   ·show fG [(UInt8.ofNat (48+u)).toNat - 48]=u
    rw[h2];show 10*0+u=u;omega
   ·have e:UInt8.ofNat (48+u)=48:=e;rw[e] at h2;have:(48:UInt8).toNat - 48=0:=rfl;omega
  ·obtain⟨i1,i2,i3,i4,i5⟩:=ih (u / 10) om;obtain⟨h1,h2⟩:=YM (show u % 10 < 10 by omega);rw[KW h];refine⟨by rw[sL,i1,S3,h1];rfl,?_,sQ,λ_=>?_,λk hk hu=>?_⟩
   ·rw[aL,i2];have:P6 [UInt8.ofNat (48+u % 10)]=u % 10:=by
     show fG [(UInt8.ofNat (48+u % 10)).toNat - 48]=_
     rw[h2];show 10*0+u % 10=_;omega
    rw[this];simp;omega
   ·have:=i4 om;cases hd:Lib.decDigits (u / 10) with
    | nil=>rw[hd] at i3;cases i3
    | cons c r=>rw[hd] at this;exact this
   ·obtain⟨m,rfl⟩ :∃m,k=m+1:=⟨k - 1,om⟩
    rw[d6,p7];rcases u9 m with hm | hm
    ·subst hm;simp at hu;omega
    ·have:=i5 m hm (by rw[K6] at hu;omega);omega
end Go.Proofs.YtpjhmeicbjkcdaaGreatDoor
namespace Go.Proofs.YtpjhmeicbjkcdaaGreatDoor
open Go
abbrev V3:=Int×Int×Int
abbrev OF:=Int×d8
abbrev uZ:=d8×List OF
inductive Ex where
 | mk (op:Int) (f:uZ) (fac:d8) (args:List Ex)
abbrev V9:=d8×Int×List (List V3)
abbrev lW:=d8×d8×(Int×Int×Int×Int)×(d8×d8×d8)
abbrev O7:=d8×Int×Int×Int
abbrev kT:=d8×uZ
abbrev kP:=d8×Ex×d8×d8
structure kR where
 nm:d8
 parts:List V9
 insts:List lW
 dims:List O7
 cons:List kT
 reqs:List kP
def qE (f:Nat->Int):Nat->Int
 | 0=>0
 | n+1=>if qE f n≠0 then qE f n else f n
theorem Y4 {f:Nat->Int} :∀{n:Nat},qE f n=0↔∀j,j < n->f j=0
 | 0=>⟨λ_ j h=>absurd h (M1 _),λ_=>rfl⟩
 | n+1=>by
  unfold qE;by_cases h:qE f n=0
  ·rw[if_neg (λg=>g h)];constructor
   ·intro h2 j hj;by_cases e:j=n
    ·subst e;exact h2
    ·exact Y4.1 h j om
   ·intro h2;exact h2 n om
  ·rw[if_pos h];constructor
   ·intro h2;exact absurd h2 h
   ·intro h2;exact absurd (Y4.2 λj hj=>h2 j om) h
theorem yP {f:Nat->Int} {i:Nat} (h :∀j,j < i->f j=0) (hi:f i≠0) :∀{n:Nat},i < n->qE f n=f i
 | 0,hn=>absurd hn (M1 _)
 | n+1,hn=>by
  unfold qE;by_cases e:i=n
  ·subst e;rw[if_neg (λg=>g (Y4.2 h))]
  ·have:=yP h hi (n:=n) om;rw[this,if_pos hi]
def qB (a b:Int):Int:=if a≠0 then a else b
theorem iL {a b:Int} (h:a≠0):qB a b=a:=if_pos h
theorem O5 {b:Int}:qB 0 b=b:=if_neg (λh=>h rfl)
def yC (c:UInt8):Bool:=decide (c.toNat < 33) || decide (126 < c.toNat)
def D8 (s:d8):Bool:=decide (s≠[]) && (decide (s.length<=40) && !s.any yC)
def aF (n most:Int):Bool:=decide (n < -most) || decide (n > most)
def H5 (s:d8):Int:=X9 400 s
def xT (names:List d8) (s:d8):Int:=if D8 s=false then 11 else if s∈names then 9 else 0
def vE (v:V3):Bool:=aF v.1 4096 || (aF v.2.1 4096 || aF v.2.2 4096)
def LE (c:List V3):Int:=if 16 < c.length then 6 else if c.any vE=true then 2 else 0
def xR (p:V9):Int:=if p.2.1 < 1\/1048576 < p.2.1 then 2 else if 6 < p.2.2.length then 6 else qE (λi=>LE (p.2.2.getD i [])) p.2.2.length
def xX (parts:List d8) (x:lW):Int:=
 if x.2.1∉parts then 16
 else if (aF x.2.2.1.1 12 || (aF x.2.2.1.2.1 12 || (aF x.2.2.1.2.2.1 12 || aF x.2.2.1.2.2.2 12)))=true then 2
 else qB (H5 x.2.2.2.1) (qB (H5 x.2.2.2.2.1) (H5 x.2.2.2.2.2))
def xZ (d:O7):Int:=if (aF d.2.1 1073741824 || (aF d.2.2.1 1073741824 || aF d.2.2.2 1073741824))=true then 2 else if d.2.2.2 < d.2.2.1 then 8 else 0
def zN (n:Int) (l:List OF) (i:Nat):Int:=
 let t:=l.getD i (0,[])
 if t.1 < 0\/n<=t.1 then 10 else if 0 < i/\t.1<=(l.getD (i - 1) (0,[])).1 then 8 else if H5 t.2≠0 then H5 t.2 else if t.2 = [48] then 19 else 0
def oE (n:Int) (f:uZ):Int:=if H5 f.1≠0 then H5 f.1 else if 64 < f.2.length then 6 else qE (zN n f.2) f.2.length
def jC (n:Int) (op:Int) (f:uZ) (fac:d8) (k:Nat):Int:=
 if op < 0\/5 < op then 12
 else if op=0 then (if 0 < k\/fac≠[] then 3 else oE n f)
 else if (f.1≠[]\/0 < f.2.length)\/(fac≠[]/\op≠2) then 3
 else if k=0\/((op=2\/op=5)/\1 < k) then 13
 else if op=2 then H5 fac else 0
def W5 (g:Nat->Ex->Int×Nat):Nat->List Ex->Int×Nat
 | k,[]=>(0,k)
 | k,x::r=>if (g k x).1≠0 then g k x else W5 g (g k x).2 r
def M5 (n:Int):Nat->Nat->Ex->Int×Nat
 | 0,k,_=>(15,k)
 | d+1,k,.mk op f fac args=>if 64<=k then (6,k) else if jC n op f fac args.length≠0 then (jC n op f fac args.length,k+1) else W5 (M5 n d) (k+1) args
def AZ (n:Int) (x:Ex):Int:=(M5 n 8 0 x).1
def dI (s:d8):Int:=let m:Int:=P6 (M4 (J6 s).1);if bH (J6 s).1=true then -m else m
def dJ (s:d8):Int:=if (J6 s).2.2=true then P6 (J6 s).2.1 else 1
def xP (n:Int) (r:kP):Int:=
 qB (AZ n r.2.1) (qB (if r.2.2.1 = [] then 0 else H5 r.2.2.1) (qB (if r.2.2.2 = [] then 0 else H5 r.2.2.2)
  (if (r.2.2.1≠[]/\r.2.2.2≠[])/\dI r.2.2.2*dJ r.2.2.1 < dI r.2.2.1*dJ r.2.2.2 then 8 else 0)))
def bA {α:Type} (most:Nat) (l:List α) (nm:α->d8) (f:α->Int):Int:=
 if most < l.length then 6 else qE (λi=>match l[i]? with | some x=>qB (xT ((l.take i).map nm) (nm x)) (f x) | none=>0) l.length
def LD (p:kR):Int:=
 if D8 p.nm=false then 11
 else qB (bA 64 p.parts (·.1) xR) (qB (bA 12 p.insts (·.1) (xX (p.parts.map (·.1)))) (qB (bA 64 p.dims (·.1) xZ) (qB (bA 64 p.cons (·.1) λc=>oE p.dims.length c.2) (bA 64 p.reqs (·.1) (xP p.dims.length)))))
end Go.Proofs.YtpjhmeicbjkcdaaGreatDoor
namespace Go.Dw
open Go Go.RowKit
theorem Ok.boxSet {w0 w:World} {s:List Ch} (hok:Ok w0 s w) {i b T:Nat} {cs:List Value} (hi:l7 s i=some (.box b cs T)) (j:Nat) (v:Value):Ok w0 (w8 s i (.box b (cs.set j v) T)) (w.setCell ⟨b,j,none⟩ v):=by
 have hblk:w.heap[b]?=some (.cells cs.toArray T (0,0)):=hok.mem i _ hi b _ (Hp.one_self b _);rw[setCell_eq_setRow w b j cs.toArray T (0,0) v hblk];have e:cs.toArray.setIfInBounds j v=(cs.set j v).toArray:=sQ
 rw[e];refine hok.upd hi _ rfl rfl rfl (by simp[World.setRow]) (j8 _) (λk _ hk=>setRow_other w b k _ λe=>?_) ?_ (λk hk=>.inl ?_)
 ·subst e;rw[show (Ch.box k cs T).h k=some _ from Hp.one_self k _] at hk;cases hk
 ·intro k o hk;simp only[Ch.h,Hp.one] at hk;split at hk
  ·rename_i e;subst e;cases hk
   exact setRow_heap w k _ _ _ _ hblk
  ·cases hk
 ·simp only[Ch.h,Hp.one] at hk ⊢;split at hk
  ·rename_i e;subst e;rw[if_pos rfl];simp
  ·exact absurd rfl hk
section
variable {X:Q2} {s:List Ch}
theorem Kq {α:Type} {f:α->List Value} (hX:X.Good) {T ST e ty:Nat} {te:TI} (hT:bQ X T=some (e,te)) (h1:te.size=1) (hf :∀x,(f x).length=1) {i:Nat} {o:Os} (hi:l7 s i=some (.hp o.h)) {b k:Nat} (hb:o.a=some ⟨b,0,none⟩) {L M:List α} (ho:w5 f e 1 o L) (hk:k+M.length<=L.length) (hM:M≠[])
  {a:Addr} {c' m sc:Nat} (hm:m=M.length) (hsrc :∀w,iE s w->∀j v,(M.flatMap f)[j]?=some v->w.cell? (a.add j)=some v) (hone:Z7 (M.flatMap f)=true) {q:TV->List Ch->Prop}
  (hq :∀o',o'.a=o.a->o'.n=o.n->o'.c=o.c->w5 f e 1 o' (L.take k++M++L.drop (k+M.length))->q (.v (iQ M.length)) (w8 s i (.hp o'.h))) :
  G7 X.P s (Builtin.copy_ #[T,ST] ty #[.slice (some ⟨b,0+k*te.size,none⟩) (o.n - k) c',.slice (some a) m sc]) q:=by
 have hn:=ho.len;subst hm;have hML:0 < M.length:=D1.2 hM;obtain⟨hu,hg⟩:=V4 hX hT;obtain⟨⟨inf,hinf,hs1,_⟩,_⟩:=hg;rw[h1,D7,w7];have hfl :∀K:List α,(K.flatMap f).length=K.length:=λK=>by rw[XU hf,D7]
 refine⟨λw0 w hok=>?_⟩;rcases ho.2.2 with ⟨h0,_⟩ | ⟨b',arr,e1,h2,h3,h4,h5,h6⟩
 ·omega
 ·rw[hb] at e1;cases e1;have hblk:=hok.mem i _ hi b _ h2;have hr:=run_copy_row X.P w T ST ty e b k (o.n - k) c' a M.length sc arr e (M.flatMap f) hu (by rw[hinf,<-h1,<-hs1];rfl) hblk (by rw[hfl];show _=min _ _;omega) (hsrc w hok.mem) (by rw[hfl];omega) (λv hv=>Y5 hone v hv);rw[hfl] at hr;refine⟨.v (iQ M.length),_,_,w8 s i (.hp (o.h.upd b (.cells (arr.toList.take k++M.flatMap f++arr.toList.drop (k+M.length)).toArray e (0,0)))),hr,jO.row hok hi h2,I5.set hi (λb cs T e=>by cases e),rfl,hq ⟨o.a,o.n,o.c,_⟩ rfl rfl rfl ⟨?_,?_,.inr ⟨b,_,hb,Hp.upd_self _ _ _,h3,h4,?_,?_⟩⟩⟩
  ·simp only[d6,j1,j9];omega
  ·rw[hfl];simp only[d6,j1,j9];omega
  ·simp only[Y7,d6,j1,j9,Array.length_toList,hfl];omega
  ·simp only[D7];rw[D7] at h6;rw[N7,N7];have f1:(L.take k).flatMap f=arr.toList.take k:=by
    have:=kE hf L k;rw[D7] at this;rw[<-this,<-h6,Ny,T6 om]
   have f2:(L.drop (k+M.length)).flatMap f=(arr.toList.take o.n).drop (k+M.length):=by
    have:=EF hf L (k+M.length);rw[D7] at this;rw[<-this,<-h6]
   rw[f1,f2];have hl:(arr.toList.take k++M.flatMap f).length=k+M.length:=by
    simp only[d6,j1,Array.length_toList,hfl];omega
   rw[List.take_append,hl,o6 om,List.drop_take]
end
end Go.Dw
namespace Go.Proofs.YtpjhmeicbjkcdaaGreatDoor
open Go
theorem DV (w:World):(callFunc 324 #[]).run Tryz.prog w=.ok (.value (.tuple #[])) w:=run_call_mark0 Tryz.func324 kr kr kr .disable kr w
theorem JH (w:World):(callFunc 326 #[]).run Tryz.prog w=.ok (.value (.tuple #[])) w:=run_call_mark0 Tryz.func326 kr kr kr .enable kr w
theorem SH (a:Addr) (w:World):(callFunc 327 #[.pointer (some a)]).run Tryz.prog w=.ok (.value (.tuple #[])) w:=run_call_marked Tryz.func327 kr kr kr .acquire kr a w
theorem SG (a:Addr) (w:World):(callFunc 329 #[.pointer (some a)]).run Tryz.prog w=.ok (.value (.tuple #[])) w:=run_call_marked Tryz.func329 kr kr kr .releaseMerge kr a w
theorem Bp (a:Addr) (x:Value) (u:FrameMode) (w:World) (hc:w.cell? a=some x) (hz:w.frozen? a=false) :
  CallsD Tryz.prog 289 #[.pointer (some a),.bool true] u w λe u' w'=>u'=u/\(e=.returned (.tuple #[])/\w'=w.drew.setCell a (.int .u32 1)):=by
 have hc':w.drew.cell? a=some x:=by go_simp
 have hz':w.drew.frozen? a=false:=by go_simp
 have hst:=run_call_store (P:=Tryz.prog) Tryz.func313 kr kr kr kr (k:=.u32) (y:=1) hc' hz';go_enter_d Tryz.func289,Tryz.ntmps289
 go_wp2
 go_region_calls
 all_goals (go_end0;exact⟨rfl,rfl⟩)
set_option maxRecDepth 100000 in
set_option maxHeartbeats 1600000 in
theorem WR (a:Addr) (u:FrameMode) (w:World) (hc:w.cell? a=some (.int .i32 1)) (hz:w.frozen? a=false) :
  CallsD Tryz.prog 288 #[.pointer (some a)] u w λe u' w'=>u'=u/\(e=.returned (.tuple #[])/\w'=w.setCell a (.int .i32 0)):=by
 have hd:=DV;have he:=JH;have hr:=SG;have hadd:=run_call_add (P:=Tryz.prog) Tryz.func330 kr kr kr .i32 kr (y:=-1) (s:=0) hc hz (by simp[go_sem];rfl);have hcv:=run_convert_to_unsafe (P:=Tryz.prog) (src:=389) (dst:=263) Tryz.underlying389 Tryz.underlying263 kr hc;go_enter_d Tryz.func288,Tryz.ntmps288
 go_wp2
 go_end0
 go_wp2
 go_end0
 exact⟨rfl,rfl⟩
set_option maxRecDepth 100000 in
set_option maxHeartbeats 1600000 in
theorem Hb (a:Addr) (w:World) (hc:w.cell? a=some (.int .i32 0)) (hz:w.frozen? a=false) :
  Calls Tryz.prog 287 #[.pointer (some a)] w λe w'=>e=.returned (.tuple #[])/\w'=w.setCell a (.int .i32 1):=by
 have hd:=DV;have he:=JH;have ha:=SH;have hcas:=run_call_cas_hit (P:=Tryz.prog) Tryz.func325 kr kr kr .i32 kr (y:=1) hc hz;have hc':(w.setCell a (.int .i32 1)).cell? a=some (.int .i32 1):=World.cell?_setCell_same w a _ hc;have hcv:=run_convert_to_unsafe (P:=Tryz.prog) (src:=389) (dst:=263) Tryz.underlying389 Tryz.underlying263 kr hc';go_enter Tryz.func287,Tryz.ntmps287
 go_wp2
 first | go_end0 | (simp only[Exit.inBlock,Exit.then];refine bodyPost_ret (results_none rfl _ _ _) rfl ?_) | refine bodyPost_ret (results_none rfl _ _ _) rfl ?_
 go_wp2
 go_end0
 exact⟨rfl,rfl⟩
end Go.Proofs.YtpjhmeicbjkcdaaGreatDoor
namespace Go.Proofs.YtpjhmeicbjkcdaaGreatDoor
open Go Go.RowKit Go.Dw
def LN (b:Nat) (d m:Int) (w:World):Prop:=w.cell? ⟨b,0,none⟩=some (.int .u32 d)/\w.cell? ⟨b,1,none⟩=some (.int .i32 m)/\w.frozen? ⟨b,0,none⟩=false/\w.frozen? ⟨b,1,none⟩=false
set_option maxRecDepth 100000 in
set_option maxHeartbeats 1600000 in
theorem Ha (b:Nat) (w:World) (h0:LN b 0 0 w) (R:World->Prop) (hK:Calls Tryz.prog 218 #[pQ b] (w.setCell ⟨b,1,none⟩ (.int .i32 1)) λe w2=>e=.returned (.tuple #[])/\R w2/\LN b 0 1 w2) :
  Calls Tryz.prog 260 #[pQ b,.func (.func 218) #[pQ b] #[]] w λe w'=>e=.returned (.tuple #[])/\∃w2,R w2/\w'=(w2.drew.setCell ⟨b,0,none⟩ (.int .u32 1)).setCell ⟨b,1,none⟩ (.int .i32 0):=by
 obtain⟨h0,h1,f0,f1⟩:=h0;have hl:=run_call_load (P:=Tryz.prog) Tryz.func286 kr kr kr .u32 kr (w:=w.setCell ⟨b,1,none⟩ (.int .i32 1)) (a:=⟨b,0,none⟩) (x:=0) ((World.cell?_setCell_other _ ⟨b,1,none⟩ ⟨b,0,none⟩ _ sQ).trans h0);have hnot :∀(x:Bool) (w:World),(Op.unary .not (.bool x)).run Tryz.prog w=.ok (.bool (!x)) w:=λ_ _=>rfl;go_enter_defers Tryz.func260,Tryz.ntmps260
 go_wp2_with (first | (go_at_call 287;refine (Hb ⟨b,1,none⟩ _ (by go_simp) (by go_simp)).mono ?_;rintro e w' ⟨rfl,rfl⟩) | (go_at_call 218;refine hK.mono ?_;rintro e w2 ⟨rfl,hR,hc0,hc1,hf0,hf1⟩) | (go_at_call 259;go_in))
 refine leaves_cons (f:=289) (args:=#[pQ b,.bool true]) sQ (by simp[go_sem]) ?_;refine (Bp ⟨b,0,none⟩ (.int .u32 0) .returning _ hc0 hf0).mono ?_;rintro e u' w'' ⟨rfl,rfl,rfl⟩;refine leaves_cons (f:=288) (args:=#[.pointer (some ⟨b,1,none⟩)]) (by simp[settle]) (by simp[go_sem]) ?_;refine (WR ⟨b,1,none⟩ _ _ ?_ (by simp[hf1])).mono ?_
 ·refine (World.cell?_setCell_other _ ⟨b,0,none⟩ ⟨b,1,none⟩ _ sQ).trans ?_;rw[World.cell?_drew];exact hc1
 rintro e u' w'' ⟨rfl,rfl,rfl⟩;simp[Leaves,settle,results,Tryz.results260];exact⟨w2,hR,rfl⟩
set_option maxRecDepth 100000 in
set_option maxHeartbeats 1600000 in
theorem Ml (b:Nat) (w:World) (h0:LN b 0 0 w) (R:World->Prop) (hK:Calls Tryz.prog 218 #[pQ b] (w.setCell ⟨b,1,none⟩ (.int .i32 1)) λe w2=>e=.returned (.tuple #[])/\R w2/\LN b 0 1 w2) :
  Calls Tryz.prog 217 #[pQ b,.func (.func 218) #[pQ b] #[]] w λe w'=>e=.returned (.tuple #[])/\∃w2,R w2/\w'=(w2.drew.setCell ⟨b,0,none⟩ (.int .u32 1)).setCell ⟨b,1,none⟩ (.int .i32 0):=by
 have hl:=run_call_load (P:=Tryz.prog) Tryz.func286 kr kr kr .u32 kr h0.1;have hnot :∀(x:Bool) (w:World),(Op.unary .not (.bool x)).run Tryz.prog w=.ok (.bool (!x)) w:=λ_ _=>rfl;go_enter Tryz.func217,Tryz.ntmps217
 go_wp2_with (first | (go_at_call 260;refine (Ha b _ h0 R hK).mono ?_;rintro e w' ⟨rfl,w2,hR,rfl⟩) | (go_at_call 259;go_in))
 go_end0
 exact⟨rfl,w2,hR,rfl⟩
theorem DS {w0 w:World} {s:List Ch} (hok:Ok w0 s w) {i b T:Nat} {d m:Int} {rest:List Value} (hi:l7 s i=some (.box b (.int .u32 d::.int .i32 m::rest) T)):LN b d m w:=by
 have hb:w.heap[b]?=some (.cells (.int .u32 d::.int .i32 m::rest).toArray T (0,0)):=hok.mem i _ hi b _ (Hp.one_self b _);refine⟨?_,?_,?_,?_⟩ <;> simp[World.cell?,World.frozen?,hb]
theorem Ii {s:List Ch} {i b T:Nat} {rest:List Value} (hi:l7 s i=some (.box b (.int .u32 0::.int .i32 0::rest) T)) {q:TV->List Ch->Prop}
  (hK:P4 Tryz.prog (w8 s i (.box b (.int .u32 0::.int .i32 1::rest) T)) 218 [pQ b] λtv s'=>tv=.v (.tuple #[])/\∃rest',l7 s' i=some (.box b (.int .u32 0::.int .i32 1::rest') T)/\q (.v (.tuple #[])) (w8 s' i (.box b (.int .u32 1::.int .i32 0::rest') T))) :
  P4 Tryz.prog s 217 [pQ b,.func (.func 218) #[pQ b] #[]] q:=by
 obtain⟨hK⟩:=hK;refine⟨λw0 w hok=>⟨enters_of Tryz.func217 kr rfl _,?_⟩⟩;have hok1:=hok.boxSet hi 1 (.int .i32 1);have hc:=(hK w0 _ hok1).2;refine (Ml b w (DS hok hi) (λw2=>∃s' rest',Ok w0 s' w2/\I5 (w8 s i (.box b (.int .u32 0::.int .i32 1::rest) T)) s'/\l7 s' i=some (.box b (.int .u32 0::.int .i32 1::rest') T)/\q (.v (.tuple #[])) (w8 s' i (.box b (.int .u32 1::.int .i32 0::rest') T))) (hc.mono ?_)).mono ?_
 ·rintro e w2 ⟨v,s',rfl,h1,h2,h3,rest',h4,h5⟩;cases h3;exact⟨rfl,⟨s',rest',h1,h2,h4,h5⟩,DS h1 h4⟩
 ·rintro e w' ⟨rfl,w2,⟨s',rest',h1,h2,h4,h5⟩,rfl⟩;have g1:=h1.drew.boxSet h4 0 (.int .u32 1);have g2:=g1.boxSet (i:=i) (by rw[U5 h4,if_pos rfl]) 1 (.int .i32 0);have e:w8 (w8 s' i (.box b (.int .u32 1::.int .i32 1::rest') T)) i (.box b (.int .u32 1::.int .i32 0::rest') T)=w8 s' i (.box b (.int .u32 1::.int .i32 0::rest') T):=by simp only[S0,List.set_set]
  refine⟨_,_,rfl,e ▸ g2,?_,h5⟩;exact ((I5.set hi (λb' cs T e=>by cases e;exact⟨_,_,rfl⟩)).trans h2).trans (I5.set h4 (λb' cs T e=>by cases e;exact⟨_,_,rfl⟩))
end Go.Proofs.YtpjhmeicbjkcdaaGreatDoor
namespace Go.Dw
open Go Go.RowKit
section
variable {X:Q2} {s:List Ch}
theorem gF {P:Program} {ty:Nat} {q:TV->Prop} {k:IntKind} (a b d:Nat) {x y:Int} (hx:x=a) (hy:y=b) (hb:0 < b) (hd:d=a % b) (h:q (.v (.int k d))):C9 P s (binOp .rem ty (.int k x) (.int k y)) q:=by
 subst hx hy hd;refine⟨_,λw _=>?_,h⟩;have h0 : ¬ b=0:=om
 simp[binOp,Op.intDiv,h0,Ob (show (0:Int)<=(a:Int) by omega)]
theorem Ju {P:Program} {ty:Nat} {q:TV->Prop} (a b d:Nat) {x y:Int} (hx:x=a) (hy:y=b) (hb:0 < b) (ha:a < 9223372036854775808) (hd:d=a / b) (h:q (.v (iQ d))):C9 P s (binOp .quo ty (iQ x) (iQ y)) q:=by
 subst hx hy;refine⟨_,λw _=>?_,h⟩;have h0 : ¬ b=0:=om
 have hd':d < 9223372036854775808:=by rw[hd];exact p8 (D0 a b) ha
 have hw:IntKind.i64.wrap (d:Int)=d:=by rw[IntKind.wrap_i64];omega
 rw[hd,Iv] at hw;rw[hd];simp[binOp,Op.intDiv,h0];exact hw
theorem Ph {α:Type} {f:α->List Value} (hX:X.Good) {T e:Nat} {te:TI} (hT:bQ X T=some (e,te)) (m:Nat) {l c:Int} (hl:l=0) (hc:c=m) (hby:te.bytes*m<=281474976710656) (hm:m<=1000000000000) {q:TV->List Ch->Prop}
  (hq :∀o:Os,w5 f e te.size o []->q (.v o.v) (s++[.hp o.h])):G7 X.P s (Instr.makeSlice T (iQ l) (iQ c)) q:=by
 subst hl;subst hc;obtain⟨hu,hg⟩:=V4 hX hT;obtain⟨⟨inf,hinf,hs1,hs2,z,hz,hzc,hzl⟩,_⟩:=hg;refine⟨λw0 w hok=>?_⟩;have hr:=run_make (P:=X.P) w T e inf z hu hinf hz .i64 .i64 0 m om om (by rw[hs2];have h9:((te.bytes*m:Nat):Int)<=281474976710656:=om;simpa using h9) om;simp only[Int.toNat_natCast,hs1,hzc] at hr;have hm:madeCells te.zero.toArray (m*te.size)=(nM m te.zero).toArray:=by
  have:=FU te.zero m;rw[hzl] at this;simpa [madeCells,hzl] using this
 rw[hm] at hr;refine⟨.v _,_,_,_,hr,hok.alloc (.hp (Hp.one w.heap.size _)) _ rfl,I5.app s _,rfl,hq ⟨some ⟨w.heap.size,0,none⟩,0,m,_⟩ ⟨rfl,sQ,.inr ⟨_,_,rfl,Hp.one_self _ _,j0 _,by simp only[maxLen];omega,?_,sQ⟩⟩⟩;have hlen:(nM m te.zero).length=m*te.size:=by
  clear hr hm hq hby;induction m with
  | zero=>simp[nM]
  | succ n ih=>simp[nM,hzl,ih om,bW,fJ]
 simpa using hlen
theorem Kp (hX:X.Good) {S T e:Nat} {ti te:TI} (hS:G9 X.tt S=some ti) (hk:ti.k=.str) (hT:bQ X T=some (e,te)) (he:te.k=.int .u8) {l:List UInt8} {q:TV->List Ch->Prop}
  (hq :∀b c h,(∀j (hj:j < l.length),h.cell? ⟨b,j,none⟩=some (.int .u8 l[j].toNat))->(∀i d,l7 s i=some d->d.h.dj h)->q (.v (.slice (some ⟨b,0,none⟩) l.length c)) (s++[.hp h])):G7 X.P s (convert S T (sv l)) q:=by
 have hu:X.P.underlying S=some .string:=by
  have:=(Good.und hX hS).2;obtain⟨tk,_,_,_⟩:=ti;dsimp only at hk;subst hk;exact this
 obtain⟨hd,hg⟩:=V4 hX hT;have hue:X.P.underlying e=some (.int .u8):=by
  have:=hg.2;obtain⟨tk,_,_,_⟩:=te;dsimp only at he;subst he;exact this
 refine⟨λw0 w hok=>?_⟩;have hr:=run_bytes_of_string (P:=X.P) w S T e (bs l) hu hd hue;rw[C8] at hr;refine⟨.v (.slice (some ⟨w.heap.size,0,none⟩) l.length _),_,_,s++[.hp (Hp.one w.heap.size _)],hr,hok.drew.alloc (.hp (Hp.one w.heap.size _)) _ rfl,I5.app s _,rfl,hq w.heap.size _ _ (λj hj=>?_) λi d hi x=>?_⟩
 ·unfold Hp.cell?;dsimp only;rw[Hp.one_self];have:=bytesRow_at (bs l) (grownCap w l.length 0 e) j (by show j < l.toArray.size;simpa using hj);dsimp only;rw[this];rfl
 ·by_cases hx:x=w.heap.size
  ·exact .inl ((hok.mem i d hi).none om)
  ·exact .inr (by unfold Hp.one;rw[if_neg hx])
end
section
variable {X:Q2} {s:List Ch}
theorem pU {i b T':Nat} {cs:List Value} (hi:l7 s i=some (.box b cs T')) {j:Nat} {v:Value} (hc:cs[j]?=some v) {w:World} (hm:iE s w):w.cell? ⟨b,j,none⟩=some v:=by
 have hb:w.heap[b]?=some (.cells cs.toArray T' (0,0)):=hm i _ hi b _ (Hp.one_self b _);simp[World.cell?,hb,hc]
theorem xU (hX:X.Good) {T:Nat} {i b T':Nat} {cs:List Value} (hi:l7 s i=some (.box b cs T')) {j:Nat} {v:Value} (hc:cs[j]?=some v) (hT:(G9 X.tt T).map TI.agg=some false) {q:TV->Prop} (hq:q (.v v)) :
  C9 X.P s (Instr.loadAt T (.pointer (some ⟨b,0+j,none⟩))) q:=by
 refine⟨v,λw hm=>?_,hq⟩;cases ht:G9 X.tt T with
 | none=>simp[ht] at hT
 | some ti=>
  have ha:ti.agg=false:=by simpa [ht] using hT
  have hg:=Good.und hX ht;have:=pU hi hc hm;rw[w7];simp[Instr.loadAt,Instr.sureAddr,loadVar,hg.agg,ha,this]
theorem lR {T:Nat} (i:Nat) {b T':Nat} {cs:List Value} (j:Nat) {v:Value} {q:TV->Prop} (hq:q (.v v)) (hX:X.Good:=by exact cxg _) (hi:l7 s i=some (.box b cs T'):=by exact rfl) (hc:cs[j]?=some v:=by exact rfl) (hT:(G9 X.tt T).map TI.agg=some false:=by exact rfl):C9 X.P s (Instr.loadAt T (.pointer (some ⟨b,0+j,none⟩))) q:=xU hX hi hc hT hq
theorem iW (hX:X.Good) {T:Nat} {i b T':Nat} {cs:List Value} (hi:l7 s i=some (.box b cs T')) {j:Nat} {v:Value} (hv:v.cells = #[v]) (hone:v.oneCell'=true) (hj:j < cs.length) {ti:TI} (hT:G9 X.tt T=some ti) (h1:ti.size=1) {q:List Ch->Prop}
  (hq:q (w8 s i (.box b (cs.set j v) T'))):iU X.P s (Instr.storeAt T (.pointer (some ⟨b,0+j,none⟩)) v) q:=by
 refine⟨λw0 w hok=>?_⟩;have hblk:=hok.mem i _ hi b _ (Hp.one_self b _);have hst:=run_storeCells_at X.P b (0+j) T' [v] 0 cs.toArray w hblk (by simp;omega) (λx hx=>by rw[v6.1 hx];exact hone);simp only[E7,w7,p7] at hst;have hset:cs.take j++[v]++cs.drop (j+1)=cs.set j v:=by
  rw[ZM,if_pos hj];simp
 have hw:w.setRow b (cs.toArray.toList.take j++[v]++cs.toArray.toList.drop (j+1)).toArray=w.setCell ⟨b,j,none⟩ v:=by
  rw[setCell_eq_setRow w b j cs.toArray T' (0,0) v hblk];congr 1
  show (cs.take j++[v]++cs.drop (j+1)).toArray=_
  rw[hset];simp
 refine⟨_,_,?_,hok.boxSet hi j v,I5.set hi (λb' cs' T e=>by cases e;exact⟨_,_,rfl⟩),hq⟩;rw[<-hw];simp[Instr.storeAt,Instr.sureAddr,storeVar,(Good.und hX hT).size,h1,hv,hst]
end
def wZ:List Ch->List Ch->Prop
 | .box b _ _::r,.box b' _ _::r'=>b=b'/\wZ r r'
 | .box _ _ _::_,_=>False
 | .hp _::r,_::r'=>wZ r r'
 | .hp _::r,[]=>wZ r []
 | [],_=>True
theorem jZ :∀{s s':List Ch},wZ s s'->∀i b cs T,l7 s i=some (.box b cs T)->∃cs' T',l7 s' i=some (.box b cs' T')
 | .box _ _ _::_,.box _ _ _::_,h,0,b,cs,T,e=>by
  simp only[l7,l8,Ch.box.injEq] at e;obtain⟨rfl,_,_⟩:=e;exact⟨_,_,by simp only[l7];rw[h.1]⟩
 | .box _ _ _::_,.box _ _ _::_,h,i+1,b,cs,T,e=>jZ h.2 i b cs T e
 | .box _ _ _::_,.hp _::_,h,_,_,_,_,_=>h.elim
 | .box _ _ _::_,[],h,_,_,_,_,_=>h.elim
 | .hp _::_,_::_,_,0,b,cs,T,e=>by simp[l7] at e
 | .hp _::r,_::r',h,i+1,b,cs,T,e=>jZ (s:=r) (s':=r') h i b cs T e
 | .hp _::_,[],_,0,b,cs,T,e=>by simp[l7] at e
 | .hp _::r,[],h,i+1,b,cs,T,e=>by
  obtain⟨_,_,h'⟩:=jZ (s:=r) (s':=[]) h i b cs T e;simp[l7] at h'
 | [],_,_,_,_,_,_,e=>by simp[l7] at e
theorem NJ {s s':List Ch} (h:wZ s s'):I5 s s':=λtv v e=>by
 cases tv with
 | v x=>exact e
 | bx i off=>
  simp only[TV.val] at e ⊢;cases hs:l7 s i with
  | none=>simp[hs] at e
  | some c=>
   cases c with
   | hp _=>simp[hs] at e
   | box b cs T=>obtain⟨cs',T',h'⟩:=jZ h i b cs T hs;simp only[hs] at e;simp only[h'];exact e
 | bs i n=>
  simp only[TV.val] at e ⊢;cases hs:l7 s i with
  | none=>simp[hs] at e
  | some c=>
   cases c with
   | hp _=>simp[hs] at e
   | box b cs T=>obtain⟨cs',T',h'⟩:=jZ h i b cs T hs;simp only[hs] at e;simp only[h'];exact e
theorem Ic {X : Q2} (hX : X.Good) {f : Nat} {fn : Func} {c : Code} {args : List Value} {s : List Ch} {q : TV -> List Ch -> Prop} (rs : List ResultVar)
    (hf : X.P.funcs[f]? = some fn) (hb : fn.body = some c) (hn : (fn.name == "runtime.NumGoroutine") = false) (hr : fn.results = rs.toArray) (hm : fn.ntmps = X.n) (hl : P9 args.length X.n = true)
    (hwp : WP X c (λe t s' => match e with
      | .exit _ => False
      | _ => rD X s' t rs λv => wZ s s' /\ q (.v v) s') (rP 0 args) s) : P4 X.P s f args q := by
  have hl := D3 hl
  refine ⟨λw0 w hok0 => ⟨λw => ?_, calls_of_wp hf hb ?_⟩⟩
  · have hn' : ¬ fn.name = "runtime.NumGoroutine" := by simpa using hn
    simp [callFunc, hf, hn', hb]
  · refine wp_mono (uS hX c _ _ _ _ w hwp ⟨by simp [hm];omega, rfl, λi tv hi => ?_⟩ hok0) λe a w' hq => ?_
    · obtain ⟨v, rfl, _, h2⟩ := fO args 0 i tv hi
      refine ⟨v, rfl, ?_⟩
      have : i < args.length := (p6.1 (by simpa using h2)).1
      rw [Array.getElem?_append_left (by simpa using this)]
      simpa using h2
    · have fin : ∀ t s', Fr X.n t s' a -> Ok w0 s' w' -> (rD X s' t rs λv => wZ s s' /\ q (.v v) s') ->
          a.defers = [] /\ ∃ v, (results fn a.tmps).run X.P w' = .ok v w' /\ ∃ v1 s1, Ending.returned v = .returned v1 /\ Ok w0 s1 w' /\ I5 s s1 /\ q (.v v1) s1 := by
        intro t s' hf' hok hk
        obtain ⟨v, h1, h2, h3⟩ := pF hX hf'.w hok.mem hk hr
        exact ⟨hf'.2.1, v, h1, v, s', rfl, hok, NJ h2, h3⟩
      cases e with
      | normal => obtain ⟨t, s, h1, h2, h3⟩ := hq;exact fin t s h1 h2 h3
      | ret => obtain ⟨t, s, h1, h2, h3⟩ := hq;exact fin t s h1 h2 h3
      | exit i => obtain ⟨t, s, h1, h2, h3⟩ := hq;exact h3.elim
      | goto l => exact hq.elim
      | panic c => exact hq.elim
      | outgrown => exact hq.elim
theorem enterFZ (X : Q2) {f : Nat} {fn : Func} {c : Code} (args : List Value) {s : List Ch} {q : TV -> List Ch -> Prop} (rs : List ResultVar) (hf : X.P.funcs[f]? = some fn) (hwp : WP X c (λe t s' => match e with
      | .exit _ => False
      | _ => rD X s' t rs λv => wZ s s' /\ q (.v v) s') (rP 0 args) s) (hX : X.Good := by exact cxg _) (hb : fn.body = some c := by exact rfl) (hn : (fn.name == "runtime.NumGoroutine") = false := by exact rfl) (hr : fn.results = rs.toArray := by exact rfl) (hm : fn.ntmps = X.n := by exact rfl) (hl : P9 args.length X.n = true := by exact rfl) : P4 X.P s f args q := Ic hX  rs hf hb hn hr hm hl hwp
end Go.Dw
namespace Go.Proofs.YtpjhmeicbjkcdaaGreatDoor
open Go Go.RowKit Go.Dw
theorem Aa (c:UInt8):([48,49,50,51,52,53,54,55,56,57]:d8).contains c=k9 c:=by
 have h :∀n:Fin 256,([48,49,50,51,52,53,54,55,56,57]:d8).contains (UInt8.ofNat n.1)=k9 (UInt8.ofNat n.1):=by decide +kernel
 have:=h ⟨c.toNat,c.toNat_lt⟩;rwa [show UInt8.ofNat c.toNat=c from UInt8.ofNat_toNat] at this
theorem xG (s:d8) (hs:s.length < 1000000) (w:World):j2 Tryz.prog 211 #[sv s] w (v8 w (.bool (bR s))):=by
 refine enterZ (cx 10) [sv s] [.tmp 2] Tryz.func211 ?_;refine pZ (b:=[]) ?_;refine d9 (λh1=>?_) λh1=>?_
 ·refine k7 _ (λw' hm=>MD s [48,49,50,51,52,53,54,55,56,57] hs dc dc dc w') ?_;refine dL (b:=[]) ?_;refine⟨[],⟨?_,rfl⟩,pk [0]⟩;congr 1
  unfold bR;rw[decide_eq_true h1,D9,T7,decide_eq_true_eq,ID];rw[show (λc=>([48,49,50,51,52,53,54,55,56,57]:d8).contains c)=k9 from funext Aa]
 ·exact⟨[],⟨by unfold bR;rw[decide_eq_false h1];rfl,rfl⟩,pk [0]⟩
theorem Du:fX [1] 1:=by
 refine⟨λd hd=>?_,λk h1 h2=>?_,by simp[q7]⟩
 ·rw[v6] at hd;rw[hd];decide
 ·have:k=0:=by simp at h2;omega
  subst this;decide
theorem tX (w:World):j2 Tryz.prog 195 #[] w (fQ w λv cs=>∃g a n c,cs = [.hp g]/\v=T8 false a n c/\cA g (.slice a n c) 1):=by
 refine enterZ (cx 2) [] [.cell 0 139] Tryz.func195 ?_;intro b0;refine call (λw' hm=>vN 1 dc dc w') ?_;rintro _ _ ⟨g,a,n,c,L,rfl,rfl,hL,hC⟩;exact⟨[.hp g],⟨_,_,_,_,rfl,rfl,_,_,_,L,rfl,hL,hC,by have:=hC.le_len Du (j8 _);simp at this;omega⟩,pk [0,2]⟩
theorem dA {g1 g2:Bool} {a1 a2:Option Addr} {n1 c1 n2 c2 x y:Nat} (w:World) (ha:cA (Hp.whole w) (.slice a1 n1 c1) x) (hb:cA (Hp.whole w) (.slice a2 n2 c2) y) (p1:g1=true->0 < x) (p2:g2=true->0 < y) :
  j2 Tryz.prog 182 #[T8 g1 a1 n1 c1,T8 g2 a2 n2 c2] w (v8 w (iQ (jB (aE g1 x) (aE g2 y)))):=by
 obtain⟨_,_,_,La,e1,h1,h2,h3⟩:=ha;obtain⟨_,_,_,Lb,e2,k1,k2,k3⟩:=hb;cases e1;cases e2;exact cZ w h1 k1 h2 k2 om om p1 p2
theorem yI (y:Nat):(jB (aE false y) (aE false 1)=0)↔y=1:=by
 unfold jB aE;simp only[wH,if_false];constructor
 ·intro h;split at h
  ·cases h
  ·split at h
   ·cases h
   ·omega
 ·rintro rfl;rw[if_neg om,if_neg om]
theorem zO (s:d8) (w:World):j2 Tryz.prog 212 #[sv s,sv [45]] w (v8 w (sv (M4 s))):=by
 have h:=xL s [45] w;have e:Y0 s [45]=bH s:=AG s 45;rw[e] at h;exact h
theorem VV {l:d8} (h:bR l=true):bH l=false/\M4 l=l/\l.all k9=true/\0 < l.length:=by
 unfold bR at h;rw[j4,decide_eq_true_eq] at h;obtain⟨h1,h2⟩:=iJ h.2;exact⟨h1,h2,h.2,D1.2 h.1⟩
def cI (n1:Bool) (a1:Option Addr) (k1 c1:Nat) (n2:Bool) (a2:Option Addr) (k2 c2:Nat):Value:=.agg #[.bool n1,.slice a1 k1 c1,.bool n2,.slice a2 k2 c2]
def HH (most:Nat) (s:d8) (g:Hp) (v:Value):Prop:=∃n1 a1 k1 c1 a2 k2 c2 x y,v=.tuple #[cI n1 a1 k1 c1 false a2 k2 c2,iQ (X9 most s)]/\cA g (.slice a1 k1 c1) x/\cA g (.slice a2 k2 c2) y/\(n1=true->0 < x)/\
 (X9 most s=0->n1=bH (J6 s).1/\x=P6 (M4 (J6 s).1)/\y=if (J6 s).2.2=true then P6 (J6 s).2.1 else 0)/\(X9 most s≠0->n1=false/\x=0/\y=0)
theorem dH {most:Nat} {s:d8} {e:Int} (h:X9 most s=e) (he:e≠0) (g:Hp):HH most s g (.tuple #[cI false none 0 0 false none 0 0,iQ e]):=by
 subst h;exact⟨false,none,0,0,none,0,0,0,0,rfl,yL g,yL g,nofun,λe=>absurd e he,λ_=>⟨rfl,rfl,rfl⟩⟩
set_option maxRecDepth 10000 in
set_option maxHeartbeats 2000000 in
theorem DM (s:d8) (most:Nat) (hmost:most < 500000) (hs:s.length < 1000000) (w:World) :
  j2 Tryz.prog 181 #[sv s,iQ most] w (fQ w λv cs=>∃g,cs = [.hp g]/\HH most s g v):=by
 have hsz:=C8 s;have hE:X9 most s=X9 most s:=rfl;conv at hE=>rhs;unfold X9
 rcases hc:J6 s with ⟨top,bot,fl⟩
 have hcl:top.length<=s.length/\bot.length<=s.length:=by
  unfold J6 at hc;split at hc
  ·cases hc;exact⟨by rw[j1];omega,by rw[j9];omega⟩
  ·cases hc;simp
 rw[hc] at hE;dsimp only at hE;refine enterZ (cx 85) [sv s,iQ most] [.cell 4 141,.tmp 5] Tryz.func181 ?_;intro b4;refine k7 _ (λw' hm=>TQ s w' om) ?_;rw[hc];refine d9 (λh1=>?_) λh1=>?_
 ·rw[if_pos om] at hE;exact⟨[.hp Hp.emp],⟨_,rfl,dH hE dc _⟩,λw' h=>(h.pick [0] rfl rfl).emp⟩
 ·rw[if_neg om] at hE;have htl:(M4 top).length<=top.length:=by unfold M4;split <;> simp
  refine k7 _ (λw' hm=>zO top w') ?_;refine k7 _ (λw' hm=>xG (M4 top) om w') ?_;cases fl with
  | false=>
   simp only[eG,Bool.or_false,if_true,wH,if_false] at hE;refine v7 (λh2=>?_) λh2=>?_
   ·rw[if_pos h2] at hE;exact⟨[.hp Hp.emp],⟨_,rfl,dH hE dc _⟩,λw' h=>(h.pick [0] rfl rfl).emp⟩
   ·rw[if_neg (by rw[h2];decide)] at hE;refine call (λw' hm=>jH top om w') ?_;rintro _ _ ⟨g,rfl,n1,a1,k1,c1,x,rfl,hM,hp,hz,hn⟩;intro b10;refine d9 (λh7=>?_) λh7=>?_
    ·rw[if_pos h7] at hE;exact⟨[.hp Hp.emp],⟨_,rfl,dH hE dc _⟩,λw' h=>(h.pick [0] rfl rfl).emp⟩
    ·have h7:R4 top=0:=by simpa using h7
     rw[if_neg (λg=>g h7)] at hE;obtain⟨z1,z2⟩:=hz h7;exact⟨[.hp g],⟨g,rfl,n1,a1,k1,c1,none,0,0,x,0,by rw[hE];rfl,hM,yL g,hp,λ_=>by rw[hc];exact⟨z1,z2,rfl⟩,λe=>absurd hE e⟩,pk [0,2]⟩
  | true=>
   simp only[D9,Bool.true_eq_false,if_false] at hE;refine v7 (λh2=>?_) λh2=>?_
   ·rw[h2,Bool.true_or,if_pos rfl] at hE;exact⟨[.hp Hp.emp],⟨_,rfl,dH hE dc _⟩,λw' h=>(h.pick [0] rfl rfl).emp⟩
   ·refine k7 _ (λw' hm=>xG bot om w') ?_;rw[h2,UZ] at hE;refine v7 (λh4=>?_) λh4=>?_
    ·rw[if_pos h4] at hE;exact⟨[.hp Hp.emp],⟨_,rfl,dH hE dc _⟩,λw' h=>(h.pick [0] rfl rfl).emp⟩
    ·rw[if_neg (by rw[h4];decide)] at hE;obtain⟨d1,d2,d3,d4⟩:=VV (l:=bot) (by simpa using h4);refine k7 _ (λw' hm=>ME bot 48 om dc w') ?_;refine dL (b:=[]) ?_;have hz0:Lib.trimS bot [48] = []↔(bot.all λc=>decide (c=48))=true:=by
      rw[ID];have:(λc:UInt8=>([48]:d8).contains c)=λc=>decide (c=48):=by
       funext c
       rw[T7];simp
      rw[this]
     refine d9 (λh6=>?_) λh6=>?_
     ·rw[if_pos (hz0.1 h6)] at hE;exact⟨[.hp Hp.emp],⟨_,rfl,dH hE dc _⟩,λw' h=>(h.pick [0] rfl rfl).emp⟩
     ·rw[if_neg (λg=>h6 (hz0.2 g))] at hE;refine call (λw' hm=>jH top om w') ?_;rintro _ _ ⟨g,rfl,n1,a1,k1,c1,x,rfl,hM,hp,hz,hn⟩;intro b10;refine d9 (λh7=>?_) λh7=>?_
      ·rw[if_pos h7] at hE;exact⟨[.hp Hp.emp],⟨_,rfl,dH hE dc _⟩,λw' h=>(h.pick [0] rfl rfl).emp⟩
      ·have h7:R4 top=0:=by simpa using h7
       rw[if_neg (λg=>g h7)] at hE;obtain⟨z1,z2⟩:=hz h7;refine EO (λw' hm=>jH bot om w') ?_;rintro _ _ ⟨g2,rfl,n2,a2,k2,c2,y,rfl,hM2,hp2,hz2,hn2⟩ hsat;have hg2:g2.le (g.join g2):=hsat.leR 2 4 rfl rfl;intro b12;refine u6.cut Bool (λb=>[(4,.bx 1 0),(10,.bx 3 0),(12,.bx 5 0),(80,.v (.bool b))]) (λ_=>[.hp (Hp.whole w),.box b4 [.bool false,zl,.bool false,zl] 141,.hp g,.box b10 [.bool n1,.slice a1 k1 c1] 139,.hp g2,.box b12 [.bool n2,.slice a2 k2 c2] 139])
        (λb=>b=true↔(R4 bot≠0\/P6 bot=1\/G8 (P6 (M4 top)) (P6 bot)≠1)) (u6.by_order cQ (.take 0 <| .take 1 <| .take 2 <| .take 3 <| .run 4 <| .run 5 <| .take 6 <| .take 7 <| .take 8 <| .take 9 <| .take 10 <| .run 11 <| .run 12 <| .run 13 <| .take 14 <| .take 15 <| .done) kr ?_) ?_
       ·refine d9 (λh9=>?_) λh9=>?_
        ·(iterate 5 refine⟨sK,?_⟩);exact⟨true,⟨λ_=>.inl h9,λ_=>rfl⟩,y6.mk (λ_ _ h=>h) rfl rfl⟩
        ·have h9:R4 bot=0:=by simpa using h9
         obtain⟨y1,y2⟩:=hz2 h9;rw[d1] at y1;rw[d2] at y2;subst y1 y2 z2;refine call (λw' hm=>tX w') ?_;rintro _ _ ⟨g3,a3,k3,c3,rfl,rfl,hM3⟩;refine⟨sK,?_⟩;refine k7 _ (λw' hm=>dA w' (hM2.mono (hm 4 _ rfl).whole) (hM3.mono (hm 6 _ rfl).whole) nofun nofun) ?_;refine⟨sK,?_⟩;refine d9 (λh10=>?_) λh10=>?_
         ·rw[yI] at h10;(iterate 3 refine⟨sK,?_⟩);exact⟨true,⟨λ_=>.inr (.inl h10),λ_=>rfl⟩,y6.mk (pj [0,1,2,3,4,5]) rfl rfl⟩
         ·rw[yI] at h10;refine call (λw' hm=>KI w' (Hp.join_in (hm 2 _ rfl) (hm 4 _ rfl)) (hM.mono (Hp.le_left g g2)) (hM2.mono hg2)) ?_;rintro _ _ ⟨g4,a4,k4,c4,rfl,rfl,hM4⟩;refine⟨sK,?_⟩;refine call (λw' hm=>tX w') ?_;rintro _ _ ⟨g5,a5,k5,c5,rfl,rfl,hM5⟩;refine⟨sK,?_⟩;refine k7 _ (λw' hm=>dA w' (hM4 _ (Hp.join_in (hm 2 _ rfl) (hm 4 _ rfl)).whole (hm 7 _ rfl).whole) (hM5.mono (hm 8 _ rfl).whole) nofun nofun) ?_;refine⟨sK,?_⟩;refine⟨decide (jB (aE false (G8 (P6 (M4 top)) (P6 bot))) (aE false 1)≠0),?_,y6.mk (pj [0,1,2,3,4,5]) rfl rfl⟩;rw[decide_eq_true_eq,Ne,yI];constructor
          ·intro h;exact .inr (.inr h)
          ·rintro (h | h | h)
           ·exact absurd h9 h
           ·exact absurd h h10
           ·exact h
       rintro b hb hsat2;dsimp only;refine v7 (λh11=>?_) λh11=>?_
       ·rw[if_pos (hb.1 h11)] at hE;exact⟨[.hp Hp.emp],⟨_,rfl,dH hE dc _⟩,λw' h=>(h.pick [0] rfl rfl).emp⟩
       ·have hnb : ¬ (R4 bot≠0\/P6 bot=1\/G8 (P6 (M4 top)) (P6 bot)≠1):=λh=>by rw[hb.2 h] at h11;cases h11
        rw[if_neg hnb] at hE;have h9:R4 bot=0:=j3 λh=>hnb (.inl h);obtain⟨y1,y2⟩:=hz2 h9;rw[d1] at y1;rw[d2] at y2;subst y1;exact⟨[.hp (g.join g2)],⟨_,rfl,n1,a1,k1,c1,a2,k2,c2,x,y,by rw[hE];rfl,hM.mono (Hp.le_left _ _),hM2.mono hg2,hp,λ_=>by rw[hc];exact⟨z1,z2,by rw[if_pos rfl];exact y2⟩,λe=>absurd hE e⟩,λw' h=>Ok.join (h.pick [0,2,4] rfl rfl)⟩
theorem U9 (s:d8) (hs:s.length < 1000000) (w:World) :
  j2 Tryz.prog 121 #[sv s] w (fQ w λv cs=>∃g,cs = [.hp g]/\HH 400 s g v):=by
 refine enterZ (cx 8) [sv s] [.cell 2 141,.tmp 3] Tryz.func121 ?_;intro b2;refine call (λw' hm=>DM s 400 dc hs w') ?_;rintro _ _ ⟨g,rfl,n1,a1,k1,c1,a2,k2,c2,x,y,rfl,h⟩;exact⟨[.hp g],⟨g,rfl,n1,a1,k1,c1,a2,k2,c2,x,y,rfl,h⟩,pk [0,2]⟩
end Go.Proofs.YtpjhmeicbjkcdaaGreatDoor
namespace Go.Proofs.YtpjhmeicbjkcdaaGreatDoor
open Go Go.RowKit Go.Dw
theorem wW (c:UInt8) (w:World):j2 Tryz.prog 225 #[.int .u8 c.toNat] w (v8 w (.bool (J4 c))):=by
 refine enterZ (cx 9) [.int .u8 c.toNat] [.tmp 2] Tryz.func225 ?_;refine d9 (λh1=>?_) λh1=>?_
 ·exact⟨[],⟨by unfold J4;rw[decide_eq_true (show 97<=c.toNat by omega),D9];congr 1;rw[decide_eq_decide];omega,rfl⟩,pk [0]⟩
 ·exact⟨[],⟨by unfold J4;rw[decide_eq_false (show ¬ 97<=c.toNat by omega)];rfl,rfl⟩,pk [0]⟩
theorem dT (c:UInt8) (w:World):j2 Tryz.prog 227 #[.int .u8 c.toNat] w (v8 w (.bool (k9 c))):=by
 refine enterZ (cx 9) [.int .u8 c.toNat] [.tmp 2] Tryz.func227 ?_;refine d9 (λh1=>?_) λh1=>?_
 ·exact⟨[],⟨by unfold k9;rw[decide_eq_true (show 48<=c.toNat by omega),D9];congr 1;rw[decide_eq_decide];omega,rfl⟩,pk [0]⟩
 ·exact⟨[],⟨by unfold k9;rw[decide_eq_false (show ¬ 48<=c.toNat by omega)];rfl,rfl⟩,pk [0]⟩
theorem HB (c k:UInt8):decide ((c.toNat:Int)=(k.toNat:Int))=decide (c=k):=by
 rw[decide_eq_decide];constructor
 ·intro h;exact UInt8.toNat_inj.1 om
 ·intro h;rw[h]
theorem NO (c:UInt8) (w:World):j2 Tryz.prog 268 #[.int .u8 c.toNat] w (v8 w (.bool (G5 c))):=by
 refine enterZ (cx 17) [.int .u8 c.toNat] [.tmp 2] Tryz.func268 ?_;refine k7 _ (λw' hm=>wW c w') ?_;refine v7 (λh1=>?_) λh1=>?_
 ·exact⟨[],⟨by unfold G5;rw[h1];rfl,rfl⟩,pk [0]⟩
 ·refine k7 _ (λw' hm=>dT c w') ?_;refine v7 (λh2=>?_) λh2=>?_
  ·exact⟨[],⟨by unfold G5;rw[h2,lX];rfl,rfl⟩,pk [0]⟩
  ·refine d9 (λh3=>?_) λh3=>?_
   ·have e:c=45:=UInt8.toNat_inj.1 (by show c.toNat=45;omega);exact⟨[],⟨by unfold G5;rw[decide_eq_true e,lX];rfl,rfl⟩,pk [0]⟩
   ·have e : ¬ c=45:=λe=>h3 (by rw[e];rfl);have:=HB c 95;exact⟨[],⟨by unfold G5;rw[h1,h2,decide_eq_false e,<-this];rfl,rfl⟩,pk [0]⟩
theorem MT (c:UInt8) (w:World):j2 Tryz.prog 229 #[.int .u8 c.toNat] w (v8 w (.bool (decide (c=34)))):=by
 refine enterZ (cx 5) [.int .u8 c.toNat] [.tmp 2] Tryz.func229 ?_;have:=HB c 34;exact⟨[],⟨by rw[<-this];rfl,rfl⟩,pk [0]⟩
theorem NC (c:UInt8) (w:World):j2 Tryz.prog 231 #[.int .u8 c.toNat] w (v8 w (.bool true)):=by
 refine enterZ (cx 3) [.int .u8 c.toNat] [.tmp 2] Tryz.func231 ?_;exact⟨[],⟨rfl,rfl⟩,pk [0]⟩
theorem rB (f:UInt8->Bool) (l:d8):s9 f l<=l.length:=by
 unfold s9;have:=List.takeWhile_append_dropWhile (p:=f) (l:=l);have h:=congrArg H4 this;rw[d6] at h;omega
theorem nF (f:UInt8->Bool) :∀l:d8,(l.take (s9 f l)).all f=true
 | []=>rfl
 | c::l=>by
  by_cases h:f c=true
  ·have e:s9 f (c::l)=s9 f l+1:=by unfold s9;rw[B6,if_pos h];rfl
   rw[e,UM,S3,h,nF f l];rfl
  ·have e:s9 f (c::l)=0:=by unfold s9;rw[B6,if_neg h];rfl
   rw[e];rfl
theorem FR (f:UInt8->Bool) (l:d8):0 < s9 f l↔0 < l.length/\f (l.getD 0 0)=true:=by
 cases l with
 | nil=>unfold s9;simp
 | cons c l=>
  unfold s9;rw[B6];by_cases h:f c=true
  ·rw[if_pos h];simp[h]
  ·rw[if_neg h];simp[h]
theorem IQ {f:UInt8->Bool} {l:d8} {k:Nat} (hk:k<=l.length) (ha :∀i,i < k->f (l.getD i 0)=true) (hn:k < l.length->f (l.getD k 0)=false):s9 f l=k:=by
 induction l generalizing k with
 | nil=>simp at hk;subst hk;rfl
 | cons c l ih=>
  cases k with
  | zero=>
   have:=hn sQ;have h:f c=false:=this;unfold s9;rw[B6,if_neg (by rw[h];decide)];rfl
  | succ k=>
   have h:f c=true:=ha 0 om;have:=ih (k:=k) (by simpa using hk) (λi hi=>ha (i+1) om) (λhl=>hn (by simpa using hl));unfold s9 at *;rw[B6,if_pos h,d7,this]
theorem tL (g:Nat) (f:UInt8->Bool) (s:d8) (hs:s.length < 1000000000) (w:World) (hf :∀w' (c:UInt8),j2 Tryz.prog g #[.int .u8 c.toNat] w' (v8 w' (.bool (f c)))) :
  j2 Tryz.prog 235 #[sv s,.func (.func g) #[] #[]] w (v8 w (iQ (s9 f s))):=by
 have hz:=C8 s;refine enterZ (cx 20) [sv s,.func (.func g) #[] #[]] [.tmp 4] Tryz.func235 ?_;refine z6.mk Nat (λk=>[(0,.v (sv s)),(1,.v (.func (.func g) #[] #[])),(5,.v (iQ k))]) (λ_=>[.hp (Hp.whole w)])
  (λk=>k<=s.length/\∀i,i < k->f (s.getD i 0)=true) (λk=>s.length - k) 0 ⟨j0 _,λi hi=>by omega⟩ (y6.mk (λ_ _ h=>h) rfl rfl) ?_
 rintro k ⟨hk,ha⟩;dsimp only at *;refine d9 (λh1=>?_) λh1=>?_
 ·have hk':k < s.length:=om
  refine aB cQ rfl rfl k rfl hk' ?_;refine k7 _ (λw' hm=>hf w' (s.getD k 0)) ?_;refine v7 (λh3=>?_) λh3=>?_
  ·refine nwo ?_;exact⟨k+1,⟨om,λi hi=>by
    rcases M9 i k with h | h
    ·exact ha i h
    ·have:i=k:=om
     rw[this];exact h3⟩,om,y6.mk (λ_ _ h=>h) rfl rfl⟩
  ·exact⟨[],⟨by rw[IQ hk ha λ_=>h3],rfl⟩,pk [0]⟩
 ·exact⟨[],⟨by rw[IQ hk ha λh=>absurd h om],rfl⟩,pk [0]⟩
def MC (r:Nat×d8×Int):Value:=.tuple #[iQ r.1,sv r.2.1,iQ r.2.2]
def HS (s:d8):Nat×d8×Int:=if 40 < s9 G5 s then (0,[],5) else (s9 G5 s,s.take (s9 G5 s),0)
theorem RC (s:d8) (hs:s.length < 1000000000) (w:World):j2 Tryz.prog 226 #[sv s] w (v8 w (MC (HS s))):=by
 refine enterZ (cx 13) [sv s] [.tmp 2,.tmp 3,.tmp 4] Tryz.func226 ?_;refine k7 _ (λw' hm=>tL 268 G5 s hs w' λw' c=>NO c w') ?_;refine d9 (λh1=>?_) λh1=>?_
 ·exact⟨[],⟨by unfold HS;rw[if_pos om];rfl,rfl⟩,pk [0]⟩
 ·refine u6.by_order cQ (.take 0 <| .take 1 <| .take 2 <| .take 3 <| .take 4 <| .take 5 <| .take 6 <| .done) kr ?_;refine nN cQ rfl rfl 0 (s9 G5 s) (.inl ⟨rfl,rfl⟩) (.inr ⟨_,_,rfl,rfl⟩) om (rB _ _) ?_;rw[G6];exact⟨[],⟨by unfold HS;rw[if_neg om];rfl,rfl⟩,pk [0]⟩
def GE (s:d8):Nat×d8×Int:=if 400 < (N0 s).1 then (0,[],5) else if V8 (s.take (N0 s).1) (N0 s).2=true then ((N0 s).1,s.take (N0 s).1,0) else (0,[],3)
theorem pM (s:d8) (k i:Nat):(s.drop k).getD i 0=s.getD (k+i) 0:=by
 rw[e8,bY,<-e8]
set_option maxHeartbeats 400000 in
set_option maxRecDepth 20000 in
theorem JI (s:d8) (hs:s.length < 900000) (h0:0 < s.length) (hd:k9 (s.getD 0 0)=true) (w:World):j2 Tryz.prog 228 #[sv s] w (fQ w λv cs=>cs = []/\v=MC (GE s)):=by
 have hz:=C8 s;have hk0:0 < s9 k9 s:=(FR k9 s).2 ⟨h0,hd⟩;have hkl:=rB k9 s;have hka:=nF k9 s;have hpos:=FR k9 (s.drop (s9 k9 s+1));rw[pM,j9,E7] at hpos;have hml:=rB k9 (s.drop (s9 k9 s+1));rw[j9] at hml;have hma:=nF k9 (s.drop (s9 k9 s+1));have hN1:s.getD (s9 k9 s) 0=47/\s9 k9 s < s.length/\0 < s9 k9 (s.drop (s9 k9 s+1))->N0 s=(s9 k9 s+1+s9 k9 (s.drop (s9 k9 s+1)),s9 k9 s):=λh=>by unfold N0;dsimp only;rw[if_pos h]
 have hN2 : ¬ (s.getD (s9 k9 s) 0=47/\s9 k9 s < s.length/\0 < s9 k9 (s.drop (s9 k9 s+1)))->N0 s=(s9 k9 s,s9 k9 s):=λh=>by unfold N0;dsimp only;rw[if_neg h]
 have hrun :∀w',j2 Tryz.prog 235 #[sv s,.func (.func 227) #[] #[]] w' (v8 w' (iQ (s9 k9 s))):=λw'=>tL 227 k9 s om w' λw' c=>dT c w';have hrun2 :∀w',j2 Tryz.prog 235 #[sv (s.drop (s9 k9 s+1)),.func (.func 227) #[] #[]] w' (v8 w' (iQ (s9 k9 (s.drop (s9 k9 s+1))))):=λw'=>tL 227 k9 _ (by rw[j9];omega) w' λw' c=>dT c w';generalize s9 k9 s=k at *;generalize s9 k9 (s.drop (k+1))=m at *;have hint:k<=400->(X9 400 (s.take k)=0↔V8 (s.take k) k=true):=λh=>by
  have hl:(s.take k).length=k:=by rw[j1];omega
  have:=AB hka om om;rwa [hl] at this
 refine enterZ (cx 49) [sv s] [.tmp 2,.tmp 3,.tmp 4] Tryz.func228 ?_;refine k7 _ (λw' hm=>hrun w') ?_;refine nwo ?_;refine d9 (λh1=>?_) λh1=>?_;focus
  have h1:k+1 < s.length:=om
  refine aB cQ rfl rfl k rfl om ?_;generalize hc0:s.getD k 0=c0 at *;conv=>whnf
  refine d9 (λh3=>?_) λh3=>?_
  ·have h3:c0=47:=UInt8.toNat_inj.1 (by show c0.toNat=47;omega);refine aB cQ rfl rfl (k+1) om om ?_;generalize hc1:s.getD (k+1) 0=c1' at *;refine k7 _ (λw' hm=>dT c1' w') ?_;refine v7 (λh5=>?_) λh5=>?_;focus
    have hm0:=hpos.2 ⟨om,h5⟩;have hN:=hN1 ⟨h3,om,hm0⟩;refine nN cQ rfl rfl (k+1) s.length (.inr ⟨_,_,rfl,om⟩) (.inl ⟨rfl,rfl⟩) om (j8 _) ?_;rw[q8];refine k7 _ (λw' hm=>hrun2 w') ?_;refine AK (y:=((k+1+m:Nat):Int)) om om om ?_;have hcan:k+1+m<=400->(X9 400 (s.take (k+1+m))=0↔V8 (s.take (k+1+m)) k=true):=λh=>by
     have hl:(s.take k).length=k:=by rw[j1];omega
     have hl2:((s.drop (k+1)).take m).length=m:=by rw[j1,j9];omega
     have e:s.take (k+1+m)=s.take k++47::(s.drop (k+1)).take m:=by
      rw[UW,I9 s k om];have:s[k]=47:=by rw[<-h3,<-hc0,e8,i7 om];rfl
      rw[this];simp
     have:=IU hka hma om om (by rw[<-e,j1];omega);rw[<-e,hl] at this;exact this
    generalize hNN:k+1+m=N at *
   rotate_left
   focus
    have hN:=hN2 λh=>by have:=(hpos.1 h.2.2).2;rw[h5] at this;cases this
    have hcan:=hint;generalize hNN:k=N at *
   all_goals
    refine d9 (λh6=>?_) λh6=>?_
    ·exact⟨[],⟨rfl,by unfold GE;rw[hN,if_pos (by dsimp only;omega)];rfl⟩,pk [0]⟩
    ·have hc:=hcan om;refine nN cQ rfl rfl 0 N (.inl ⟨rfl,rfl⟩) (.inr ⟨_,_,rfl,rfl⟩) om om ?_;rw[G6];refine call (λw' hm=>U9 (s.take N) (by rw[j1];omega) w') ?_;rintro _ _ ⟨g,rfl,n1,a1,k1,c1,a2,k2,c2,x,y,rfl,hR⟩;intro b6;refine d9 (λh7=>?_) λh7=>?_
     ·have : ¬ V8 (s.take N) (N0 s).2=true:=λg=>h7 (hc.2 (by rw[hN] at g;exact g));exact⟨[],⟨rfl,by unfold GE;rw[hN] at this ⊢;rw[if_neg (by dsimp only;omega),if_neg this];rfl⟩,pk [0]⟩
     ·have h7:X9 400 (s.take N)=0:=by simpa using h7
      have:V8 (s.take N) (N0 s).2=true:=by rw[hN];exact hc.1 h7
      refine u6.by_order cQ (.take 0 <| .take 1 <| .take 2 <| .take 3 <| .take 4 <| .take 5 <| .take 6 <| .done) kr ?_;refine nN cQ rfl rfl 0 N (.inl ⟨rfl,rfl⟩) (.inr ⟨_,_,rfl,rfl⟩) om om ?_;rw[G6];exact⟨[],⟨rfl,by unfold GE;rw[hN] at this ⊢;rw[if_neg (by dsimp only;omega),if_pos this];rfl⟩,pk [0]⟩
  focus
   have hN:=hN2 λh=>h3 (by rw[h.1];rfl)
 rotate_left
 focus
  have hN:=hN2 λh=>by have:=(hpos.1 h.2.2).1;omega
 all_goals
  have hcan:=hint;generalize hNN:k=N at *;refine d9 (λh6=>?_) λh6=>?_
  ·exact⟨[],⟨rfl,by unfold GE;rw[hN,if_pos (by dsimp only;omega)];rfl⟩,pk [0]⟩
  ·have hc:=hcan om;refine nN cQ rfl rfl 0 N (.inl ⟨rfl,rfl⟩) (.inr ⟨_,_,rfl,rfl⟩) om om ?_;rw[G6];refine call (λw' hm=>U9 (s.take N) (by rw[j1];omega) w') ?_;rintro _ _ ⟨g,rfl,n1,a1,k1,c1,a2,k2,c2,x,y,rfl,hR⟩;intro b6;refine d9 (λh7=>?_) λh7=>?_
   ·have : ¬ V8 (s.take N) (N0 s).2=true:=λg=>h7 (hc.2 (by rw[hN] at g;exact g));exact⟨[],⟨rfl,by unfold GE;rw[hN] at this ⊢;rw[if_neg (by dsimp only;omega),if_neg this];rfl⟩,pk [0]⟩
   ·have h7:X9 400 (s.take N)=0:=by simpa using h7
    have:V8 (s.take N) (N0 s).2=true:=by rw[hN];exact hc.1 h7
    refine u6.by_order cQ (.take 0 <| .take 1 <| .take 2 <| .take 3 <| .take 4 <| .take 5 <| .take 6 <| .done) kr ?_;refine nN cQ rfl rfl 0 N (.inl ⟨rfl,rfl⟩) (.inr ⟨_,_,rfl,rfl⟩) om om ?_;rw[G6];exact⟨[],⟨rfl,by unfold GE;rw[hN] at this ⊢;rw[if_neg (by dsimp only;omega),if_pos this];rfl⟩,pk [0]⟩
end Go.Proofs.YtpjhmeicbjkcdaaGreatDoor
namespace Go.Proofs
open Go.Shelf
def Tryz.lFi_ren:Go.Shelf.Ren:=⟨λ| 157=>270 | 229=>294 | 199=>295 | 261=>317 | 311=>333 | 312=>334 | n=>n,λ| 9=>9 | 31=>69 | 3=>3 | 5=>5 | 4=>4 | 119=>346 | 0=>0 | 40=>186 | 152=>377 | 21=>21 | 154=>379 | 51=>247 | 141=>381 | 196=>401 | 193=>398 | 198=>403 | 49=>62 | 194=>399 | 201=>406 | 226=>413 | 46=>135 | 227=>414 | n=>n,λ| 0=>2 | 6=>5 | n=>n⟩
theorem Tryz.lFi:Go.Proofs.Lays.n157 Tryz.prog Tryz.lFi_ren:={
 mixed:=kr
 f157:=Tryz.func270.trans (congrArg some kr)
 f199:=Tryz.func295.trans (congrArg some kr)
 f229:=Tryz.func294.trans (congrArg some kr)
 f261:=Tryz.func317.trans (congrArg some kr)
 f311:=Tryz.func333.trans (congrArg some kr)
 f312:=Tryz.func334.trans (congrArg some kr)
 t0:=Tryz.underlying0
 a0:=Tryz.isAgg0
 z0:=Tryz.sizeOf0
 v0:=Tryz.zeroValue0
 t3:=Tryz.underlying3
 a3:=Tryz.isAgg3
 z3:=Tryz.sizeOf3
 v3:=Tryz.zeroValue3
 t4:=Tryz.underlying4
 a4:=Tryz.isAgg4
 z4:=Tryz.sizeOf4
 v4:=Tryz.zeroValue4
 t5:=Tryz.underlying5
 a5:=Tryz.isAgg5
 z5:=Tryz.sizeOf5
 v5:=Tryz.zeroValue5
 t9:=Tryz.underlying9
 a9:=Tryz.isAgg9
 z9:=Tryz.sizeOf9
 v9:=Tryz.zeroValue9
 t21:=Tryz.underlying21
 a21:=Tryz.isAgg21
 z21:=Tryz.sizeOf21
 v21:=Tryz.zeroValue21
 t31:=Tryz.underlying69
 a31:=Tryz.isAgg69
 z31:=Tryz.sizeOf69
 v31:=Tryz.zeroValue69
 t40:=Tryz.underlying186
 a40:=Tryz.isAgg186
 z40:=Tryz.sizeOf186
 v40:=Tryz.zeroValue186
 t46:=Tryz.underlying135
 a46:=Tryz.isAgg135
 z46:=Tryz.sizeOf135
 v46:=Tryz.zeroValue135
 t49:=Tryz.underlying62
 a49:=Tryz.isAgg62
 z49:=Tryz.sizeOf62
 v49:=Tryz.zeroValue62
 t51:=Tryz.underlying247
 a51:=Tryz.isAgg247
 z51:=Tryz.sizeOf247
 v51:=Tryz.zeroValue247
 t119:=Tryz.underlying346
 a119:=Tryz.isAgg346
 z119:=Tryz.sizeOf346
 t141:=Tryz.underlying381
 a141:=Tryz.isAgg381
 z141:=Tryz.sizeOf381
 v141:=Tryz.zeroValue381
 t152:=Tryz.underlying377
 a152:=Tryz.isAgg377
 z152:=Tryz.sizeOf377
 v152:=Tryz.zeroValue377
 t154:=Tryz.underlying379
 a154:=Tryz.isAgg379
 z154:=Tryz.sizeOf379
 v154:=Tryz.zeroValue379
 t193:=Tryz.underlying398
 a193:=Tryz.isAgg398
 z193:=Tryz.sizeOf398
 v193:=Tryz.zeroValue398
 t194:=Tryz.underlying399
 a194:=Tryz.isAgg399
 z194:=Tryz.sizeOf399
 v194:=Tryz.zeroValue399
 t196:=Tryz.underlying401
 a196:=Tryz.isAgg401
 z196:=Tryz.sizeOf401
 v196:=Tryz.zeroValue401
 t198:=Tryz.underlying403
 a198:=Tryz.isAgg403
 z198:=Tryz.sizeOf403
 v198:=Tryz.zeroValue403
 t201:=Tryz.underlying406
 a201:=Tryz.isAgg406
 z201:=Tryz.sizeOf406
 v201:=Tryz.zeroValue406
 t226:=Tryz.underlying413
 a226:=Tryz.isAgg413
 z226:=Tryz.sizeOf413
 v226:=Tryz.zeroValue413
 t227:=Tryz.underlying414
 a227:=Tryz.isAgg414
 z227:=Tryz.sizeOf414
 v227:=Tryz.zeroValue414
 g0:=kr
 g6:=by kernel_rfl }
end Go.Proofs
namespace Go.Proofs.YtpjhmeicbjkcdaaGreatDoor
open Go Go.RowKit Go.Dw
def fS (x:d8):List Value:=[sv x]
def uT (h:Hp):Prop:=∀c:Nat,c < 256->h.cell? ⟨2,c,none⟩=some (.int .u8 (if Lib.isSp (UInt8.ofNat c) then 1 else 0))
theorem uT.mono {h k:Hp} (ht:uT h) (l:h.le k):uT k:=λj hj=>l.cell (ht j hj)
def Eu:d8:=[46,46,32,60,61,32,62,61,32,45,62,32,123,32,125,32,40,32,41,32,91,32,93,32,44,32,59,32,58,32,61,32,60,32,62,32,43,32,45,32,42,32,47,32,64]
theorem KN (s:d8) (hs:s.length < 100000) (ha:s.all (λb=>decide (b.toNat < 128))=true) (hn:(Lib.fields s).length < 100000) (w:World) (hT:uT (Hp.whole w)) :
  j2 Tryz.prog 270 #[sv s] w (fQ w λv cs=>∃g a n c,cs = [.hp g]/\v=.slice a n c/\Sl (E0 fS) 1 g a n c (Lib.fields s)):=by
 have he:=enters_of (args:=#[sv s]) Tryz.func270 kr rfl;have hasc :∀(j:Nat) b,(bs s).data.toList[j]?=some b->b.toNat < 128:=λj b h=>by
  have:=s7.1 ha b (eE h);simpa using this
 have hcon:=Any.strings_Fields_core Tryz.lFi kr (bs s) w (by rw[C8];omega) hasc (λc hc=>(Hp.whole_in w).cell (hT c hc));change Calls Tryz.prog 270 _ _ _ at hcon
 refine⟨he,hcon.mono ?_⟩;rintro e w' ⟨rfl,rfl⟩;rw[lN];have hb:=w5.ofBox (f:=fS) (sz:=1) (b:=w.heap.size) (T:=9) (λ_=>rfl) (Lib.fields s) rfl rfl om;have hsl:=w5.sl (f:=fS) (sz:=1) (λ_=>rfl) dc hb;refine⟨_,[.hp (Ch.box w.heap.size ((Lib.fields s).flatMap fS) 9).h],rfl,?_,_,_,_,_,rfl,rfl,hsl⟩;have h0:=(Ok.start w).alloc (.box w.heap.size ((Lib.fields s).flatMap fS) 9) (.cells ((Lib.fields s).flatMap fS).toArray 9 (0,0)) rfl;have e:(Lib.fields s).map (λl=>Value.string ⟨l.toArray⟩)=(Lib.fields s).flatMap fS:=by
  generalize Lib.fields s=F;induction F with
  | nil=>rfl
  | cons x r ih=>rw[M2,ih];rfl
 rw[<-e] at h0 ⊢;exact h0.boxHp
def kV:List d8:=Z4++CK.map λc=>[c]
theorem xC:Lib.fields Eu=kV:=by decide +kernel
def VM (s:d8):Nat×d8×Int:=if W3 s=0 then (0,[],14) else (W3 s,s.take (W3 s),0)
theorem BC {α:Type} {p q:α->Bool} :∀{l:List α},(∀x∈l,p x=q x)->l.find? p=l.find? q
 | [],_=>rfl
 | x::l,h=>by
  rw[List.find?_cons,List.find?_cons,h x sQ,BC λy hy=>h y (B8 _ hy)]
theorem RK (s:d8):VM s=match kV.find? (Y0 s) with | some x=>(x.length,x,0) | none=>(0,[],14):=by
 have h2 :∀x∈Z4,Y0 s x=decide (s.take 2=x):=λx hx=>by
  have hl:x.length=2:=by
   simp only[Z4,p9,G4,or_false] at hx;rcases hx with rfl | rfl | rfl | rfl <;> rfl
  unfold Y0;rw[hl];by_cases h:s.take 2=x
  ·have:2<=s.length:=by
    have:=congrArg H4 h;rw[j1,hl] at this;omega
   rw[decide_eq_true this,decide_eq_true h];rfl
  ·rw[decide_eq_false h,Bool.and_false]
 have hf2:Z4.find? (Y0 s)=Z4.find? λx=>decide (s.take 2=x):=BC h2;unfold kV;rw[List.find?_append,hf2];unfold VM W3;cases hc:Z4.find? (λx=>decide (s.take 2=x)) with
 | some x=>
  have h1:=List.find?_some hc;have hm:=Ov hc;rw[decide_eq_true_eq] at h1;have hany:(Z4.any λx=>decide (s.take 2=x))=true:=E5.2 ⟨x,hm,decide_eq_true h1⟩;have hl:x.length=2:=by
   simp only[Z4,p9,G4,or_false] at hm;rcases hm with rfl | rfl | rfl | rfl <;> rfl
  rw[if_pos hany,if_neg dc];show (2,s.take 2,(0:Int))=(x.length,x,0)
  rw[h1,hl]
 | none=>
  have hany : ¬ (Z4.any λx=>decide (s.take 2=x))=true:=λh=>by
   obtain⟨x,hx,h1⟩:=E5.1 h;have:=jP.1 hc x hx;exact this h1
  rw[if_neg hany];rw[Option.none_or,List.find?_map];have hp1:(Y0 s∘λc=>[c])=λc=>(decide (s.getD 0 0=c) && decide (0 < s.length)):=funext λc=>AG s c;rw[hp1];cases hc1:CK.find? (λc=>(decide (s.getD 0 0=c) && decide (0 < s.length))) with
  | some c=>
   have h1:=List.find?_some hc1;have hm:=Ov hc1;rw[j4,decide_eq_true_eq,decide_eq_true_eq] at h1;have hc3:s.length≠0/\s.getD 0 0∈CK:=⟨om,by rw[h1.1];exact hm⟩
   rw[if_pos hc3,if_neg dc];cases s with
   | nil=>simp at h1
   | cons d r=>have:d=c:=h1.1;subst this;rfl
  | none=>
   have hn : ¬ (s.length≠0/\s.getD 0 0∈CK):=λh=>by
    have:=jP.1 hc1 _ h.2;rw[decide_eq_true rfl,decide_eq_true (show 0 < s.length by omega)] at this;exact this rfl
   simp only[if_neg hn,if_true];rfl
theorem IH (s:d8) (w:World) (hT:uT (Hp.whole w)):j2 Tryz.prog 232 #[sv s] w (fQ w λv cs=>cs = []/\v=MC (VM s)):=by
 rw[RK];refine enterZ (cx 20) [sv s] [.tmp 2,.tmp 3,.tmp 4] Tryz.func232 ?_;refine call (λw' hm=>KN Eu dc dc (by rw[xC];decide) w' (hT.mono (hm 0 _ rfl).whole)) ?_;rintro _ _ ⟨g,a,n,c,rfl,rfl,hF⟩;rw[xC] at hF;have hn:=hF.len;refine z6.mk Nat (λk=>[(0,.v (sv s)),(7,.v (.slice a n c)),(8,.v (iQ n)),(9,.v (iQ k))]) (λ_=>[.hp (Hp.whole w),.hp g])
  (λk=>k<=kV.length/\∀x∈kV.take k,Y0 s x=false) (λk=>kV.length - k) 0 ⟨j0 _,nofun⟩ (y6.mk (λ_ _ h=>h) rfl rfl) ?_
 rintro k ⟨hk,ha⟩;dsimp only at *;have hL:kV.length=21:=rfl;refine d9 (λh1=>?_) λh1=>?_
 ·have hk':k < kV.length:=om
  refine R2 cQ (e:=9) rfl hF k rfl hk' λb9 o9 cs hcs hR hcell2=>?_;subst hR;refine lQ 1 (hcell2 0 _ rfl) ?_;have hfd:Y0 s kV[k]=true->kV.find? (Y0 s)=some kV[k]:=λh=>by
   have e:kV=kV.take k++kV[k]::kV.drop (k+1):=by rw[<-q6 hk',F8]
   have hnone:(kV.take k).find? (Y0 s)=none:=jP.2 λx hx=>by rw[ha x hx];decide
   conv=>lhs;rw[e]
   rw[List.find?_append,hnone,List.find?_cons,h];rfl
  have htk:=I9 kV k hk';generalize kV[k]=x at *;have hxz:=C8 x;refine k7 _ (λw' hm=>AY s x w') ?_;refine v7 (λh3=>?_) λh3=>?_
  ·rw[hfd h3];exact⟨[],⟨rfl,by unfold MC;rw[hxz]⟩,pk [0]⟩
  ·refine nwo ?_;exact⟨k+1,⟨om,λy hy=>by
    rw[htk] at hy;rcases y8.1 hy with h | h
    ·exact ha y h
    ·rw[v6] at h;rw[h];exact h3⟩,om,y6.mk (λ_ _ h=>h) rfl rfl⟩
 ·rw[o6 om] at ha;have hnone:kV.find? (Y0 s)=none:=jP.2 λx hx=>by rw[ha x hx];decide
  rw[hnone];exact⟨[],⟨rfl,rfl⟩,pk [0]⟩
end Go.Proofs.YtpjhmeicbjkcdaaGreatDoor
namespace Go.Proofs.YtpjhmeicbjkcdaaGreatDoor
open Go Go.RowKit Go.Dw
def Jq:List d8:=[[34],[92,34],[92],[92,92]]
def AN:Value:=zl
def IT (s34 s92 tr:Value):List Value:=m6 34 AN++(s34::(m6 57 AN++(s92::(m6 163 AN++[tr]))))
def CT (h:Hp) (x:UInt8) (v:Value):Prop:=∃b c,v=.slice (some ⟨b,0,none⟩) 2 c/\h.cell? ⟨b,0,none⟩=some (.int .u8 92)/\h.cell? ⟨b,1,none⟩=some (.int .u8 x.toNat)
theorem CT.mono {h k:Hp} {x:UInt8} {v:Value} (hT:CT h x v) (l:h.le k):CT k x v:=by
 obtain⟨b,c,h1,h2,h3⟩:=hT;exact⟨b,c,h1,l.cell h2,l.cell h3⟩
theorem WC {s:List Ch} {i b T c:Nat} {x:UInt8} (hi:l7 s i=some (.box b [.int .u8 x.toNat] T)) {q:TV->Prop} (h:q (.v (sv [x]))):C9 Tryz.prog s (convert 68 9 (.slice (some ⟨b,0,none⟩) 1 c)) q:=by
 refine⟨_,λw hm=>?_,h⟩;rw[run_convert_bytes_arg w 68 5 Tryz.underlying68 Tryz.underlying5 b 0 1 c [(x.toNat:Int)] rfl (λj hj=>?_) 9 Tryz.underlying9]
 ·congr 2
  unfold strOfNums bs;congr 2
  exact congrArg (λy=>[y]) (UInt8.toNat_inj.1 sQ)
 ·have:j=0:=om
  subst this;have hb:w.heap[b]?=some (.cells #[.int .u8 x.toNat] T (0,0)):=hm i _ hi b _ (Hp.one_self b _);simp[World.cell?,hb]
structure UQ where
 tr:Dw.Os
 s34:Value
 s92:Value
 hB:Hp
def Ll (j:Nat) (g:UQ):Prop:=match j with
 | 0=>g.s34=AN/\g.s92=AN/\w5 fS 9 1 g.tr []
 | 1=>g.s34=AN/\CT g.hB 92 g.s92/\w5 fS 9 1 g.tr [[92]]
 | 2=>CT g.hB 34 g.s34/\CT g.hB 92 g.s92/\w5 fS 9 1 g.tr [[92],[34]]
 | _=>False
set_option maxRecDepth 100000 in
set_option maxHeartbeats 4000000 in
theorem NZ {b:Nat} {a:Option Addr} {n c:Nat} (w:World) (hc:(Hp.whole w).cell? ⟨b,4,none⟩=some (.slice a n c)) (hL:Sl (E0 fS) 1 (Hp.whole w) a n c Jq) :
  j2 Tryz.prog 261 #[pQ b] w (fQ w λv cs=>∃bq g,v=.iface 352 (pQ bq)/\cs = [.hp g.hB,.box bq (IT g.s34 g.s92 g.tr.v) 351,.hp g.tr.h]/\Ll 2 g):=by
 have hn:=hL.len;have hn:n=4:=hn;subst hn;refine YD (X:=cx 132) cQ (args:=[pQ b]) [.tmp 2] Tryz.func261 rfl rfl rfl rfl rfl ?_;refine lQ 0 hc ?_;refine z6.mk Nat (λk=>[(0,.v (pQ b)),(3,.v (.slice a 4 c)),(4,.v (.bool (decide (k=0)))),(5,.v (iQ (2*k:Nat)))]) (λ_=>[.hp (Hp.whole w)]) (λk=>k<=2) (λk=>2 - k) 0 dc (y6.mk (λ_ _ h=>h) rfl rfl) ?_;intro k hk;match k,hk with
 | 0,_=>
  refine R2 cQ (e:=9) rfl hL 0 rfl dc λb o cs hcs hR hcell=>?_;subst hR;refine lQ 0 (hcell 0 _ rfl) ?_;refine nw dc dc ?_;refine R2 cQ (e:=9) rfl hL 1 rfl dc λb o cs hcs hR hcell=>?_;subst hR;refine lQ 0 (hcell 0 _ rfl) ?_;refine nw dc dc ?_;exact⟨1,dc,dc,y6.mk (λ_ _ h=>h) rfl rfl⟩
 | 1,_=>
  refine R2 cQ (e:=9) rfl hL 2 rfl dc λb o cs hcs hR hcell=>?_;subst hR;refine lQ 0 (hcell 0 _ rfl) ?_;refine nw dc dc ?_;refine R2 cQ (e:=9) rfl hL 3 rfl dc λb o cs hcs hR hcell=>?_;subst hR;refine lQ 0 (hcell 0 _ rfl) ?_;refine nw dc dc ?_;exact⟨2,dc,dc,y6.mk (λ_ _ h=>h) rfl rfl⟩
 | 2,_=>
  refine Ju 4 2 2 rfl rfl dc dc dc ?_;refine Ph (f:=fS) cQ (e:=9) rfl 2 rfl rfl dc dc λtr htr=>?_;intro bq;refine nw dc dc ?_;refine z6.mk (Nat×UQ) (λg=>[(0,.v (pQ b)),(3,.v (.slice a 4 c)),(11,.bx 2 0),(12,.v (iQ (2 - 2*(g.1:Nat):Int)))]) (λg=>[.hp (Hp.whole w),.hp g.2.hB,.box bq (IT g.2.s34 g.2.s92 g.2.tr.v) 351,.hp g.2.tr.h]) (λg=>g.1<=2/\Ll g.1 g.2) (λg=>2 - g.1) (0,⟨tr,AN,AN,Hp.emp⟩) ⟨j0 _,rfl,rfl,htr⟩ (y6.mk (λ_ _ h=>Ok.pick [0,3,2,1] rfl rfl h.emp) rfl rfl) ?_;rintro⟨j,tr,s34,s92,hB⟩ ⟨hj,hI⟩;dsimp only at *;match j,hj with
  | 0,_=>
   obtain⟨rfl,rfl,htr⟩:=hI;refine R2 cQ (e:=9) rfl hL 2 rfl dc λb o cs hcs hR hcell=>?_;subst hR;refine lQ 0 (hcell 0 _ rfl) ?_;refine aB cQ rfl rfl 0 rfl dc ?_;refine nw dc dc ?_;refine R2 cQ (e:=9) rfl hL 3 rfl dc λb o cs hcs hR hcell=>?_;subst hR;refine lQ 0 (hcell 0 _ rfl) ?_;refine MW rfl ?_;intro b121;refine WC (i:=4) (x:=92) rfl ?_;intro b123;refine gZ (f:=fS) cQ (e:=9) rfl (i:=3) rfl htr (j:=5) [92] rfl rfl rfl rfl dc λtr' htr'=>?_;refine Kp cQ rfl rfl rfl rfl λbn cn hn2 hcn hdj=>?_;have hTw:CT hn2 92 (.slice (some ⟨bn,0,none⟩) 2 cn):=⟨bn,cn,rfl,hcn 0 dc,hcn 1 dc⟩
   have hd:hB.dj hn2:=hdj 1 (.hp hB) rfl;refine nw dc dc ?_;exact⟨(1,⟨tr',AN,.slice (some ⟨bn,0,none⟩) 2 cn,hB.join hn2⟩),⟨by dsimp only;omega,⟨rfl,hTw.mono (Hp.le_join_r hd),htr'⟩⟩,by dsimp only;omega,y6.mk (λ_ _ h=>Ok.join (c:=.hp (Hp.whole w)) (d:=.hp hB) (e:=.hp hn2) (s:=[.box bq (IT AN (.slice (some ⟨bn,0,none⟩) 2 cn) tr'.v) 351,.hp tr'.h]) (Ok.pick [0,1,6,2,3] rfl rfl h)) rfl rfl⟩
  | 1,_=>
   obtain⟨rfl,hT92,htr⟩:=hI;refine R2 cQ (e:=9) rfl hL 0 rfl dc λb o cs hcs hR hcell=>?_;subst hR;refine lQ 0 (hcell 0 _ rfl) ?_;refine aB cQ rfl rfl 0 rfl dc ?_;refine nw dc dc ?_;refine R2 cQ (e:=9) rfl hL 1 rfl dc λb o cs hcs hR hcell=>?_;subst hR;refine lQ 0 (hcell 0 _ rfl) ?_;refine MW rfl ?_;intro b121;refine WC (i:=4) (x:=34) rfl ?_;intro b123;refine gZ (f:=fS) cQ (e:=9) rfl (i:=3) rfl htr (j:=5) [34] rfl rfl rfl rfl dc λtr' htr'=>?_;refine Kp cQ rfl rfl rfl rfl λbn cn hn2 hcn hdj=>?_;have hTw:CT hn2 34 (.slice (some ⟨bn,0,none⟩) 2 cn):=⟨bn,cn,rfl,hcn 0 dc,hcn 1 dc⟩
   have hd:hB.dj hn2:=hdj 1 (.hp hB) rfl;refine nw dc dc ?_;exact⟨(2,⟨tr',.slice (some ⟨bn,0,none⟩) 2 cn,s92,hB.join hn2⟩),⟨by dsimp only;omega,⟨hTw.mono (Hp.le_join_r hd),hT92.mono (Hp.le_join_l _ _),htr'⟩⟩,by dsimp only;omega,y6.mk (λ_ _ h=>Ok.join (c:=.hp (Hp.whole w)) (d:=.hp hB) (e:=.hp hn2) (s:=[.box bq (IT (.slice (some ⟨bn,0,none⟩) 2 cn) s92 tr'.v) 351,.hp tr'.h]) (Ok.pick [0,1,6,2,3] rfl rfl h)) rfl rfl⟩
  | 2,_=>
   refine⟨_,λw' _=>run_makeInterface (P:=Tryz.prog) (w:=w') 352 _ kr,?_⟩;exact⟨[.hp hB,.box bq (IT s34 s92 tr.v) 351,.hp tr.h],⟨bq,⟨tr,s34,s92,hB⟩,rfl,rfl,hI⟩,λw' h=>h⟩
end Go.Proofs.YtpjhmeicbjkcdaaGreatDoor
namespace Go.Proofs
open Go.Shelf
def Tryz.lSt_ren:Go.Shelf.Ren:=⟨λ| 169=>137 | n=>n,λ| 70=>114 | 9=>9 | 0=>0 | 72=>116 | 37=>68 | 127=>239 | 3=>3 | 5=>5 | n=>n,λ| n=>n⟩
theorem Tryz.lSt:Go.Proofs.Lays.n169 Tryz.prog Tryz.lSt_ren:={
 mixed:=kr
 f169:=Tryz.func137.trans (congrArg some kr)
 t0:=Tryz.underlying0
 a0:=Tryz.isAgg0
 z0:=Tryz.sizeOf0
 v0:=Tryz.zeroValue0
 t3:=Tryz.underlying3
 a3:=Tryz.isAgg3
 z3:=Tryz.sizeOf3
 v3:=Tryz.zeroValue3
 t9:=Tryz.underlying9
 a9:=Tryz.isAgg9
 z9:=Tryz.sizeOf9
 v9:=Tryz.zeroValue9
 t37:=Tryz.underlying68
 a37:=Tryz.isAgg68
 z37:=Tryz.sizeOf68
 v37:=Tryz.zeroValue68
 t70:=Tryz.underlying114
 a70:=Tryz.isAgg114
 z70:=Tryz.sizeOf114
 v70:=Tryz.zeroValue114
 t72:=Tryz.underlying116
 a72:=Tryz.isAgg116
 z72:=Tryz.sizeOf116
 v72:=Tryz.zeroValue116
 t127:=Tryz.underlying239
 a127:=Tryz.isAgg239
 z127:=Tryz.sizeOf239
 v127:=Tryz.zeroValue239 }
def Tryz.lLe_ren:Go.Shelf.Ren:=⟨λ| 170=>136 | n=>n,λ| 70=>114 | 3=>3 | 0=>0 | 72=>116 | 37=>68 | 5=>5 | n=>n,λ| n=>n⟩
theorem Tryz.lLe:Go.Proofs.Lays.n170 Tryz.prog Tryz.lLe_ren:={
 mixed:=kr
 f170:=Tryz.func136.trans (congrArg some kr)
 t0:=Tryz.underlying0
 a0:=Tryz.isAgg0
 z0:=Tryz.sizeOf0
 v0:=Tryz.zeroValue0
 t3:=Tryz.underlying3
 a3:=Tryz.isAgg3
 z3:=Tryz.sizeOf3
 v3:=Tryz.zeroValue3
 t37:=Tryz.underlying68
 a37:=Tryz.isAgg68
 z37:=Tryz.sizeOf68
 v37:=Tryz.zeroValue68
 t70:=Tryz.underlying114
 a70:=Tryz.isAgg114
 z70:=Tryz.sizeOf114
 v70:=Tryz.zeroValue114
 t72:=Tryz.underlying116
 a72:=Tryz.isAgg116
 z72:=Tryz.sizeOf116
 v72:=Tryz.zeroValue116 }
end Go.Proofs
namespace Go.Dw
open Go Go.RowKit
def lO (B:Nat) (w:World):Hp:=λb=>if B<=b then w.heap[b]? else none
theorem UG (B:Nat) (w:World):(lO B w).In w:=λb o h=>by
 unfold lO at h;split at h
 ·exact h
 ·cases h
theorem Ok.above {w0 we w w':World} {h:Hp} (hok:Ok w0 [.hp (Hp.whole we),.hp h] w) (hb:Below we.heap.size w w'):Ok w0 [.hp (Hp.whole we),.hp (lO we.heap.size w')] w':=by
 refine⟨hb.os.trans hok.os,hb.tape.trans hok.tape,hb.output.trans hok.output,q9 hok.size hb.size,j8 _,λi c e=>?_,λi j c d hij e1 e2=>?_⟩
 ·match i,e with
  | 0,e=>
   simp[l7] at e;subst e;intro b o hbo;have h1:we.heap[b]?=some o:=hbo;have hlt:b < we.heap.size:=by
    rcases M9 b we.heap.size with g | g
    ·exact g
    ·rw[Array.getElem?_eq_none g] at h1;cases h1
   have h2:w.heap[b]?=some o:=hok.mem 0 _ rfl b o hbo;rw[hb.block b hlt];exact h2
  | 1,e=>simp[l7] at e;subst e;exact UG _ _
 ·have key:(Ch.hp (Hp.whole we)).h.dj (Ch.hp (lO we.heap.size w')).h:=λb=>by
   by_cases g:b < we.heap.size
   ·right;show lO _ _ b=none;unfold lO;rw[if_neg om]
   ·left;show we.heap[b]?=none;exact Array.getElem?_eq_none om
  match i,j,e1,e2 with
  | 0,0,_,_=>exact absurd rfl hij
  | 1,1,_,_=>exact absurd rfl hij
  | 0,1,e1,e2=>simp[l7] at e1 e2;subst e1;subst e2;exact key
  | 1,0,e1,e2=>simp[l7] at e1 e2;subst e1;subst e2;exact key.symm
theorem zD {we w:World} (h:(Hp.whole we).In w):we.heap.size<=w.heap.size:=by
 refine Nat.le_of_not_lt λg=>?_;have h1:we.heap[w.heap.size]?=some (we.heap[w.heap.size]'g):=Array.getElem?_eq_getElem g;have h2:w.heap[w.heap.size]?=some _:=h _ _ h1;rw[Array.getElem?_eq_none (j8 _)] at h2;cases h2
end Go.Dw
namespace Go.Proofs.YtpjhmeicbjkcdaaGreatDoor
open Go Go.RowKit Go.Dw Go.Shelf
def PV:Go.Shelf.Ren:=⟨λ| 167=>269 | 240=>183 | 276=>216 | n=>n,λ| 0=>0 | 4=>4 | 5=>5 | 9=>9 | 20=>20 | 37=>68 | 70=>114 | 72=>116 | 75=>196 | 80=>206 | 164=>263 | n=>n,λ| n=>n⟩
theorem Pi:Go.Proofs.Lays.n167 Tryz.prog PV where
 mixed:=kr
 f167:=Tryz.func269.trans (congrArg some kr)
 f240:=Tryz.func183.trans (congrArg some kr)
 f276:=Tryz.func216.trans (congrArg some kr)
 t0:=Tryz.underlying0
 a0:=Tryz.isAgg0
 z0:=Tryz.sizeOf0
 v0:=Tryz.zeroValue0
 t4:=Tryz.underlying4
 a4:=Tryz.isAgg4
 z4:=Tryz.sizeOf4
 v4:=Tryz.zeroValue4
 t5:=Tryz.underlying5
 a5:=Tryz.isAgg5
 z5:=Tryz.sizeOf5
 v5:=Tryz.zeroValue5
 t9:=Tryz.underlying9
 a9:=Tryz.isAgg9
 z9:=Tryz.sizeOf9
 v9:=Tryz.zeroValue9
 t20:=Tryz.underlying20
 a20:=Tryz.isAgg20
 z20:=Tryz.sizeOf20
 v20:=Tryz.zeroValue20
 t37:=Tryz.underlying68
 a37:=Tryz.isAgg68
 z37:=Tryz.sizeOf68
 v37:=Tryz.zeroValue68
 t70:=Tryz.underlying114
 a70:=Tryz.isAgg114
 z70:=Tryz.sizeOf114
 v70:=Tryz.zeroValue114
 t72:=Tryz.underlying116
 a72:=Tryz.isAgg116
 z72:=Tryz.sizeOf116
 v72:=Tryz.zeroValue116
 t75:=Tryz.underlying196
 a75:=Tryz.isAgg196
 z75:=Tryz.sizeOf196
 v75:=Tryz.zeroValue196
 t164:=Tryz.underlying263
 a164:=Tryz.isAgg263
 z164:=Tryz.sizeOf263
 v164:=Tryz.zeroValue263
theorem Nb:Go.Proofs.Builder.Extra Tryz.prog PV where
 sizeBuilder:=kr
 liesBuilder:=kr
 t5:=Tryz.underlying5
 a5:=Tryz.isAgg5
 z5:=Tryz.sizeOf5
 v5:=Tryz.zeroValue5
 infoByte:=kr
 cellsByte:=kr
 sizeByte:=kr
 neB5:=dc
theorem Nc:Go.Proofs.Builder.Extra Tryz.prog Tryz.lSt_ren where
 sizeBuilder:=kr
 liesBuilder:=kr
 t5:=Tryz.underlying5
 a5:=Tryz.isAgg5
 z5:=Tryz.sizeOf5
 v5:=Tryz.zeroValue5
 infoByte:=kr
 cellsByte:=kr
 sizeByte:=kr
 neB5:=dc
def UR (B b:Nat) (l:d8) (h:Hp):Prop:=(∃o,h b=some o)/\(B<=b->∀w:World,h.In w->Lib.IsBuilder 116 5 B b (Lib.byteCells l) w)
theorem UR.new (B b:Nat):UR B b [] (Ch.box b [.pointer none,zl] 116).h:=⟨⟨_,Hp.one_self _ _⟩,λhB w hin=>by
 have hb:w.heap[b]?=some (.cells #[.pointer none,zl] 116 (0,0)):=hin b _ (Hp.one_self _ _);exact .inl ⟨hB,zl,hb,⟨rfl,.inl ⟨rfl,rfl⟩⟩,by simp[Value.ownBlock]⟩⟩
theorem UR.ge {we:World} {b:Nat} {l:d8} {h:Hp} (hB:UR we.heap.size b l h) (hd:(Hp.whole we).dj h):we.heap.size<=b:=by
 obtain⟨o,ho⟩:=hB.1;refine Nat.le_of_not_lt λg=>?_;rcases hd b with h1 | h1
 ·have h2:we.heap[b]?=none:=h1;rw[Array.getElem?_eq_getElem g] at h2;cases h2
 ·rw[ho] at h1;cases h1
theorem UR.of {B b:Nat} {l:d8} {w:World} (h:Lib.BuilderAt 116 5 B b (pQ b) (Lib.byteCells l) w):UR B b l (lO B w):=by
 obtain⟨hB,v,hb,hown,hne⟩:=h;refine⟨⟨_,by unfold lO;rw[if_pos hB];exact hb⟩,λ_ w2 hin=>.inr ?_⟩;have up :∀k o,B<=k->w.heap[k]?=some o->w2.heap[k]?=some o:=λk o hk ho=>hin k o (by unfold lO;rw[if_pos hk];exact ho);refine⟨hB,v,up b _ hB hb,⟨hown.1,?_⟩,hne⟩;rcases hown.2 with h0 | ⟨g,cap,cur,e,hg,hh,rest⟩
 ·exact .inl h0
 ·exact .inr ⟨g,cap,cur,e,hg,up g _ hg hh,rest⟩
theorem BR (l:d8) (c:UInt8):Lib.byteCells l++[.int .u8 c.toNat]=Lib.byteCells (l++[c]):=by
 unfold Lib.byteCells;simp
theorem YX {we:World} {h:Hp} {b:Nat} {l:d8} (c:UInt8) (hB:UR we.heap.size b l h) (hBb:we.heap.size<=b) (hl:l.length < 1000000) {q:TV->List Ch->Prop} (k :∀h',UR we.heap.size b (l++[c]) h'->q (.v .nilIface) [.hp (Hp.whole we),.hp h']) :
  P4 Tryz.prog [.hp (Hp.whole we),.hp h] 269 [pQ b,.int .u8 c.toNat] q:=by
 refine⟨λw0 w hok=>⟨enters_of Tryz.func269 kr rfl _,?_⟩⟩;have hcon:=Any.Builder_WriteByte Pi Nb we.heap.size b (Lib.byteCells l) (c.toNat:Int) w (hB.2 hBb w (hok.mem 1 _ rfl)) (by rw[Lib.byteCells_length];omega) (zD (hok.mem 0 _ rfl));change Calls Tryz.prog 269 _ _ _ at hcon
 refine hcon.mono ?_;rintro e w' ⟨rfl,hb,hbel⟩;refine⟨_,_,rfl,hok.above hbel,I5.set (i:=1) (c:=.hp h) rfl (λb cs T e=>by cases e),k _ ?_⟩;rw[BR] at hb;exact UR.of hb
theorem UE {B b:Nat} {l:d8} {h:Hp} (hB:UR B b l h) (hBb:B<=b) (w:World) (hin:h.In w):j2 Tryz.prog 136 #[pQ b] w (v8 w (iQ l.length)):=by
 have hcon:=Any.Builder_Len Tryz.lLe B b (Lib.byteCells l) w (hB.2 hBb w hin);change Calls Tryz.prog 136 _ _ _ at hcon
 refine gX (enters_of Tryz.func136 kr rfl _) hcon ?_;rintro e w' ⟨rfl,rfl⟩;exact⟨by rw[Lib.byteCells_length],Below.refl _ _,j8 _⟩
theorem Dz {we:World} {h:Hp} {b:Nat} {l:d8} (hB:UR we.heap.size b l h) (hBb:we.heap.size<=b) {q:TV->List Ch->Prop} (k :∀h',q (.v (sv l)) [.hp (Hp.whole we),.hp h']) :
  P4 Tryz.prog [.hp (Hp.whole we),.hp h] 137 [pQ b] q:=by
 refine⟨λw0 w hok=>⟨enters_of Tryz.func137 kr rfl _,?_⟩⟩;have hcon:=Any.Builder_String_any Tryz.lSt Nc we.heap.size b l w (hB.2 hBb w (hok.mem 1 _ rfl)) (zD (hok.mem 0 _ rfl));change Calls Tryz.prog 137 _ _ _ at hcon
 refine hcon.mono ?_;rintro e w' ⟨rfl,hbel⟩;exact⟨_,_,rfl,hok.above hbel,I5.set (i:=1) (c:=.hp h) rfl (λb cs T e=>by cases e),k _⟩
def OD (c:UInt8):Prop:=c.toNat < 32\/126 < c.toNat
instance (c:UInt8):Decidable (OD c):=inferInstanceAs (Decidable (_\/_))
theorem dK (c:UInt8) (r:d8) (i:Nat) (out:d8):J3 (c::r) i out=if c=10 then (0,[],4) else if c=34 then (if 4096 < out.length then (0,[],5) else (i+1,out,0)) else if OD c then (i,[],14) else
  if c=92 then (if r.getD 0 0=34\/r.getD 0 0=92 then J3 (r.drop 1) (i+2) (out++[r.getD 0 0]) else (i,[],14)) else J3 r (i+1) (out++[c]):=by
 cases r with
 | nil=>
  unfold J3 OD;simp
 | cons e r=>
  conv=>lhs;unfold J3
  rfl
end Go.Proofs.YtpjhmeicbjkcdaaGreatDoor
namespace Go.Dw
open Go Go.RowKit
section
variable {X:Q2} {all r:List Oper} {o:Oper} {Q:Tm->List Ch->Prop} {t:Tm} {s:List Ch}
theorem Pb (hg:o.guard=none) (h:HT X s t o λtv s'=>putk X.n t o.dst tv λt'=>Q7 X all r Q t' s'):Q7 X all (o::r) Q t s:=by
 unfold Q7 aH;rw[hg];exact h
theorem Oy {j d:Nat} {b:Bool} (hg:o.guard=some (j,b)) (hj:kD all j=some d) (ha:dW t d=some (.v (.bool b))) (h:HT X s ((d,.v (.bool b))::t) o λtv s'=>putk X.n ((d,.v (.bool b))::t) o.dst tv λt'=>Q7 X all r Q t' s'):Q7 X all (o::r) Q t s:=by
 unfold Q7 aH;rw[hg];dsimp only;rw[hj];dsimp only;rw[ha];cases b <;> exact h
theorem Oz {j d:Nat} {w b:Bool} (hg:o.guard=some (j,w)) (hj:kD all j=some d) (ha:dW t d=some (.v (.bool b))) (hy:b=w->HT X s ((d,.v (.bool w))::t) o λtv s'=>putk X.n ((d,.v (.bool w))::t) o.dst tv λt'=>Q7 X all r Q t' s')
  (hn:b = !w->putk X.n ((d,.v (.bool !w))::t) o.dst (.v undef) λt'=>Q7 X all r Q t' s):Q7 X all (o::r) Q t s:=by
 unfold Q7 aH;rw[hg];dsimp only;rw[hj];dsimp only;rw[ha];cases b <;> cases w
 ·exact hy rfl
 ·exact hn rfl
 ·exact hn rfl
 ·exact hy rfl
theorem Pa {j d:Nat} {w:Bool} (hg:o.guard=some (j,w)) (hj:kD all j=some d) (ha:dW t d=some (.v (.bool !w))) (hn:putk X.n ((d,.v (.bool !w))::t) o.dst (.v undef) λt'=>Q7 X all r Q t' s):Q7 X all (o::r) Q t s:=by
 unfold Q7 aH;rw[hg];dsimp only;rw[hj];dsimp only;rw[ha];cases w <;> exact hn
theorem Pc (hg:o.guard=none) (h :∀K:Tm->List Ch->Prop,(∀t s,Q7 X all r Q t s->K t s)->HT X s t o λtv s'=>putk X.n t o.dst tv λt'=>K t' s'):Q7 X all (o::r) Q t s:=Pb hg (h _ λ_ _ h=>h)
theorem w1j {X:Q2} {all r:List Oper} {o:Oper} {Q:Tm->List Ch->Prop} {t:Tm} {s:List Ch} (h :∀K:Tm->List Ch->Prop,(∀t s,Q7 X all r Q t s->K t s)->HT X s t o λtv s'=>putk X.n t o.dst tv λt'=>K t' s') (hg:o.guard=none:=by rfl):Q7 X all (o::r) Q t s:=Pc hg h
theorem Lx {j d:Nat} {b:Bool} (hg:o.guard=some (j,b)) (hj:kD all j=some d) (ha:dW t d=some (.v (.bool b))) (h :∀K:Tm->List Ch->Prop,(∀t s,Q7 X all r Q t s->K t s)->HT X s ((d,.v (.bool b))::t) o λtv s'=>putk X.n ((d,.v (.bool b))::t) o.dst tv λt'=>K t' s'):Q7 X all (o::r) Q t s:=Oy hg hj ha (h _ λ_ _ h=>h)
theorem wGYj {X:Q2} {all r:List Oper} {o:Oper} {Q:Tm->List Ch->Prop} {t:Tm} {s:List Ch} {j d:Nat} {b:Bool} (h :∀K:Tm->List Ch->Prop,(∀t s,Q7 X all r Q t s->K t s)->HT X s ((d,.v (.bool b))::t) o λtv s'=>putk X.n ((d,.v (.bool b))::t) o.dst tv λt'=>K t' s') (hg:o.guard=some (j,b):=by rfl) (hj:kD all j=some d:=by rfl) (ha:dW t d=some (.v (.bool b)):=by rfl):Q7 X all (o::r) Q t s:=Lx hg hj ha h
theorem sW {j d:Nat} {w b:Bool} (hg:o.guard=some (j,w)) (hj:kD all j=some d) (ha:dW t d=some (.v (.bool b))) (hy:b=w->∀K:Tm->List Ch->Prop,(∀t s,Q7 X all r Q t s->K t s)->HT X s ((d,.v (.bool w))::t) o λtv s'=>putk X.n ((d,.v (.bool w))::t) o.dst tv λt'=>K t' s')
  (hn:b = !w->∀K:Tm->List Ch->Prop,(∀t s,Q7 X all r Q t s->K t s)->putk X.n ((d,.v (.bool !w))::t) o.dst (.v undef) λt'=>K t' s):Q7 X all (o::r) Q t s:=Oz hg hj ha (λe=>hy e _ λ_ _ h=>h) (λe=>hn e _ λ_ _ h=>h)
theorem Ly {j d:Nat} {w:Bool} (hg:o.guard=some (j,w)) (hj:kD all j=some d) (ha:dW t d=some (.v (.bool !w))) (hn :∀K:Tm->List Ch->Prop,(∀t s,Q7 X all r Q t s->K t s)->putk X.n ((d,.v (.bool !w))::t) o.dst (.v undef) λt'=>K t' s):Q7 X all (o::r) Q t s:=Pa hg hj ha (hn _ λ_ _ h=>h)
theorem wGNj {X:Q2} {all r:List Oper} {o:Oper} {Q:Tm->List Ch->Prop} {t:Tm} {s:List Ch} {j d:Nat} {w:Bool} (hn :∀K:Tm->List Ch->Prop,(∀t s,Q7 X all r Q t s->K t s)->putk X.n ((d,.v (.bool !w))::t) o.dst (.v undef) λt'=>K t' s) (hg:o.guard=some (j,w):=by rfl) (hj:kD all j=some d:=by rfl) (ha:dW t d=some (.v (.bool !w)):=by rfl):Q7 X all (o::r) Q t s:=Ly hg hj ha hn
theorem HX {j d:Nat} {w:Bool} {x:Array Value} (hg:o.guard=some (j,w)) (hj:kD all j=some d) (ha:dW t d=some (.v (.tuple x))) (hn :∀K:Tm->List Ch->Prop,(∀t s,Q7 X all r Q t s->K t s)->putk X.n t o.dst (.v undef) λt'=>K t' s):Q7 X all (o::r) Q t s:=by
 unfold Q7 aH;rw[hg];dsimp only;rw[hj];dsimp only;rw[ha];exact hn _ λ_ _ h=>h
theorem K9 {c:Operand} {x y:Code} {Q:Dw.Ex->Tm->List Ch->Prop} {b:Bool} (ha:ZJ t c=some (.v (.bool b))) (h1:b=true->WP X x Q t s) (h2:b=false->WP X y Q t s):WP X (.cond c x y) Q t s:=by
 show tvk s t c _
 unfold tvk;rw[ha];exact v7 h1 h2
theorem qX (h:Q t s):Q7 X all [] Q t s:=h
end
end Go.Dw
namespace Go.Proofs.YtpjhmeicbjkcdaaGreatDoor
open Go Go.RowKit Go.Dw
theorem Fk {X:Q2} {c:Code} {Q:Dw.Ex->Tm->List Ch->Prop} {t:Tm} {s:List Ch} (h :∀q':Dw.Ex->Tm->List Ch->Prop,(∀e t s,Q e t s->q' e t s)->WP X c q' t s):WP X c Q t s:=h Q λ_ _ _ h=>h
def VL (s:d8):Nat×d8×Int:=J3 (s.drop 1) 1 []
theorem yR {s:d8} {n:Nat} (h:n < s.length):s.drop n=s.getD n 0::s.drop (n+1):=by
 rw[q6 h,e8,i7 h];rfl
theorem pT {c:UInt8} {k:UInt8} {z:Int} (hz:z=(k.toNat:Int)) (h : ¬ (c.toNat:Int)=z):c≠k:=λe=>h (by rw[e,hz])
theorem fI {c:UInt8} {k:UInt8} {z:Int} (hz:z=(k.toNat:Int)) (h:(c.toNat:Int)=z):c=k:=UInt8.toNat_inj.1 om
set_option maxRecDepth 20000 in
set_option maxHeartbeats 1000000 in
theorem RJ (s:d8) (hs:s.length < 500000) (w:World):j2 Tryz.prog 230 #[sv s] w (fQ w λv cs=>cs = []/\v=MC (VL s)):=by
 have hz:=C8 s;refine enterZ (cx 72) [sv s] [.tmp 2,.tmp 3,.tmp 4] Tryz.func230 ?_;intro b5;refine z6.mkS (Nat×d8×Hp) (λg=>[(0,.v (sv s)),(2,.v (iQ g.1)),(5,.v (pQ b5))]) (λg=>[.hp (Hp.whole w),.hp g.2.2])
  (λg=>1<=g.1/\g.2.1.length < g.1/\J3 (s.drop g.1) g.1 g.2.1=VL s/\g.1<=s.length+1/\UR w.heap.size b5 g.2.1 g.2.2) (λg=>s.length+1 - g.1) (1,[],(Ch.box b5 [.pointer none,zl] 116).h) ⟨j8 _,Nat.zero_lt_one,rfl,by dsimp only;omega,UR.new _ _⟩ (y6.mk (λ_ _ h=>h.boxHp) rfl rfl) ?_
 rintro⟨n,out,h⟩ ⟨hn1,hol,hq,hnl,hB⟩ hsat;dsimp only at *;have hBb:=hB.ge (hsat.dj 0 1 rfl rfl dc);clear hsat;refine Fk λq' hq'=>?_;refine d9 (λh1=>?_) λh1=>?_
 ·have hn:n < s.length:=om
  rw[yR hn,dK,pM,E7,J7] at hq;generalize hd:s.getD (n+1) 0=d at *;refine aB cQ rfl rfl n rfl hn ?_;generalize hc:s.getD n 0=c at *;conv=>whnf
  refine d9 (λh3=>?_) λh3=>?_
  ·have h3:c≠10:=pT (k:=10) rfl h3;rw[if_neg h3] at hq;refine aB cQ rfl rfl n rfl hn ?_;rw[hc];refine d9 (λh5=>?_) λh5=>?_
   ·have h5:c=34:=fI (k:=34) rfl h5;rw[if_pos h5] at hq;refine k7 _ (λw' hm=>UE hB hBb w' (hm 1 _ rfl)) ?_;conv=>whnf
    refine d9 (λh6=>?_) λh6=>?_
    ·rw[if_pos (show 4096 < out.length by clear hq;omega)] at hq;exact hq' _ _ _ ⟨[],⟨rfl,by rw[<-hq];rfl⟩,pk [0]⟩
    ·rw[if_neg (show ¬ 4096 < out.length by clear hq;omega)] at hq;refine d9 (λ_=>?_) (λh7=>absurd h5 (pT (k:=34) rfl h7));refine nwo ?_;refine Dz hB hBb λh'=>?_;exact hq' _ _ _ ⟨[],⟨rfl,by rw[<-hq];rfl⟩,pk [0]⟩
   ·have h5:c≠34:=pT (k:=34) rfl h5;rw[if_neg h5] at hq;refine d9 (λh19=>absurd (fI (k:=34) rfl h19) h5) λ_=>?_;refine d9 (λh20=>?_) λh20=>?_
    ·rw[if_pos (.inl om)] at hq;exact hq' _ _ _ ⟨[],⟨rfl,by rw[<-hq];rfl⟩,pk [0]⟩
    ·refine d9 (λh21=>?_) λh21=>?_
     ·rw[if_pos (.inr om)] at hq;exact hq' _ _ _ ⟨[],⟨rfl,by rw[<-hq];rfl⟩,pk [0]⟩
     ·rw[if_neg (show ¬ OD c by rintro (g | g) <;> omega)] at hq;refine d9 (λh22=>?_) λh22=>?_
      ·have h22:c=92:=fI (k:=92) rfl h22;rw[if_pos h22] at hq;clear h20 h21 h5 h3 h22;show Q7 _ _ _ _ _ _
       refine w1j λK hK=>?_;apply hK;refine w1j λK hK=>?_;refine nwo ?_;(iterate 4 apply hK;refine w1j λK hK=>?_);apply hK;refine sW (by rfl) (by rfl) (by rfl) (λh23 K hK=>?_) λh23 K hK=>?_
       ·have hn2:n+1 < s.length:=by
         have:=of_decide_eq_false h23;omega
        (iterate 2 apply hK;refine wGYj λK hK=>?_);refine nwo ?_;apply hK;refine wGYj λK hK=>?_;refine aB cQ rfl rfl (n+1) om hn2 ?_;rw[hd];(iterate 2 apply hK;refine wGYj λK hK=>?_);apply hK;refine sW (by rfl) (by rfl) (by rfl) (λh25 K hK=>?_) λh25 K hK=>?_;focus
         have h25:d≠34:=pT (k:=34) rfl (of_decide_eq_true h25);(iterate 2 apply hK;refine wGYj λK hK=>?_);refine nwo ?_;apply hK;refine wGYj λK hK=>?_;refine aB cQ rfl rfl (n+1) om hn2 ?_;rw[hd];(iterate 2 apply hK;refine wGYj λK hK=>?_);apply hK;refine w1j λK hK=>?_;apply hK;refine qX ?_;refine K9 (by rfl) (λh27=>?_) λh27=>?_
         ·have h27:d≠92:=pT (k:=92) rfl (of_decide_eq_true h27);rw[if_neg (λg=>g.elim h25 h27)] at hq;exact hq' _ _ _ ⟨[],⟨rfl,by rw[<-hq];rfl⟩,pk [0]⟩
         focus
          have h27:d=92:=fI (k:=92) rfl (B9.1 (of_decide_eq_false h27));rw[if_pos (.inr h27)] at hq
        rotate_left
        focus
         have h25:d=34:=fI (k:=34) rfl (B9.1 (of_decide_eq_false h25));(iterate 4 apply hK;refine wGNj λK hK=>?_);apply hK;refine wGYj λK hK=>?_;apply hK;refine w1j λK hK=>?_;apply hK;refine qX ?_;rw[if_pos (.inl h25)] at hq
        all_goals
         refine nwo ?_;refine aB cQ rfl rfl (n+1) om hn2 ?_;rw[hd];refine YX d hB hBb om λh' hB'=>?_;refine nwo ?_;exact hq' _ _ _ ⟨(n+2,out++[d],h'),⟨by dsimp only;omega,by simp;omega,hq,by dsimp only;omega,hB'⟩,by dsimp only;omega,y6.mk (λ_ _ h=>h) rfl rfl⟩
       ·have h23:=of_decide_eq_true h23;(iterate 5 apply hK;refine wGNj λK hK=>?_);(iterate 5 apply hK;refine HX (by rfl) (by rfl) (by rfl) λK hK=>?_);apply hK;refine wGNj λK hK=>?_;apply hK;refine w1j λK hK=>?_;apply hK;refine qX ?_;have e:d=0:=by rw[<-hd,e8,cT om];rfl
        rw[e,if_neg dc] at hq;exact hq' _ _ _ ⟨[],⟨rfl,by rw[<-hq];rfl⟩,pk [0]⟩
      ·have h22:c≠92:=pT (k:=92) rfl h22;rw[if_neg h22] at hq;refine aB cQ rfl rfl n rfl hn ?_;rw[hc];refine YX c hB hBb om λh' hB'=>?_;refine nwo ?_;exact hq' _ _ _ ⟨(n+1,out++[c],h'),⟨by dsimp only;omega,by simp;omega,hq,by dsimp only;omega,hB'⟩,by dsimp only;omega,y6.mk (λ_ _ h=>h) rfl rfl⟩
  ·have h3:c=10:=j3 λg=>h3 λe=>g (fI (k:=10) rfl e);rw[if_pos h3] at hq;exact hq' _ _ _ ⟨[],⟨rfl,by rw[<-hq];rfl⟩,pk [0]⟩
 ·rw[bZ om] at hq;exact hq' _ _ _ ⟨[],⟨rfl,by rw[<-hq];rfl⟩,pk [0]⟩
end Go.Proofs.YtpjhmeicbjkcdaaGreatDoor
namespace Go.Proofs.YtpjhmeicbjkcdaaGreatDoor
open Go Go.RowKit Go.Dw
def xS (s:d8) (k l c:Nat):List Value:=[sv s,iQ k,iQ l,iQ c]
def LM (h:Hp) (b:Nat) (s:d8) (k l c:Nat):Prop:=jO 295 4 h (some ⟨b,0,none⟩) 1 1 (xS s k l c)
theorem SF (p:Nat×Nat) (l:d8) (c:UInt8):I6 p (l++[c])=aJ (I6 p l) c:=by
 unfold I6;rw[List.foldl_append];rfl
theorem PK (p:Nat×Nat) :∀l:d8,(I6 p l).1<=p.1+l.length/\(I6 p l).2<=p.2+l.length+1:=by
 intro l;induction l generalizing p with
 | nil=>exact⟨j8 _,by show p.2<=p.2+0+1;omega⟩
 | cons c r ih=>
  have h:=ih (aJ p c);have h1:(aJ p c).1<=p.1+1/\(aJ p c).2<=p.2+1+1/\((aJ p c).2=p.2+1\/(aJ p c).2=1):=by
   unfold aJ;split <;> simp
  show (I6 (aJ p c) r).1<=p.1+(r.length+1)/\(I6 (aJ p c) r).2<=p.2+(r.length+1)+1
  rcases h1.2.2 with g | g <;> rw[g] at h <;> omega
theorem MF (s:d8) (a k:Nat) (h:a+k < s.length):(s.drop a).take (k+1)=(s.drop a).take k++[s.getD (a+k) 0]:=by
 have:=I9 (s.drop a) k (by rw[j9];omega);rw[this,List.getElem_drop,e8,i7 h];rfl
theorem SE {s:d8} {b a l c n:Nat} {h:Hp} (w:World) (hin:h.In w) (hP:LM h b s a l c) (hn:a+n<=s.length) (hs:s.length < 1000000) (hl:l < 10000000) (hc:c < 10000000) :
  j2 Tryz.prog 234 #[pQ b,iQ n] w (O3 w h λ_ h' cs=>cs = []/\LM h' b s (a+n) (I6 (l,c) ((s.drop a).take n)).1 (I6 (l,c) ((s.drop a).take n)).2):=by
 refine enterMZ (cx 43) [pQ b,iQ n] hin [] Tryz.func234 ?_;refine z6.mk (Nat×Hp) (λg=>[(0,.v (pQ b)),(4,.v (iQ n)),(5,.v (iQ g.1))]) (λg=>[.hp ((Hp.whole w).minus h),.hp g.2])
  (λg=>g.1<=n/\LM g.2 b s (a+g.1) (I6 (l,c) ((s.drop a).take g.1)).1 (I6 (l,c) ((s.drop a).take g.1)).2) (λg=>n - g.1) (0,h) ⟨j0 _,hP⟩ (y6.mk (λ_ _ h=>h) rfl rfl) ?_
 rintro⟨k,hh⟩ ⟨hk,hQ⟩;dsimp only at *;have hb:=PK (l,c) ((s.drop a).take k);rw[j1] at hb;dsimp only at hb;refine d9 (λh1=>?_) λh1=>?_
 ·have hk':k < n:=om
  have hsn:=SF (l,c) ((s.drop a).take k) (s.getD (a+k) 0);rw[<-MF s a k om] at hsn;generalize hL:(I6 (l,c) ((s.drop a).take k)).1=L at *;generalize hC:(I6 (l,c) ((s.drop a).take k)).2=C at *;have hpp:I6 (l,c) ((s.drop a).take k)=(L,C):=by rw[<-hL,<-hC]
  rw[hpp] at hsn;unfold LM xS at hQ;refine bK (j:=3) cQ (i:=1) rfl hQ rfl rfl ?_;refine nwo ?_;refine US (j:=3) cQ (i:=1) rfl hQ rfl rfl rfl dc rfl λh2 hQ2=>?_;have hQ3:jO 295 4 h2 (some ⟨b,0,none⟩) 1 1 [sv s,iQ ((a+k:Nat):Int),iQ L,iQ ((C:Int)+1)]:=hQ2;refine u6.by_order cQ (.take 0 <| .take 1 <| .take 2 <| .take 3 <| .take 4 <| .take 5 <| .take 6 <| .take 7 <| .take 8 <| .take 9 <| .done) kr ?_;refine bK (j:=0) cQ (i:=1) rfl hQ3 rfl rfl ?_;refine bK (j:=1) cQ (i:=1) rfl hQ3 rfl rfl ?_;refine aB cQ rfl rfl (a+k) rfl om ?_;generalize s.getD (a+k) 0=d at *;refine d9 (λh3=>?_) λh3=>?_;focus
   have hd:d=10:=UInt8.toNat_inj.1 (by show d.toNat=10;omega);have hp1:aJ (L,C) d=(L+1,1):=by unfold aJ;rw[if_pos hd]
   rw[hp1] at hsn;refine bK (j:=2) cQ (i:=1) rfl hQ3 rfl rfl ?_;refine nwo ?_;refine US (j:=2) cQ (i:=1) rfl hQ3 rfl rfl rfl dc rfl λh3' hQ4=>?_;have hQ5:jO 295 4 h3' (some ⟨b,0,none⟩) 1 1 [sv s,iQ ((a+k:Nat):Int),iQ ((L:Int)+1),iQ ((C:Int)+1)]:=hQ4;refine US (j:=3) cQ (i:=1) rfl hQ5 rfl rfl rfl dc rfl λh4 hQ6=>?_;have hQ7:jO 295 4 h4 (some ⟨b,0,none⟩) 1 1 [sv s,iQ ((a+k:Nat):Int),iQ ((L:Int)+1),iQ 1]:=hQ6;refine bK (j:=1) cQ (i:=1) rfl hQ7 rfl rfl ?_;refine nwo ?_;refine US (j:=1) cQ (i:=1) rfl hQ7 rfl rfl rfl dc rfl λh5 hQ8=>?_;have hQ9:LM h5 b s (a+(k+1)) (L+1) 1:=by
    have e:((a+k:Nat):Int)+1=((a+(k+1):Nat):Int):=om
    have e2:(L:Int)+1=((L+1:Nat):Int):=om
    rw[e,e2] at hQ8;exact hQ8
  rotate_left
  focus
   have hd : ¬ d=10:=λe=>h3 (by rw[e];rfl);have hp1:aJ (L,C) d=(L,C+1):=by unfold aJ;rw[if_neg hd]
   rw[hp1] at hsn;refine bK (j:=1) cQ (i:=1) rfl hQ3 rfl rfl ?_;refine nwo ?_;refine US (j:=1) cQ (i:=1) rfl hQ3 rfl rfl rfl dc rfl λh5 hQ8=>?_;have hQ9:LM h5 b s (a+(k+1)) L (C+1):=by
    have e:((a+k:Nat):Int)+1=((a+(k+1):Nat):Int):=om
    have e2:(C:Int)+1=((C+1:Nat):Int):=om
    rw[e,e2] at hQ8;exact hQ8
  all_goals
   refine nwo ?_;exact⟨(k+1,h5),⟨by dsimp only;omega,by dsimp only;rw[hsn];exact hQ9⟩,by dsimp only;omega,y6.mk (λ_ _ h=>h) rfl rfl⟩
 ·have:k=n:=om
  subst this;exact⟨hh,[],⟨rfl,hQ⟩,λw' h=>h⟩
theorem DK {s:d8} {b a l c:Nat} {h:Hp} (w:World) (hin:h.In w) (hP:LM h b s a l c) (ha:a<=s.length) :
  j2 Tryz.prog 236 #[pQ b] w (v8 w (sv (s.drop a))):=by
 have hP2:jO 295 4 (Hp.whole w) (some ⟨b,0,none⟩) 1 1 (xS s a l c):=by
  refine⟨hP.1,?_⟩;rcases hP.2 with ⟨h0,_⟩ | ⟨b',arr,e1,hb,rest⟩
  ·cases h0
  ·exact .inr ⟨b',arr,e1,hin.whole _ _ hb,rest⟩
 refine enterZ (cx 12) [pQ b] [.tmp 2] Tryz.func236 ?_;refine u6.by_order cQ (.take 0 <| .take 1 <| .take 2 <| .take 3 <| .take 4 <| .take 5 <| .take 6 <| .take 7 <| .take 8 <| .take 9 <| .done) kr ?_;unfold xS at hP2;refine bK (j:=0) cQ (i:=0) rfl hP2 rfl rfl ?_;refine bK (j:=1) cQ (i:=0) rfl hP2 rfl rfl ?_;refine nN cQ rfl rfl a s.length (.inr ⟨_,_,rfl,rfl⟩) (.inl ⟨rfl,rfl⟩) ha (j8 _) ?_;rw[q8];exact⟨[],⟨rfl,rfl⟩,pk [0]⟩
end Go.Proofs.YtpjhmeicbjkcdaaGreatDoor
namespace Go.Proofs.YtpjhmeicbjkcdaaGreatDoor
open Go Go.RowKit Go.Dw
def fC (x:Nat×Nat×Nat):List Value:=[iQ x.1,.func (.func x.2.1) #[] #[],.func (.func x.2.2) #[] #[]]
def T9:List (Nat×Nat×Nat):=[(1,225,226),(2,227,228),(3,229,230),(4,231,232)]
def vV (c:UInt8):List Bool:=[J4 c,k9 c,decide (c=34),true]
def eB (c:UInt8):Nat:=if J4 c=true then 0 else if k9 c=true then 1 else if c=34 then 2 else 3
structure ZH (h:Hp) (b1 b2 bp:Nat) (s:d8) (a:Nat):Prop where
 s:h.cell? ⟨b1,0,none⟩=some (sv s)
 p:h.cell? ⟨b2,0,none⟩=some (pQ bp)
 a:h.cell? ⟨bp,1,none⟩=some (iQ a)
theorem ZH.mono {h k:Hp} {b1 b2 bp:Nat} {s:d8} {a:Nat} (c:ZH h b1 b2 bp s a) (l:h.le k):ZH k b1 b2 bp s a:=⟨l.cell c.s,l.cell c.p,l.cell c.a⟩
theorem OC {b1 b2 bp:Nat} {s:d8} {a:Nat} (w:World) (hc:ZH (Hp.whole w) b1 b2 bp s a) (ha:a < s.length) {x:Nat×Nat×Nat} {r:Bool} (hg :∀w',j2 Tryz.prog x.2.1 #[.int .u8 (s.getD a 0).toNat] w' (v8 w' (.bool r))) :
  j2 Tryz.prog 239 #[.agg #[iQ x.1,.func (.func x.2.1) #[] #[],.func (.func x.2.2) #[] #[]],pQ b1,pQ b2] w (v8 w (.bool r)):=by
 refine enterZ (cx 14) [.agg #[iQ x.1,.func (.func x.2.1) #[] #[],.func (.func x.2.2) #[] #[]],pQ b1,pQ b2] [.tmp 4] Tryz.func239 ?_;intro b3;refine u6.by_order cQ (.take 0 <| .take 1 <| .take 2 <| .take 3 <| .take 4 <| .take 5 <| .take 6 <| .take 7 <| .run 8 <| .take 9 <| .done) kr ?_;refine lQ 0 hc.s ?_;refine lQ 0 hc.p ?_;refine lQ 0 hc.a ?_;refine aB cQ rfl rfl a rfl ha ?_;refine k7 _ (λw' hm=>hg w') ?_;refine⟨sK,?_⟩;exact⟨[],⟨rfl,rfl⟩,pk [0]⟩
theorem UC (c:UInt8) (k:Nat) (hk:k < T9.length) (hk2:k < (vV c).length) (w:World):j2 Tryz.prog T9[k].2.1 #[.int .u8 c.toNat] w (v8 w (.bool (vV c)[k])):=by
 match k,hk,hk2 with
 | 0,_,_=>exact wW c w
 | 1,_,_=>exact dT c w
 | 2,_,_=>exact MT c w
 | 3,_,_=>exact NC c w
theorem Dr (c:UInt8) {k:Nat} (hk:k < (vV c).length) (h:(vV c)[k]=true) (ho :∀i (hi:i < (vV c).length),i < k->(vV c)[i]=false):eB c=k:=by
 have hl:(vV c).length=4:=rfl;unfold eB;match k,hk,h,ho with
 | 0,_,h,_=>rw[if_pos (show J4 c=true from h)]
 | 1,_,h,ho=>
  have h0:J4 c=false:=ho 0 (show 0 < 4 by decide) dc;rw[h0,if_neg dc,if_pos (show k9 c=true from h)]
 | 2,_,h,ho=>
  have h0:J4 c=false:=ho 0 (show 0 < 4 by decide) dc;have h1:k9 c=false:=ho 1 (show 1 < 4 by decide) dc;have h2:c=34:=of_decide_eq_true h;rw[h0,h1,if_neg dc,if_neg dc,if_pos h2]
 | 3,_,_,ho=>
  have h0:J4 c=false:=ho 0 (show 0 < 4 by decide) dc;have h1:k9 c=false:=ho 1 (show 1 < 4 by decide) dc;have h2 : ¬ c=34:=of_decide_eq_false (ho 2 (show 2 < 4 by decide) dc);rw[h0,h1,if_neg dc,if_neg dc,if_neg h2]
theorem choose_spec {b1 b2 bp:Nat} {s:d8} {a:Nat} {a1:Option Addr} {n1 c1:Nat} (w:World) (hc:ZH (Hp.whole w) b1 b2 bp s a) (ha:a < s.length) (hL:Sl (E0 fC) 3 (Hp.whole w) a1 n1 c1 T9) :
  j2 Tryz.prog 238 #[.slice a1 n1 c1,.func (.func 239) ⟨[]⟩ ⟨[pQ b1,pQ b2]⟩] w (v8 w (iQ (eB (s.getD a 0)))):=by
 have hn:=hL.len;have hl4:T9.length=4:=rfl;generalize hcc:s.getD a 0=c;have hl5:(vV c).length=4:=rfl;refine enterZ (cx 19) [.slice a1 n1 c1,.func (.func 239) ⟨[]⟩ ⟨[pQ b1,pQ b2]⟩] [.tmp 4] Tryz.func238 ?_;refine z6.mk Nat (λk=>[(0,.v (.slice a1 n1 c1)),(1,.v (.func (.func 239) ⟨[]⟩ ⟨[pQ b1,pQ b2]⟩)),(7,.v (iQ n1)),(8,.v (iQ k))]) (λ_=>[.hp (Hp.whole w)])
  (λk=>k < 4/\∀i (hi:i < (vV c).length),i < k->(vV c)[i]=false) (λk=>4 - k) 0 ⟨dc,λi _ h=>by omega⟩ (y6.mk (λ_ _ h=>h) rfl rfl) ?_
 rintro k ⟨hk,ho⟩;dsimp only at *;refine d9 (λh1=>?_) λh1=>?_
 ·have hk1:k < T9.length:=om
  have hk2:k < (vV c).length:=om
  refine R2 cQ (e:=290) rfl hL k rfl hk1 λb9 o9 cs hcs hR hcell2=>?_;subst hR;refine nX cQ (i:=0) rfl hcell2 rfl ?_;refine k7 (.bool (vV c)[k]) (λw' hm=>?_) ?_
  ·have hb:=OC (x:=T9[k]) (r:=(vV c)[k]) w' (hc.mono (hm 0 _ rfl).whole) ha (by rw[hcc];exact UC c k hk1 hk2);exact hb
  refine v7 (λh3=>?_) λh3=>?_
  ·exact⟨[],⟨by rw[Dr c hk2 h3 ho],rfl⟩,pk [0]⟩
  ·have hk3:k≠3:=λe=>by subst e;cases h3
   refine nwo ?_;exact⟨k+1,⟨om,λi hi h=>by
    rcases M9 i k with g | g
    ·exact ho i hi g
    ·have:i=k:=om
     subst this;exact h3⟩,om,y6.mk (λ_ _ h=>h) rfl rfl⟩
 ·omega
end Go.Proofs.YtpjhmeicbjkcdaaGreatDoor
namespace Go.Proofs.YtpjhmeicbjkcdaaGreatDoor
open Go Go.RowKit Go.Dw
abbrev El:=mR×Int
def rV:Nat->d8->Nat×Nat->List El
 | 0,_,p=>[((5,[],p.1,p.2),0)]
 | f+1,s,p=>match s with
  | []=>[((5,[],p.1,p.2),0)]
  | c::r=>
   if c=32\/c=10 then rV f r (aJ p c)
   else if c=35 then rV f (s.drop (s9 (λc=>!decide (c=10)) s)) (I6 p (s.take (s9 (λc=>!decide (c=10)) s)))
   else
    let t:=A9 s
    if t.2.2.2≠0 then [((t.2.1,t.2.2.1,(I6 p (s.take t.1)).1,(I6 p (s.take t.1)).2),t.2.2.2)]
    else ((t.2.1,t.2.2.1,p.1,p.2),0)::rV f (s.drop t.1) (I6 p (s.take t.1))
def BL:List El->List mR->List mR×Nat×Nat×Int
 | [],out=>(out,0,0,0)
 | x::r,out=>if x.2≠0 then ([],x.1.2.2.1,x.1.2.2.2,x.2) else BL r (out++[x.1])
theorem uQ :∀(f:Nat) (s:d8) (p:Nat×Nat) (out:List mR),BL (rV f s p) out=cH f s p out
 | 0,_,p,out=>rfl
 | f+1,[],p,out=>rfl
 | f+1,c::r,p,out=>by
  have e:rV (f+1) (c::r) p=if c=32\/c=10 then rV f r (aJ p c)
   else if c=35 then rV f ((c::r).drop (s9 (λc=>!decide (c=10)) (c::r))) (I6 p ((c::r).take (s9 (λc=>!decide (c=10)) (c::r))))
   else if (A9 (c::r)).2.2.2≠0 then [(((A9 (c::r)).2.1,(A9 (c::r)).2.2.1,(I6 p ((c::r).take (A9 (c::r)).1)).1,(I6 p ((c::r).take (A9 (c::r)).1)).2),(A9 (c::r)).2.2.2)]
    else (((A9 (c::r)).2.1,(A9 (c::r)).2.2.1,p.1,p.2),0)::rV f ((c::r).drop (A9 (c::r)).1) (I6 p ((c::r).take (A9 (c::r)).1)):=rfl
  have e2:cH (f+1) (c::r) p out=if c=32\/c=10 then cH f r (aJ p c) out
   else if c=35 then cH f ((c::r).drop (s9 (λc=>!decide (c=10)) (c::r))) (I6 p ((c::r).take (s9 (λc=>!decide (c=10)) (c::r)))) out
   else if (A9 (c::r)).2.2.2≠0 then ([],(I6 p ((c::r).take (A9 (c::r)).1)).1,(I6 p ((c::r).take (A9 (c::r)).1)).2,(A9 (c::r)).2.2.2)
    else cH f ((c::r).drop (A9 (c::r)).1) (I6 p ((c::r).take (A9 (c::r)).1)) (out++[((A9 (c::r)).2.1,(A9 (c::r)).2.2.1,p.1,p.2)]):=rfl
  rw[e,e2];by_cases h1:c=32\/c=10
  ·rw[if_pos h1,if_pos h1];exact uQ f _ _ _
  ·rw[if_neg h1,if_neg h1];by_cases h2:c=35
   ·rw[if_pos h2,if_pos h2];exact uQ f _ _ _
   ·rw[if_neg h2,if_neg h2];by_cases h3:(A9 (c::r)).2.2.2≠0
    ·rw[if_pos h3,if_pos h3];unfold BL;rw[if_pos h3]
    ·rw[if_neg h3,if_neg h3];unfold BL;rw[if_neg (λh=>h rfl)];exact uQ f _ _ _
theorem EI {f k:Nat} {s:d8} {p:Nat×Nat} (hk:k < s.length) (h:s.getD k 0=32\/s.getD k 0=10):rV (f+1) (s.drop k) p=rV f (s.drop (k+1)) (I6 p ((s.drop k).take 1)):=by
 rw[yR hk];show (if s.getD k 0=32\/s.getD k 0=10 then rV f (s.drop (k+1)) (aJ p (s.getD k 0)) else _)=_
 rw[if_pos h];rfl
theorem YG {f k:Nat} {s:d8} {p:Nat×Nat} (hk:k < s.length) (h:s.getD k 0=35):rV (f+1) (s.drop k) p=rV f (s.drop (k+s9 (λc=>!decide (c=10)) (s.drop k))) (I6 p ((s.drop k).take (s9 (λc=>!decide (c=10)) (s.drop k)))):=by
 rw[<-J7,yR hk];show (if s.getD k 0=32\/s.getD k 0=10 then _ else if s.getD k 0=35 then _ else _)=_
 rw[if_neg (by rw[h];decide),if_pos h]
theorem De {f k:Nat} {s:d8} {p:Nat×Nat} (hk:k < s.length) (h1 : ¬ s.getD k 0=32) (h2 : ¬ s.getD k 0=10) (h : ¬ s.getD k 0=35):rV (f+1) (s.drop k) p =
  if (A9 (s.drop k)).2.2.2≠0 then [(((A9 (s.drop k)).2.1,(A9 (s.drop k)).2.2.1,(I6 p ((s.drop k).take (A9 (s.drop k)).1)).1,(I6 p ((s.drop k).take (A9 (s.drop k)).1)).2),(A9 (s.drop k)).2.2.2)]
    else (((A9 (s.drop k)).2.1,(A9 (s.drop k)).2.2.1,p.1,p.2),0)::rV f (s.drop (k+(A9 (s.drop k)).1)) (I6 p ((s.drop k).take (A9 (s.drop k)).1)):=by
 rw[<-J7,yR hk];show (if s.getD k 0=32\/s.getD k 0=10 then _ else if s.getD k 0=35 then _ else _)=_
 rw[if_neg (by simp only[h1,h2,or_self,not_false_eq_true]),if_neg h]
theorem Df {f:Nat} {s:d8} {p:Nat×Nat} {k:Nat} (hk:s.length<=k):rV f (s.drop k) p = [((5,[],p.1,p.2),0)]:=by
 rw[J2 hk];cases f <;> rfl
theorem Gq :∀(l:d8) (i:Nat) (out:d8),(J3 l i out).1<=i+l.length:=by
 intro l;induction hn:l.length using sI generalizing l with
 | _ n ih=>
  intro i out;match l,hn with
  | [],_=>exact j0 _
  | [c],hn=>
   subst hn;unfold J3;split
   ·exact j0 _
   ·split
    ·split
     ·exact j0 _
     ·exact j8 _
    ·split
     ·exact aN _ _
     ·split
      ·exact aN _ _
      ·exact j0 _
  | c::e::r,hn=>
   unfold J3;simp only[d7] at hn;split
   ·exact j0 _
   ·split
    ·split
     ·exact j0 _
     ·show i+1<=_;omega
    ·split
     ·exact aN _ _
     ·split
      ·split
       ·have:=ih r.length om r rfl (i+2) (out++[e]);omega
       ·exact aN _ _
      ·have:=ih (r.length+1) om (e::r) rfl (i+1) (out++[c]);omega
theorem Gf (s:d8):W3 s<=s.length:=by
 unfold W3;split
 ·rename_i h
  obtain⟨x,hx,he⟩:=E5.1 h;have he:=of_decide_eq_true he;have hl:x.length=2:=by
   simp only[Z4,p9,G4,or_false] at hx;rcases hx with rfl | rfl | rfl | rfl <;> rfl
  rw[<-he,j1] at hl;omega
 ·split
  ·rename_i h;omega
  ·exact j0 _
theorem He (s:d8):(N0 s).1<=s.length:=by
 have h1:=rB k9 s;have h2:=rB k9 (s.drop (s9 k9 s+1));rw[j9] at h2;unfold N0;dsimp only;split
 ·rename_i h;show s9 k9 s+1+_<=_;omega
 ·exact h1
theorem Gc (s:d8) (h0:0 < s.length):(A9 s).1<=s.length:=by
 unfold A9;dsimp only;split
 ·have:=Gq (s.drop 1) 1 [];rw[j9] at this;show (J3 (s.drop 1) 1 []).1<=_;omega
 ·split
  ·split
   ·exact j0 _
   ·exact rB _ _
  ·split
   ·split
    ·exact j0 _
    ·split
     ·exact He s
     ·exact j0 _
   ·split
    ·exact j0 _
    ·exact Gf s
def MO (s:d8):Nat×d8×Int:=((A9 s).1,(A9 s).2.2.1,(A9 s).2.2.2)
theorem oN (c:UInt8):eB c < T9.length:=by
 have e:T9.length=4:=rfl;unfold eB;rw[e];split
 ·decide
 ·split
  ·decide
  ·split <;> decide
theorem FC (s:d8):((T9[eB (s.getD 0 0)]'(oN _)).1:Int)=(A9 s).2.1/\
  ((eB (s.getD 0 0)=0/\MO s=HS s)\/(eB (s.getD 0 0)=1/\k9 (s.getD 0 0)=true/\MO s=GE s)\/(eB (s.getD 0 0)=2/\MO s=VL s)\/(eB (s.getD 0 0)=3/\MO s=VM s)):=by
 have e:A9 s=if s.getD 0 0=34 then ((J3 (s.drop 1) 1 []).1,3,(J3 (s.drop 1) 1 []).2.1,(J3 (s.drop 1) 1 []).2.2)
  else if J4 (s.getD 0 0) then (if 40 < s9 G5 s then (0,1,[],5) else (s9 G5 s,1,s.take (s9 G5 s),0))
  else if k9 (s.getD 0 0) then (if 400 < (N0 s).1 then (0,2,[],5) else if V8 (s.take (N0 s).1) (N0 s).2 then ((N0 s).1,2,s.take (N0 s).1,0) else (0,2,[],3))
  else if W3 s=0 then (0,4,[],14) else (W3 s,4,s.take (W3 s),0):=rfl
 unfold MO;have key :∀k (hk:k < T9.length),eB (s.getD 0 0)=k->(T9[eB (s.getD 0 0)]'(oN _)).1=T9[k].1:=λk hk h=>by subst h;rfl
 by_cases h1:s.getD 0 0=34
 ·have hc:eB (s.getD 0 0)=2:=by rw[h1];rfl
  rw[key 2 dc hc,e,if_pos h1];exact⟨rfl,.inr (.inr (.inl ⟨hc,rfl⟩))⟩
 ·rw[if_neg h1] at e;by_cases h2:J4 (s.getD 0 0)=true
  ·have hc:eB (s.getD 0 0)=0:=by unfold eB;rw[if_pos h2]
   rw[key 0 dc hc,e,if_pos h2];unfold HS;split <;> exact⟨rfl,.inl ⟨hc,rfl⟩⟩
  ·rw[if_neg h2] at e;by_cases h3:k9 (s.getD 0 0)=true
   ·have hc:eB (s.getD 0 0)=1:=by unfold eB;rw[if_neg h2,if_pos h3]
    rw[key 1 dc hc,e,if_pos h3];unfold GE;split
    ·exact⟨rfl,.inr (.inl ⟨hc,h3,rfl⟩)⟩
    ·split <;> exact⟨rfl,.inr (.inl ⟨hc,h3,rfl⟩)⟩
   ·rw[if_neg h3] at e;have hc:eB (s.getD 0 0)=3:=by unfold eB;rw[if_neg h2,if_neg h3,if_neg h1]
    rw[key 3 dc hc,e];unfold VM;split <;> exact⟨rfl,.inr (.inr (.inr ⟨hc,rfl⟩))⟩
theorem FW (s:d8) (h0:0 < s.length) (hs:s.length < 400000) (w:World) (hT:uT (Hp.whole w)) :
  j2 Tryz.prog (T9[eB (s.getD 0 0)]'(oN _)).2.2 #[sv s] w (fQ w λv cs=>cs = []/\v=MC (MO s)):=by
 have key :∀k (hk:k < T9.length),eB (s.getD 0 0)=k->(T9[eB (s.getD 0 0)]'(oN _)).2.2=T9[k].2.2:=λk hk h=>by subst h;rfl
 obtain⟨_,h⟩:=FC s;rcases h with ⟨hc,hr⟩ | ⟨hc,hd,hr⟩ | ⟨hc,hr⟩ | ⟨hc,hr⟩ <;> rw[key _ dc hc,hr]
 ·have:=RC s om w;refine⟨this.1,this.2.mono λe w' he=>?_⟩;obtain⟨v,cs,rfl,h1,h2,h3⟩:=he;exact⟨v,cs,rfl,h1,h3,h2⟩
 ·exact JI s om h0 hd w
 ·exact RJ s om w
 ·exact IH s w hT
end Go.Proofs.YtpjhmeicbjkcdaaGreatDoor
namespace Go.Dw
open Go Go.RowKit
section
variable {P:Program} {ops:Array Oper} {Q:Exit->Act->World->Prop} {md:Region.Mode} {S:World->Prop} {N:Nat->Prop}
theorem Gl {r:Option Nat} {o:Oper} (h :∀c,o.op≠.defer c) (ρ:Operand->Value):o.semAt (F0 r).round ρ=execOp ρ o:=Oper.semAt_eq _ _ _ h
theorem sO {r:Option Nat} {i:Nat} {o:Oper} {v:Value} {a:Act} (hd :∀c,o.op≠.defer c) (hi:ops[i]?=some o) (hy:YieldsIf P ops S o v a)
  {K:Act->World->Prop} {w:World} (hS:S w) (h:K (a.put o.dst v) w):wpOpIn (F0 r) 0 P ops Q i K a w:=by
 unfold wpOpIn;simp only[hi];rcases hy with ⟨hw,hv⟩ | ⟨hw,rfl⟩
 ·simp only[hw,if_true,Oper.wpIn];refine⟨λ_ _=>trivial,?_⟩;rw[Gl hd,hv w hS];exact h
 ·simp only[hw,wH,if_false];exact⟨λ_ _=>trivial,h⟩
theorem HQ {r:Option Nat} {j:Nat} {oi oj:Oper} {v:Value} (hdj :∀c,oj.op≠.defer c) (hj:ops[j]?=some oj) (hap:oi.apart ops oj=true)
  (hsi :∀cs b,oi.op≠.select cs b) (hsj :∀cs b,oj.op≠.select cs b)
  (hQ :∀c a w,Q (.panic c) (a.put oi.dst v) w->Q (.panic c) a w) {K:Act->World->Prop} {a:Act} {w:World}
  (hy:YieldsIf P ops S oi v a) (h:wpOpIn (F0 r) 0 P ops Q j K (a.put oi.dst v) w) :
  wpOpIn (F0 r) 0 P ops Q j (λa' w'=>YieldsIf P ops S oi v a'/\K (a'.put oi.dst v) w') a w:=by
 obtain⟨h1,h2,h3⟩:=Oper.apart_spec hap;have keep :∀(a:Act),YieldsIf P ops S oi v a->∀u,YieldsIf P ops S oi v (a.put oj.dst u):=λa hy u=>
  hy.of_same (execOp_put oi hsi a oj.dst u h3) (wanted_put oi a oj.dst u h3)
 have keepD :∀d,YieldsIf P ops S oi v { a with defers:=d::a.defers }:=λd=>hy.of_same rfl rfl;unfold wpOpIn at *;simp only[hj] at *;rw[wanted_put oj a oi.dst v h1] at h;split
 ·rename_i hw
  simp only[hw,if_true] at h;unfold Oper.wpIn at *;refine⟨λ_ _=>trivial,?_⟩;have h:=h.2;rw[Gl hdj,execOp_put oj hsj a oi.dst v h1] at h;rw[Gl hdj];generalize (execOp a.eval oj).run P w=r at *;cases r with
  | ok x w'=>
   cases x <;> simp only[Oper.uponIn] at h ⊢
   case value u=>exact⟨keep a hy u,by rw[<-Act.put_comm a v u h2];exact h⟩
   case skip=>exact⟨keep a hy _,by rw[<-Act.put_comm a v undef h2];exact h⟩
   case defer d=>
    refine⟨keep _ (keepD d) _,?_⟩;rw[<-Act.put_comm _ v undef h2,<-Act.put_defers];exact h
   case enter f args=>
    refine⟨h.1,CallsIn.mono h.2 λe w'' he=>?_⟩;cases e with
    | returned u=>exact⟨keep a hy u,by rw[<-Act.put_comm a v u h2];exact he⟩
    | panicked c=>exact hQ _ _ _ he
    | outgrown=>exact he
   case row row args=>exact⟨h.1,RowsIn.mono h.2 λu w'' he=>⟨keep a hy u,by rw[<-Act.put_comm a v u h2];exact he⟩⟩
   case round l f tmps assign body=>
    refine⟨h.1,RoundIn.mono h.2 λe w'' he=>?_⟩;cases e with
    | returned u=>exact⟨keep a hy u,by rw[<-Act.put_comm a v u h2];exact he⟩
    | panicked c=>exact hQ _ _ _ he
    | outgrown=>exact he
  | halt x w'=>
   cases x <;> simp only[Oper.uponIn] at h ⊢
   case panic u=>exact hQ _ _ _ h
 ·rename_i hw
  simp only[hw] at h;exact⟨λ_ _=>trivial,keep a hy _,by rw[<-Act.put_comm a v undef h2];exact h.2⟩
def cW (r:Option Nat) (P:Program) (md:Region.Mode) (ops:Array Oper) (Q:Exit->Act->World->Prop) (S:World->Prop) (N:Nat->Prop):Nat->Array Bool->Act->World->Prop
 | 0,listed,a,w=>Region.ready md ops listed = []/\Q .normal a w
 | fuel+1,listed,a,w=>
  (Region.ready md ops listed = []->Q .normal a w)/\
  ∀i∈Region.ready md ops listed,wpOpIn (F0 r) 0 P ops Q i (λa' w'=>(N i->S w')/\cW r P md ops Q S N fuel (listed.setIfInBounds i true) a' w') a w
theorem wL {r:Option Nat} :∀(fuel:Nat) (listed:Array Bool) (a:Act) (w:World),cW r P md ops Q S N fuel listed a w->wpAnyIn (F0 r) 0 P md ops Q fuel listed a w
 | 0,_,_,_,h=>h
 | fuel+1,_,_,_,h=>⟨h.1,λi hi=>wpOpIn_mono (λa' w' h'=>wL fuel _ a' w' h'.2) (h.2 i hi)⟩
theorem CG {r:Option Nat} (hdf :∀(j:Nat) (o:Oper),ops[j]?=some o->∀c,o.op≠.defer c) {i:Nat} {oi:Oper} {v:Value} (hi:ops[i]?=some oi) (hsel :∀(j:Nat) (o:Oper) cs b,ops[j]?=some o->o.op≠.select cs b)
  (hQ :∀c a w,Q (.panic c) (a.put oi.dst v) w->Q (.panic c) a w)
  (hN :∀j oj,ops[j]?=some oj->(∀e∈oj.after,Region.binds md e=true->e.on≠i)->N j) :
  ∀(fuel:Nat) (listed:Array Bool) (a:Act) (w:World),
   (∀j oj,ops[j]?=some oj->j≠i->listed.getD j true=false->(∀e∈oj.after,Region.binds md e=true->e.on≠i)->oi.apart ops oj=true)->
   i∈Region.ready md ops listed->YieldsIf P ops S oi v a->S w->
   cW r P md ops Q S N fuel (listed.setIfInBounds i true) (a.put oi.dst v) w->cW r P md ops Q S N (fuel+1) listed a w:=by
 intro fuel;induction fuel with
 | zero=>
  intro listed a w _ hr hy hS H;refine⟨λh=>(by rw[h] at hr;cases hr),λj hj=>?_⟩;by_cases hji:j=i
  ·subst hji;exact sO (hdf _ _ hi) hi hy hS ⟨λ_=>hS,H⟩
  ·have:=ready_mono hj hji;rw[H.1] at this;cases this
 | succ fuel ih=>
  intro listed a w hfree hr hy hS H;refine⟨λh=>(by rw[h] at hr;cases hr),λj hj=>?_⟩;by_cases hji:j=i
  ·subst hji;exact sO (hdf _ _ hi) hi hy hS ⟨λ_=>hS,H⟩
  ·have h1:=H.2 j (ready_mono hj hji);obtain⟨hjun,oj,hoj,hall⟩:=mem_ready.1 hj;have hnot :∀e∈oj.after,Region.binds md e=true->e.on≠i:=λe he hb heq=>by
    have h1:=hall e he hb;have h0:=(mem_ready.1 hr).1;rw[heq] at h1;rcases M9 i listed.size with h' | h'
    ·simp[h'] at h0 h1;rw[h0] at h1;cases h1
    ·simp[Array.getElem?_eq_none h'] at h1
   have hNj:=hN j oj hoj hnot;have h2:=HQ (hdf _ _ hoj) hoj (hfree j oj hoj hji hjun hnot) (λcs b=>hsel i oi cs b hi) (λcs b=>hsel j oj cs b hoj) hQ hy h1;have hfree' :∀k ok,ops[k]?=some ok->k≠i->(listed.setIfInBounds j true).getD k true=false->
     (∀e∈ok.after,Region.binds md e=true->e.on≠i)->oi.apart ops ok=true:=λk ok hk hki hun hno=>by
    refine hfree k ok hk hki ?_ hno;by_cases hjk:j=k
    ·subst hjk;exact hjun
    ·rw[getD_set_ne true hjk] at hun;exact hun
   refine wpOpIn_mono (λa' w' h3=>⟨h3.2.1,ih (listed.setIfInBounds j true) a' w' hfree' (ready_mono hr (Ne.symm hji)) h3.1 (h3.2.1 hNj) ?_⟩) h2;rw[Array.setIfInBounds_comm _ _ hji];exact h3.2.2
theorem EW {r:Option Nat} {listed:Array Bool} {a:Act} {w:World} (hr:Region.ready md ops listed = []) (h:Q .normal a w) :
  ∀fuel,cW r P md ops Q S N fuel listed a w
 | 0=>⟨hr,h⟩
 | _+1=>⟨λ_=>h,by rw[hr];simp⟩
end
def wK (X:Q2) (ops:List Oper) (i:Nat) (need:Bool) (s0:List Ch) (cont:Tm->List Ch->Prop) (t:Tm) (s:List Ch):Prop:=match jX ops i with
 | some o=>aH ops o t
   (λt=>ZQ X s t o λtv s'=>putk X.n t o.dst tv λt'=>match need with | true=>W9 s0 s'/\cont t' s' | false=>cont t' s')
   (λt=>putk X.n t o.dst (.v undef) λt'=>match need with | true=>W9 s0 s/\cont t' s | false=>cont t' s)
 | none=>False
def Z3 (X:Q2) (ops:List Oper) (takes:List Nat) (s0:List Ch):DT->(Tm->List Ch->Prop)->Tm->List Ch->Prop
 | .done,Q,t,s=>Q t s
 | .take i k,Q,t,s=>match jX ops i with
  | some o=>match UT o.op with
   | true=>aH ops o t
    (λt=>wq X s0 t o.op λtv=>putk X.n t o.dst tv λt'=>Z3 X ops takes s0 k Q t' s)
    (λt=>putk X.n t o.dst (.v undef) λt'=>Z3 X ops takes s0 k Q t' s)
   | false=>False
  | none=>False
 | .run i k,Q,t,s=>wK X ops i (aX ops takes i k) s0 (λt s=>Z3 X ops takes s0 k Q t s) t s
 | .two i k j k',Q,t,s=>wK X ops i (aX ops takes i k) s0 (λt s=>Z3 X ops takes s0 k Q t s) t s/\wK X ops j (aX ops takes j k') s0 (λt s=>Z3 X ops takes s0 k' Q t s) t s
 | .three i k j k' m k'',Q,t,s=>wK X ops i (aX ops takes i k) s0 (λt s=>Z3 X ops takes s0 k Q t s) t s/\wK X ops j (aX ops takes j k') s0 (λt s=>Z3 X ops takes s0 k' Q t s) t s/\wK X ops m (aX ops takes m k'') s0 (λt s=>Z3 X ops takes s0 k'' Q t s) t s
section
variable {X:Q2} {n:Nat} {t:Tm} {s:List Ch} {a:Act}
theorem RE (hX:X.Good) {r:Option Nat} {ds:List Deferred} {ops:List Oper} {takes:List Nat} {w0:World} {Q:Exit->Act->World->Prop} {q:Tm->List Ch->Prop} {s0:List Ch}
  (hQ :∀t s a w,Fr X.n t s a->Ok w0 s w->q t s->Q .normal (wd a ds) w) (hP :∀c a w,¬ Q (.panic c) a w) (hsel:Region.noSelect ops.toArray=true) (hdf :∀(j:Nat) (o:Oper),ops.toArray[j]?=some o->∀c,o.op≠.defer c) :
  ∀(d:DT) (fuel:Nat) (listed:Array Bool) (t:Tm) (s:List Ch) (a:Act) (w:World),d.steps<=fuel->d.ok ops.toArray listed=true->(∀i∈d.takes,i∈takes)->
   Z3 X ops takes s0 d q t s->Fr X.n t s a->Ok w0 s w->(d.takes≠[]->W9 s0 s)->
   cW r X.P .any ops.toArray Q (iE s0) (λj=>S1 ops takes j=true) fuel listed (wd a ds) w:=by
 have hP' :∀(oi:Oper) (v:Value) c a w,Q (.panic c) (a.put oi.dst v) w->Q (.panic c) a w:=λ_ _ c _ w h=>absurd h (hP c _ w);have subval :∀{s s':List Ch},W9 s s'->∀tv v,TV.val s tv=some v->TV.val s' tv=some v:=by
  intro s s' hs tv v hv;cases tv with
  | v x=>exact hv
  | bx i off=>
   obtain⟨b,cs,T,h1,h2⟩:=sX hv;simp[TV.val,(T0 hs i _ h1).resolve_right (λe=>by cases e),h2]
  | bs i n=>
   obtain⟨b,cs,T,h1,h2⟩:=OV hv;simp[TV.val,(T0 hs i _ h1).resolve_right (λe=>by cases e),h2]
 have sub_mem :∀{s:List Ch} {w:World},W9 s0 s->Ok w0 s w->iE s0 w:=λhs hok i c e=>by
  rcases T0 hs i c e with h | rfl
  ·exact hok.mem i c h
  ·exact Hp.emp_in _
 have runc :∀(i:Nat) (k:DT) (fuel:Nat) (listed:Array Bool) (t:Tm) (s:List Ch) (a:Act) (w:World),
   (∀(t:Tm) (s:List Ch) (a:Act) (w:World),Z3 X ops takes s0 k q t s->Fr X.n t s a->Ok w0 s w->(k.takes≠[]->W9 s0 s)->
    cW r X.P .any ops.toArray Q (iE s0) (λj=>S1 ops takes j=true) fuel (listed.setIfInBounds i true) (wd a ds) w)->
   wK X ops i (aX ops takes i k) s0 (λt s=>Z3 X ops takes s0 k q t s) t s->Fr X.n t s a->Ok w0 s w->
   wpOpIn (F0 r) 0 X.P ops.toArray Q i (λa' w'=>(S1 ops takes i=true->iE s0 w')/\cW r X.P .any ops.toArray Q (iE s0) (λj=>S1 ops takes j=true) fuel (listed.setIfInBounds i true) a' w') (wd a ds) w:=by
  intro i k fuel listed t s a w ih h hf hok;unfold wK at h;rw[Q9] at h;cases ho:ops[i]? with
  | none=>simp[ho] at h
  | some o=>
   simp only[ho] at h;have fin :∀{t':Tm} {s':List Ch} {a':Act} {w':World},(match aX ops takes i k with | true=>W9 s0 s'/\Z3 X ops takes s0 k q t' s' | false=>Z3 X ops takes s0 k q t' s')->
     Fr X.n t' s' a'->Ok w0 s' w'->(S1 ops takes i=true->iE s0 w')/\cW r X.P .any ops.toArray Q (iE s0) (λj=>S1 ops takes j=true) fuel (listed.setIfInBounds i true) (wd a' ds) w':=by
    intro t' s' a' w' hm hf' hok';cases hn:aX ops takes i k with
    | true=>
     simp only[hn] at hm;exact⟨λ_=>sub_mem hm.1 hok',ih t' s' a' w' hm.2 hf' hok' λ_=>hm.1⟩
    | false=>
     simp only[hn] at hm;unfold aX at hn;cases hs:S1 ops takes i with
     | true=>simp[hs] at hn
     | false=>
      simp only[hs] at hn;refine⟨(λh=>by cases h),ih t' s' a' w' hm hf' hok' λhk=>?_⟩;cases hkk:k.takes with
      | nil=>exact absurd hkk hk
      | cons x xs=>simp[hkk] at hn
   unfold wpOpIn;have ho':ops.toArray[i]?=some o:=by simpa using ho
   simp only[ho'];rcases R8 hf h with ⟨hw,t',hf',hy⟩ | ⟨hw,t',hf',hn⟩
   ·rw[if_pos (show Region.wanted o (yielded ops.toArray (wd a ds).tmps)=true from hw)];exact OT (r:=r) (ds:=ds) hX hf' hy hok λtv v s' w' hok' hk hv hp=>by
     obtain⟨t'',h1,h2⟩:=(hf'.keep hk).putk hv hp;exact fin h1 h2 hok'
   ·rw[if_neg (show ¬ Region.wanted o (yielded ops.toArray (wd a ds).tmps)=true by rw[show (wd a ds).tmps=a.tmps from rfl,hw];simp)];obtain⟨t'',h1,h2⟩:=hf'.putk (tv:=.v undef) rfl hn;rw[mY];exact⟨λ_ _=>trivial,fin h1 h2 hok⟩
 intro d;induction d with
 | done=>
  intro fuel listed t s a w _ hok _ h hf hw _;exact EW (by simpa [DT.ok] using hok) (hQ t s a w hf hw h) fuel
 | take i k ih=>
  intro fuel listed t s a w hst hok htk h hf hw hsub;have hs0:W9 s0 s:=hsub (by simp[DT.takes]);cases fuel with
  | zero=>simp[DT.steps] at hst
  | succ fuel=>
   simp only[DT.ok,j4] at hok;obtain⟨⟨hr,hfree⟩,hk⟩:=hok;simp only[Z3] at h;rw[Q9] at h;cases ho:ops[i]? with
   | none=>simp[ho] at h
   | some o=>
    simp only[ho] at h;have ho':ops.toArray[i]?=some o:=by simpa using ho
    cases hq:UT o.op with
    | false=>simp[hq] at h
    | true=>
     simp only[hq] at h;have main :∀(v:Value) (t'':Tm),YieldsIf X.P ops.toArray (iE s0) o v (wd a ds)->Fr X.n t'' s (a.put o.dst v)->Z3 X ops takes s0 k q t'' s->
       cW r X.P .any ops.toArray Q (iE s0) (λj=>S1 ops takes j=true) (fuel+1) listed (wd a ds) w:=by
      intro v t'' hy hf'' hd;refine CG hdf ho' (Region.noSelect_spec hsel) (hP' o v) (λj oj hj hno=>?_) fuel listed (wd a ds) w (Region.free_spec ho' hfree) (by simpa using hr) hy (sub_mem hs0 hw)
       (by rw[mY];exact ih fuel _ t'' s _ w (by simp[DT.steps] at hst;omega) hk (λj hj=>htk j (by simp[DT.takes,hj])) hd hf'' hw λ_=>hs0)
      unfold S1;refine E5.2 ⟨i,htk i (by simp[DT.takes]),?_⟩;rw[Q9];have hj':ops[j]?=some oj:=by simpa using hj
      simp only[hj',yW,K8,j4,not_and];intro e he hb heq;exact hno e (Array.mem_toList_iff.1 he) hb (I3 heq)
     rcases R8 hf h with ⟨hwt,t',hf',hy⟩ | ⟨hwt,t',hf',hn⟩
     ·have hfw:CF t' s0 a:=λj tv v h1 h2=>hf'.w j tv v h1 (subval hs0 tv v h2);obtain⟨tv,v,h1,h2,h3⟩:=OQ hX hfw hq hy;obtain⟨t'',h4,h5⟩:=hf'.putk (subval hs0 tv v h1) h2;exact main v t'' (.inl ⟨hwt,λw' hw'=>by rw[show (wd a ds).eval=a.eval from sU a ds];exact h3 w' hw'⟩) h5 h4
     ·obtain⟨t'',h4,h5⟩:=hf'.putk (tv:=.v undef) rfl hn;exact main undef t'' (.inr ⟨hwt,rfl⟩) h5 h4
 | run i k ih=>
  intro fuel listed t s a w hst hok htk h hf hw hsub;cases fuel with
  | zero=>simp[DT.steps] at hst
  | succ fuel=>
   simp only[DT.ok,j4,decide_eq_true_eq] at hok;refine⟨(λh0=>by rw[hok.1] at h0;cases h0),λi' hi'=>?_⟩;rw[hok.1] at hi';have:i'=i:=by simpa using hi'
   subst this;exact runc i' k fuel listed t s a w (λt s a w h hf hw hs=>ih fuel _ t s a w (by simp[DT.steps] at hst;omega) hok.2 (λj hj=>htk j (by simpa [DT.takes] using hj)) h hf hw hs) h hf hw
 | two i k j k' ih ih'=>
  intro fuel listed t s a w hst hok htk h hf hw hsub;cases fuel with
  | zero=>simp[DT.steps] at hst
  | succ fuel=>
   simp only[DT.ok,j4,decide_eq_true_eq] at hok;simp only[DT.steps] at hst;have hm:=X5 k.steps k'.steps;have hm':=U8 k.steps k'.steps;refine⟨(λh0=>by rw[hok.1.1] at h0;cases h0),λi' hi'=>?_⟩;rw[hok.1.1] at hi';rcases (by simpa using hi':i'=i\/i'=j) with rfl | rfl
   ·exact runc i' k fuel listed t s a w (λt s a w h hf hw hs=>ih fuel _ t s a w (q9 hm (D5 hst)) hok.1.2 (λj hj=>htk j (by simp[DT.takes,hj])) h hf hw hs) h.1 hf hw
   ·exact runc i' k' fuel listed t s a w (λt s a w h hf hw hs=>ih' fuel _ t s a w (q9 hm' (D5 hst)) hok.2 (λj hj=>htk j (by simp[DT.takes,hj])) h hf hw hs) h.2 hf hw
 | three i k j k' m k'' ih ih' ih''=>
  intro fuel listed t s a w hst hok htk h hf hw hsub;cases fuel with
  | zero=>simp[DT.steps] at hst
  | succ fuel=>
   simp only[DT.ok,j4,decide_eq_true_eq] at hok;simp only[DT.steps] at hst;have hm0:=X5 (uW k.steps k'.steps) k''.steps;have hm:=q9 (X5 k.steps k'.steps) hm0;have hm':=q9 (U8 k.steps k'.steps) hm0;have hm'':=U8 (uW k.steps k'.steps) k''.steps;refine⟨(λh0=>by rw[hok.1.1.1] at h0;cases h0),λi' hi'=>?_⟩;rw[hok.1.1.1] at hi';rcases (by simpa using hi':i'=i\/i'=j\/i'=m) with rfl | rfl | rfl
   ·exact runc i' k fuel listed t s a w (λt s a w h hf hw hs=>ih fuel _ t s a w (q9 hm (D5 hst)) hok.1.1.2 (λj hj=>htk j (by simp[DT.takes,hj])) h hf hw hs) h.1 hf hw
   ·exact runc i' k' fuel listed t s a w (λt s a w h hf hw hs=>ih' fuel _ t s a w (q9 hm' (D5 hst)) hok.1.2 (λj hj=>htk j (by simp[DT.takes,hj])) h hf hw hs) h.2.1 hf hw
   ·exact runc i' k'' fuel listed t s a w (λt s a w h hf hw hs=>ih'' fuel _ t s a w (q9 hm'' (D5 hst)) hok.2 (λj hj=>htk j (by simp[DT.takes,hj])) h hf hw hs) h.2.2 hf hw
def Ff (ops:List Oper):Bool:=ops.all λo=>match o.op with | .defer _=>false | _=>true
theorem NG {ops:List Oper} (h:Ff ops=true) (j:Nat) (o:Oper) (hj:ops.toArray[j]?=some o) (c:Call):o.op≠.defer c:=λe=>by
 have hm:o∈ops:=by
  have:ops[j]?=some o:=by simpa using hj
  exact eE this
 have:=s7.1 h o hm;rw[e] at this;cases this
theorem sH.by_order0 {X:Q2} (hX:X.Good) {ops:List Oper} {Q:Tm->List Ch->Prop} {t:Tm} {s s0:List Ch} (d:DT) (hd:(Ff ops && d.fine ops)=true) (hs:W9 s0 s) (h:Z3 X ops d.takes s0 d Q t s):sH X ops Q t s:=by
 refine⟨λr ds w0 w a Q' hok hf hQ hP=>?_⟩;unfold DT.fine at hd;simp only[j4] at hd;obtain⟨h0,⟨h1,h2⟩,h3⟩:=hd;have hlen:ops.toArray.size=ops.length:=sQ
 rw[hlen];exact wL _ _ _ _ (RE hX (λt s a w hf hok hq=>hQ t s a w hok hf hq) hP h1 (NG h0) d ops.length _ t s a _ (D3 h2) h3 (λi hi=>hi) h hf hok.drew λ_=>hs)
end
end Go.Dw
namespace Go.Dw
open Go Go.RowKit
theorem Ok.same {w0 w:World} {s:List Ch} {i:Nat} {c d:Ch} (hi:l7 s i=some c) (hd:d.h=c.h) (hok:Ok w0 s w):Ok w0 (w8 s i d) w:=by
 refine⟨hok.os,hok.tape,hok.output,hok.size,hok.drawn,λk x hx=>?_,λj k x y hjk h1 h2=>?_⟩
 ·rw[U5 hi] at hx;split at hx
  ·cases hx;rw[hd];exact hok.mem i c hi
  ·exact hok.mem k x hx
 ·rw[U5 hi] at h1 h2;split at h1 <;> split at h2
  ·omega
  ·cases h1;rw[hd];exact hok.disj _ _ _ _ om hi h2
  ·cases h2;rw[hd];exact hok.disj _ _ _ _ om h1 hi
  ·exact hok.disj _ _ _ _ hjk h1 h2
end Go.Dw
namespace Go.Proofs.YtpjhmeicbjkcdaaGreatDoor
open Go Go.RowKit Go.Dw
def Dd (t:mR):Value:=.agg #[iQ t.1,sv t.2.1,iQ t.2.2.1,iQ t.2.2.2]
def Nf (x:El):List Value:=[Dd x.1,iQ x.2]
structure Lv (b1 b2:Nat) (s:d8) (a:Option Addr) (n c:Nat) (h:Hp):Prop where
 hs:h.cell? ⟨b1,0,none⟩=some (sv s)
 hc:h.cell? ⟨b2,0,none⟩=some (.slice a n c)
 L:Sl (E0 fC) 3 h a n c T9
 T:uT h
theorem Lv.mono {b1 b2:Nat} {s:d8} {a:Option Addr} {n c:Nat} {h k:Hp} (r:Lv b1 b2 s a n c h) (l:h.le k):Lv b1 b2 s a n c k:=⟨l.cell r.hs,l.cell r.hc,r.L.mono (j7 _) l,r.T.mono l⟩
theorem LM.at {h:Hp} {b k l c:Nat} {s:d8} (hP:LM h b s k l c):h.cell? ⟨b,1,none⟩=some (iQ k):=by
 unfold LM xS at hP;obtain⟨b',arr,e,_,_,h4⟩:=hP.cell (j:=1) (v:=iQ k) rfl;cases e;exact h4
theorem LM.new (b:Nat) (s:d8):LM (Ch.box b (xS s 0 1 1) 295).h b s 0 1 1:=by
 have:=w5.ofBox (f:=λ_:Unit=>xS s 0 1 1) (sz:=4) (T:=295) (b:=b) (λ_=>rfl) [()] rfl rfl dc;exact this.2
theorem SK (c:UInt8) (w:World):j2 Tryz.prog 237 #[.int .u8 c.toNat] w (v8 w (.bool (!decide (c=10)))):=by
 refine enterZ (cx 5) [.int .u8 c.toNat] [.tmp 2] Tryz.func237 ?_;have:=HB c 10;exact⟨[],⟨by rw[<-this];exact congrArg Value.bool decide_not,rfl⟩,pk [0]⟩
set_option maxRecDepth 20000 in
set_option maxHeartbeats 1000000 in
theorem FB {b1 b2:Nat} (s:d8) (hs:s.length < 100000) (a:Option Addr) (n c:Nat) :
  Fs Tryz.prog 233 [pQ b1,pQ b2] Nf (rV (s.length+1) s (1,1)) (Lv b1 b2 s a n c) True:=by
 intro w h l J Jx hin hRd hJ0 hY hend;clear hend;have hn:=hRd.L.len;have hcl:T9.length=4:=rfl;obtain⟨xs,hxs⟩ :∃xs,xs=rV (s.length+1) s (1,1):=⟨_,rfl⟩
 rw[<-hxs] at hY ⊢;obtain⟨c0,hc0⟩ :∃c0,c0=(Hp.whole w).minus h:=⟨_,rfl⟩
 refine Da (X:=cx 108) cQ (args:=[.func (.yield l) #[] #[],pQ b1,pQ b2]) hin [] Tryz.func233 rfl rfl rfl rfl rfl ?_;rw[<-hc0] at hRd hY ⊢;refine lQ 0 hRd.hs ?_;intro b13;intro b4;refine z6.mk ((Nat×Nat×Nat×Nat)×List El×Hp×Hp) (λg=>[(0,.v (.func (.yield l) #[] #[])),(1,.v (pQ b1)),(2,.v (pQ b2)),(4,.bx 3 0)])
  (λg=>[.hp c0,.hp g.2.2.2,.hp g.2.2.1,.box b4 [pQ b13] 293])
  (λg=>(g.1.2.1<=s.length/\s.length - g.1.2.1 < g.1.1/\g.1.2.2.1<=2*g.1.2.1+1/\g.1.2.2.2<=2*g.1.2.1+1)/\xs=g.2.1++rV g.1.1 (s.drop g.1.2.1) (g.1.2.2.1,g.1.2.2.2)/\LM g.2.2.1 b13 s g.1.2.1 g.1.2.2.1 g.1.2.2.2/\J g.2.1 g.2.2.2) (λg=>s.length - g.1.2.1)
  ((s.length+1,0,1,1),[],(Ch.box b13 (xS s 0 1 1) 295).h,h)
  ⟨⟨j0 _,by dsimp only;omega,by dsimp only;omega,by dsimp only;omega⟩,by dsimp only;rw[hxs];rfl,LM.new b13 s,hJ0⟩ (y6.mk (λ_ _ h=>Ok.same (i:=2) (c:=.box b13 (xS s 0 1 1) 295) (d:=.hp (Ch.box b13 (xS s 0 1 1) 295).h) rfl rfl h) rfl rfl) ?_
 rintro⟨⟨f,k,ln,co⟩,pre,hP,h1⟩ ⟨⟨hk,hf,hln,hco⟩,hx,hpl,hJ⟩;dsimp only at *;obtain⟨f',rfl⟩ :∃f',f=f'+1:=⟨f - 1,om⟩
 have hpl0:=hpl;unfold LM xS at hpl0;have hpass :∀(w':World) (m:Nat),hP.In w'->k+m<=s.length->j2 Tryz.prog 234 #[pQ b13,iQ m] w' (O3 w' hP λ_ h' cs=>cs = []/\LM h' b13 s (k+m) (I6 (ln,co) ((s.drop k).take m)).1 (I6 (ln,co) ((s.drop k).take m)).2):=λw' m hi hm=>SE w' hi hpl hm om om om;have hbnd :∀m,0 < m->k+m<=s.length->(I6 (ln,co) ((s.drop k).take m)).1<=2*(k+m)+1/\(I6 (ln,co) ((s.drop k).take m)).2<=2*(k+m)+1:=λm h0 hm=>by
  have:=PK (ln,co) ((s.drop k).take m);rw[j1,j9] at this;dsimp only at this;omega
 refine u6.by_order cQ (.take 0 <| .take 1 <| .take 2 <| .take 3 <| .take 4 <| .take 5 <| .take 6 <| .done) kr ?_;refine bK (j:=1) cQ (i:=2) rfl hpl0 rfl rfl ?_;refine lQ 0 hRd.hs ?_;have hz:=C8 s;refine d9 (λh2=>?_) λh2=>?_
 ·have hks:k < s.length:=om
  refine u6.by_order cQ (.take 0 <| .take 1 <| .take 2 <| .take 3 <| .take 4 <| .take 5 <| .take 6 <| .done) kr ?_;refine lQ 0 hRd.hs ?_;refine bK (j:=1) cQ (i:=2) rfl hpl0 rfl rfl ?_;refine aB cQ rfl rfl k rfl hks ?_;generalize hd:s.getD k 0=d at *;have hb1:=hbnd 1 dc om;refine d9 (λh3=>?_) λh3=>?_;focus
   refine d9 (λ_=>?_) (λh4=>absurd h3 h4);have hd1:d=32:=fI rfl h3;have he:=EI (f:=f') (p:=(ln,co)) hks (.inl (hd.trans hd1))
  rotate_left
  focus
   refine d9 (λh4=>?_) λh4=>?_;focus
    have hd1:d=10:=fI rfl h4;have he:=EI (f:=f') (p:=(ln,co)) hks (.inr (hd.trans hd1))
   rotate_left
   ·refine d9 (λh5=>?_) λh5=>?_
    ·have hd1:d=35:=fI rfl h5;have he:=YG (f:=f') (p:=(ln,co)) hks (hd.trans hd1);have hrl:=rB (λc=>!decide (c=10)) (s.drop k);have hr0:=(FR (λc=>!decide (c=10)) (s.drop k)).2 ⟨by rw[j9];omega,by rw[pM,E7,hd,hd1];rfl⟩;rw[j9] at hrl;refine u6.by_order0 cQ (.take 0 <| .take 1 <| .run 2 <| .run 3 <| .run 4 <| .done) kr (J5 _ 2) ?_;refine k7 _ (λw' hm=>DK w' (hm 2 _ rfl) hpl hk) ?_;refine⟨sK,?_⟩;refine k7 _ (λw' hm=>tL 237 (λc=>!decide (c=10)) (s.drop k) (by rw[j9];omega) w' λw' c=>SK c w') ?_;refine⟨sK,?_⟩;have hb2:=hbnd _ hr0 om;refine callM (i:=2) rfl (λw' hm=>hpass w' (s9 (λc=>!decide (c=10)) (s.drop k)) (hm 2 _ rfl) om) ?_;rintro _ hP2 _ ⟨rfl,hQ⟩;refine⟨sK,?_⟩;exact⟨((f',k+s9 (λc=>!decide (c=10)) (s.drop k),_,_),pre,hP2,h1),⟨⟨by dsimp only;omega,by dsimp only;omega,hb2.1,hb2.2⟩,hx.trans (congrArg (pre ++ ·) he),hQ,hJ⟩,by dsimp only;omega,y6.mk (λ_ _ h=>h) rfl rfl⟩
    ·refine lQ 0 hRd.hc ?_;have hd':(s.drop k).getD 0 0=s.getD k 0:=by rw[pM,E7]
     obtain⟨q,hq⟩ :∃q,q=eB (s.getD k 0):=⟨_,rfl⟩
     have hql:q < T9.length:=by rw[hq];exact oN _
     have hu0:0 < (s.drop k).length:=by rw[j9];omega
     obtain⟨nn,kd,tx,ee,htk⟩ :∃nn kd tx ee,A9 (s.drop k)=(nn,kd,tx,ee):=⟨_,_,_,_,rfl⟩
     have hread :∀w',uT (Hp.whole w')->j2 Tryz.prog T9[q].2.2 #[sv (s.drop k)] w' (fQ w' λv cs=>cs = []/\v=MC (nn,tx,ee)):=λw' hT=>by
      have h1:=FW (s.drop k) hu0 (by rw[j9];omega) w' hT;unfold MO at h1;rw[htk] at h1;have e :∀z (hz:z < T9.length),z=q->T9[z].2.2=T9[q].2.2:=λz _ h=>by subst h;rfl
      rw[e _ (oN _) (by rw[hd',hq])] at h1;exact h1
     have hkd:((T9[q].1:Nat):Int)=kd:=by
      have h1:=(FC (s.drop k)).1;rw[htk] at h1;have e :∀z (hz:z < T9.length),z=q->T9[z].1=T9[q].1:=λz _ h=>by subst h;rfl
      rw[e _ (oN _) (by rw[hd',hq])] at h1;exact h1
     have he:=De (f:=f') (p:=(ln,co)) hks (λe=>h3 (by rw[<-hd,e];rfl)) (λe=>h4 (by rw[<-hd,e];rfl)) (λe=>h5 (by rw[<-hd,e];rfl));have hnl:=Gc (s.drop k) hu0;have hn0:=OW hu0;rw[htk] at he hnl hn0;rw[j9] at hnl;dsimp only at he hnl hn0;clear htk;subst kd;refine k7 (iQ q) (λw' hm=>?_) ?_
     ·have:=choose_spec w' ⟨(hm 0 _ rfl).whole.cell hRd.hs,uR hm (i:=3) rfl (j:=0) rfl,(hm 2 _ rfl).whole.cell hpl.at⟩ hks (hRd.L.mono (j7 _) (hm 0 _ rfl).whole);rw[<-hq] at this;exact this
     refine u6.by_order cQ (.take 0 <| .take 1 <| .take 2 <| .take 3 <| .take 4 <| .take 5 <| .run 6 <| .run 7 <| .take 8 <| .take 9 <| .take 10 <| .take 11 <| .take 12 <| .take 13 <| .take 14 <| .done) kr ?_;refine lQ 0 hRd.hc ?_;refine R2 cQ (e:=290) rfl hRd.L q rfl hql λb9 o9 cs hcs hR hcell=>?_;subst hR;refine lQ 0 (hcell 2 _ rfl) ?_;refine k7 _ (λw' hm=>DK w' (hm 2 _ rfl) hpl hk) ?_;refine⟨sK,?_⟩;refine call (λw' hm=>hread w' (hRd.T.mono (hm 0 _ rfl).whole)) ?_;rintro _ _ ⟨rfl,rfl⟩;refine⟨sK,?_⟩;refine u6.by_order cQ (.take 0 <| .take 1 <| .take 2 <| .take 3 <| .take 4 <| .take 5 <| .take 6 <| .take 7 <| .take 8 <| .take 9 <| .take 10 <| .take 11 <| .take 12 <| .take 13 <| .take 14 <| .run 15 <| .run 16 <| .done) kr ?_;refine lQ 0 hRd.hc ?_;refine R2 cQ (e:=290) rfl hRd.L q rfl hql λb9 o9 cs hcs hR hcell=>?_;subst hR;refine lQ 0 (hcell 0 _ rfl) ?_;refine bK (j:=2) cQ (i:=2) rfl hpl0 rfl rfl ?_;refine bK (j:=3) cQ (i:=2) rfl hpl0 rfl rfl ?_;intro b10;refine⟨sK,?_⟩;refine d9 (λh8=>?_) λh8=>?_
     ·have h8':ee≠0:=h8;rw[if_pos h8'] at he;have hx2:=hx.trans (congrArg (pre ++ ·) he);refine callM (i:=2) rfl (λw' hm=>hpass w' nn (hm 2 _ rfl) om) ?_;rintro _ hP2 _ ⟨rfl,hQ⟩;generalize I6 (ln,co) ((s.drop k).take nn)=pp at *;have hQ0:=hQ;unfold LM xS at hQ0;refine u6.by_order0 cQ (.take 0 <| .take 1 <| .take 2 <| .take 3 <| .take 4 <| .take 5 <| .take 6 <| .take 7 <| .run 8 <| .run 9 <| .run 10 <| .run 11 <| .done) kr (J5 _ 4) ?_;refine bK (j:=2) cQ (i:=2) rfl hQ0 rfl rfl ?_;refine bK (j:=3) cQ (i:=2) rfl hQ0 rfl rfl ?_;refine⟨sK,?_⟩;refine⟨sK,?_⟩;refine LX (c:=c0) (h1:=h1) rfl rfl (R:=λv h2=>(v=.bool true/\J xs h2)\/(v=.bool false/\Jx xs h2)) (λw1 hi1 hc1 hd1=>by
       have:=hY w1 h1 pre _ [] hx2 hJ hi1 hc1 hd1;rw[<-hx2] at this;exact this) ?_
      rintro v h2 (⟨rfl,hJ2⟩ | ⟨rfl,hJ2⟩)
      ·refine d9 (λ_=>?_) (λh9=>absurd h8 h9);exact⟨h2,[],⟨rfl,.inl hJ2⟩,pk [0,1]⟩
      ·exact⟨h2,[],⟨rfl,.inr ⟨xs,List.prefix_refl _,hJ2⟩⟩,pk [0,1]⟩
     ·have h8' : ¬ ee≠0:=h8;rw[if_neg h8'] at he;have he0:ee=0:=j3 h8';subst he0;have hx2:=hx.trans (congrArg (pre ++ ·) he);have hn1:=hn0 rfl;have hb2:=hbnd nn hn1 om;refine LX (c:=c0) (h1:=h1) rfl rfl (R:=λv h2=>(v=.bool true/\J (pre++([((((T9[q].1:Nat):Int),tx,ln,co),(0:Int))]:List El)) h2)\/(v=.bool false/\Jx (pre++([((((T9[q].1:Nat):Int),tx,ln,co),(0:Int))]:List El)) h2)) (λw1 hi1 hc1 hd1=>hY w1 h1 pre _ _ hx2 hJ hi1 hc1 hd1) ?_;rintro v h2 (⟨rfl,hJ2⟩ | ⟨rfl,hJ2⟩)
      ·refine callM (i:=2) rfl (λw' hm=>hpass w' nn (hm 2 _ rfl) om) ?_;rintro _ hP2 _ ⟨rfl,hQ⟩;exact⟨((f',k+nn,_,_),pre++([((((T9[q].1:Nat):Int),tx,ln,co),(0:Int))]:List El),hP2,h2),⟨⟨by dsimp only;omega,by dsimp only;omega,hb2.1,hb2.2⟩,hx2.trans (by rw[f8];rfl),hQ,hJ2⟩,by dsimp only;omega,y6.mk (pj [0,1,2,3]) rfl rfl⟩
      ·exact⟨h2,[],⟨rfl,.inr ⟨pre++([((((T9[q].1:Nat):Int),tx,ln,co),(0:Int))]:List El),⟨_,by rw[hx2,f8];rfl⟩,hJ2⟩⟩,pk [0,1]⟩
  all_goals
   refine callM (i:=2) rfl (λw' hm=>hpass w' 1 (hm 2 _ rfl) om) ?_;rintro _ hP2 _ ⟨rfl,hQ⟩;exact⟨((f',k+1,_,_),pre,hP2,h1),⟨⟨by dsimp only;omega,by dsimp only;omega,hb1.1,hb1.2⟩,hx.trans (congrArg (pre ++ ·) he),hQ,hJ⟩,by dsimp only;omega,y6.mk (λ_ _ h=>h) rfl rfl⟩
 ·refine sH.by_order0 cQ (.take 0 <| .take 1 <| .take 2 <| .take 3 <| .take 4 <| .take 5 <| .take 6 <| .take 7 <| .take 8 <| .take 9 <| .run 10 <| .done) kr (J5 _ 1) ?_;refine bK (j:=2) cQ (i:=2) rfl hpl0 rfl rfl ?_;refine bK (j:=3) cQ (i:=2) rfl hpl0 rfl rfl ?_;have he:=Df (f:=f'+1) (p:=(ln,co)) (s:=s) (k:=k) om;have hx2:=hx.trans (congrArg (pre ++ ·) he);refine LX (c:=c0) (h1:=h1) rfl rfl (R:=λv h2=>(v=.bool true/\J xs h2)\/(v=.bool false/\Jx xs h2)) (λw1 hi1 hc1 hd1=>by
   have:=hY w1 h1 pre _ [] hx2 hJ hi1 hc1 hd1;rw[<-hx2] at this;exact this) ?_
  rintro v h2 (⟨rfl,hJ2⟩ | ⟨rfl,hJ2⟩)
  ·refine⟨sK,?_⟩;exact⟨h2,[],⟨rfl,.inl hJ2⟩,pk [0,1]⟩
  ·refine⟨sK,?_⟩;exact⟨h2,[],⟨rfl,.inr ⟨xs,List.prefix_refl _,hJ2⟩⟩,pk [0,1]⟩
end Go.Proofs.YtpjhmeicbjkcdaaGreatDoor
namespace Go.Proofs.YtpjhmeicbjkcdaaGreatDoor
open Go Go.RowKit Go.Dw
def fT (t:mR):List Value:=[iQ t.1,sv t.2.1,iQ t.2.2.1,iQ t.2.2.2]
theorem IE (s:d8) (w:World):j2 Tryz.prog 190 #[sv s] w (fQ w λv cs=>∃b1 b2 b3,v=.func (.func 233) #[] #[pQ b1,pQ b2]/\
  cs = [.box b1 [sv s] 9,.box b3 (T9.flatMap fC) 290,.box b2 [.slice (some ⟨b3,0,none⟩) 4 4] 291]):=by
 refine enterZ (cx 10) [sv s] [.tmp 2] Tryz.func190 ?_;intro b1;intro b8;intro b3;exact⟨_,⟨b1,b3,b8,rfl,rfl⟩,pk [0,1,2,3]⟩
theorem HA :∀(pre post:List El) (out:List mR),(∀x∈pre,x.2=0)->BL (pre++post) out=BL post (out++pre.map Prod.fst)
 | [],post,out,_=>by simp
 | x::pre,post,out,h=>by
  have h0:=h x sQ;rw[CZ,BL,if_neg (by rw[h0];decide),HA pre post _ λy hy=>h y (by simp[hy])];simp
theorem QS {pre:List El} {x:El} (h :∀y∈pre,y.2=0) (hx:x.2≠0) (post:List El):BL ((pre++[x])++post) []=([],x.1.2.2.1,x.1.2.2.2,x.2):=by
 rw[f8,HA pre _ _ h,List.singleton_append,BL,if_pos hx]
theorem yQ :∀(f:Nat) (s:d8) (p:Nat×Nat),(rV f s p).length<=f+1
 | 0,_,p=>j8 _
 | f+1,[],p=>by show 1<=f+1+1;omega
 | f+1,c::r,p=>by
  have e:rV (f+1) (c::r) p=if c=32\/c=10 then rV f r (aJ p c)
   else if c=35 then rV f ((c::r).drop (s9 (λc=>!decide (c=10)) (c::r))) (I6 p ((c::r).take (s9 (λc=>!decide (c=10)) (c::r))))
   else if (A9 (c::r)).2.2.2≠0 then [(((A9 (c::r)).2.1,(A9 (c::r)).2.2.1,(I6 p ((c::r).take (A9 (c::r)).1)).1,(I6 p ((c::r).take (A9 (c::r)).1)).2),(A9 (c::r)).2.2.2)]
    else (((A9 (c::r)).2.1,(A9 (c::r)).2.2.1,p.1,p.2),0)::rV f ((c::r).drop (A9 (c::r)).1) (I6 p ((c::r).take (A9 (c::r)).1)):=rfl
  rw[e];split
  ·have:=yQ f r (aJ p c);omega
  ·split
   ·have:=yQ f ((c::r).drop (s9 (λc=>!decide (c=10)) (c::r))) (I6 p ((c::r).take (s9 (λc=>!decide (c=10)) (c::r))));omega
   ·split
    ·show 1<=f+1+1;omega
    ·have:=yQ f ((c::r).drop (A9 (c::r)).1) (I6 p ((c::r).take (A9 (c::r)).1));rw[d7];omega
set_option maxRecDepth 20000 in
theorem UJ (s:d8) (w:World) (hT:uT (Hp.whole w)):j2 Tryz.prog 138 #[sv s] w (fQ w λv cs=>∃o:Dw.Os,v=.tuple #[o.v,iQ (dG s).2.1,iQ (dG s).2.2.1,iQ (dG s).2.2.2]/\cs = [.hp o.h]/\w5 fT 211 4 o (dG s).1):=by
 have hz:=C8 s;refine YD (X:=cx 27) cQ (args:=[sv s]) [.cell 2 207,.cell 3 3,.cell 4 3,.cell 5 33] Tryz.func138 rfl rfl rfl rfl rfl ?_;intro b2 b3 b4 b5;refine d9 (λh1=>?_) λh1=>?_
 ·have e:dG s=([],1,1,5):=by unfold dG;rw[if_pos om]
  rw[e];exact⟨[.hp Hp.emp],⟨Os.nil,rfl,rfl,w5.nil _ _ _⟩,λw' h=>Ok.emp (s:=[.hp (Hp.whole w)]) (h.pick [0] rfl rfl)⟩
 have hsl:s.length<=65536:=om
 have e:dG s=BL (rV (s.length+1) s (1,1)) []:=by unfold dG;rw[if_neg om,uQ]
 rw[e];have hxl:=yQ (s.length+1) s (1,1);refine call (λw' hm=>IE s w') ?_;rintro _ _ ⟨b11,b12,b13,rfl,rfl⟩;refine wB.sat λhsat=>?_;obtain⟨l1,hl1⟩ :∃l1:List Ch,l1 = [.hp (Hp.whole w),.box b11 [sv s] 9,.box b13 (T9.flatMap fC) 290,.box b12 [.slice (some ⟨b13,0,none⟩) 4 4] 291]:=⟨_,rfl⟩
 have hdj:RB l1:=by rw[hl1];exact hsat.djL [0,5,6,7] rfl rfl
 have le0:(Hp.whole w).le (joinL l1):=H0 (i:=0) (d:=.hp (Hp.whole w)) hdj (by rw[hl1];rfl);have le1:=H0 (i:=1) (d:=.box b11 [sv s] 9) hdj (by rw[hl1];rfl);have le2:=H0 (i:=2) (d:=.box b13 (T9.flatMap fC) 290) hdj (by rw[hl1];rfl);have le3:=H0 (i:=3) (d:=.box b12 [.slice (some ⟨b13,0,none⟩) 4 4] 291) hdj (by rw[hl1];rfl);have hcl:Sl (E0 fC) 3 (Ch.box b13 (T9.flatMap fC) 290).h (some ⟨b13,0,none⟩) 4 4 T9:=w5.sl (f:=fC) (λ_=>rfl) dc (w5.ofBox (f:=fC) (sz:=3) (T:=290) (b:=b13) (λ_=>rfl) T9 rfl rfl dc);obtain⟨xs,hxs⟩ :∃xs,xs=rV (s.length+1) s (1,1):=⟨_,rfl⟩
 have hit:=FB (b1:=b11) (b2:=b12) s om (some ⟨b13,0,none⟩) 4 4;rw[<-hxs] at hit hxl ⊢;refine Aw cQ (ps:=[13,14]) rfl hit (λ_=>rfl) dc (λ_ _ h l=>h.mono l)
  (joinL l1) [(2,.bx 2 0),(3,.bx 3 0),(4,.bx 4 0),(5,.bx 5 0)] (Dw.Os×Int×Int×Int) (λg=>[.box b2 [g.1.v] 207,.box b3 [iQ g.2.1] 3,.box b4 [iQ g.2.2.1] 3,.box b5 [iQ g.2.2.2] 33,.hp g.1.h])
  (λg pre=>g.2=(0,0,0)/\w5 fT 211 4 g.1 (pre.map Prod.fst)/\∀x∈pre,x.2=0) (λe g pre=>e=.ret/\w5 fT 211 4 g.1 []/\∀post,BL (pre++post) []=([],g.2.1.toNat,g.2.2.1.toNat,g.2.2.2)/\0<=g.2.1/\0<=g.2.2.1) (λ_=>True)
  ⟨le1.cell (by simp[Ch.h,Hp.cell?,Hp.one]),le3.cell (by simp[Ch.h,Hp.cell?,Hp.one]),hcl.mono (j7 _) le2,hT.mono le0⟩ trivial (λ_ _ _ _=>trivial) (Os.nil,0,0,0) ⟨rfl,w5.nil _ _ _,sQ⟩
  (λhc=>absurd trivial hc)
  (λw0 w h=>by rw[hl1];exact Ok.joinP _ _ (Ok.pick [0,5,6,7,1,2,3,4,8] rfl rfl h.emp)) rfl rfl (λ_=>rfl) ?_ ?_ ?_
 ·rintro⟨g,z1,z2,z3⟩ pre x post c1 hl hx ⟨hz,hR,hall⟩ _;dsimp only at hz hR;cases hz;have hpl:(pre.map Prod.fst).length+1<=70000:=by
   have:=congrArg H4 hx;rw[d6,d7] at this;rw[j6];omega
  intro b6;refine⟨[(2,.bx 2 0),(3,.bx 3 0),(4,.bx 4 0),(5,.bx 5 0),(6,.bx 7 0),(7,.v (iQ x.2))],[.box b2 [g.v] 207,.box b3 [iQ 0] 3,.box b4 [iQ 0] 3,.box b5 [iQ 0] 33,.hp g.h,.box b6 (fT x.1) 211],y6.mk (λ_ _ h=>h) rfl rfl,λhl'=>?_⟩;refine d9 (λhb=>?_) λhb=>?_
  ·refine sH.by_order0 cQ (.take 0 <| .take 1 <| .take 2 <| .take 3 <| .take 4 <| .run 5 <| .run 6 <| .run 7 <| .run 8 <| .done) kr (s0:=[.hp Hp.emp,.hp Hp.emp,.hp Hp.emp,.hp Hp.emp,.hp Hp.emp,.hp Hp.emp,.hp Hp.emp,.box b6 (fT x.1) 211]) (sK) ?_;refine⟨sK,?_⟩;refine⟨sK,?_⟩;refine⟨sK,?_⟩;refine⟨(⟨none,0,0,g.h⟩,(x.1.2.2.1:Nat),(x.1.2.2.2:Nat),x.2),⟨rfl,BY.nil _ _ _ _,λpost=>⟨?_,R6 _,R6 _⟩⟩,λ_ _ h=>h.pick [0,1,2,3,4,5,6] rfl rfl⟩;exact QS hall hb post
  ·have hx0:x.2=0:=j3 hb;intro b8;refine gZ (f:=fT) cQ (e:=211) rfl (i:=6) rfl hR (j:=8) x.1 rfl rfl rfl rfl om λo' ho'=>?_;refine⟨(o',0,0,0),⟨rfl,?_,?_⟩,λ_ _ h=>h.pick [0,1,2,3,4,5,6] rfl rfl⟩
   ·rw[E1];exact ho'
   ·intro y hy;rcases y8.1 hy with hy | hy
    ·exact hall y hy
    ·rw[v6.1 hy];exact hx0
 ·rintro⟨g,z1,z2,z3⟩ D ⟨hz,hR,hall⟩;dsimp only at hz hR;cases hz;have hc:=HA xs [] [] hall;rw[k8,I4] at hc;rw[hc];exact⟨1,rfl,[.hp g.h],⟨g,rfl,rfl,hR⟩,λw' h=>(h.pick [0,6] rfl rfl).less le0⟩
 ·rintro e ⟨g,z1,z2,z3⟩ D pre ⟨post,hpre⟩ ⟨rfl,hR,hc⟩;dsimp only at hR hc;have hc:=hc post;rw[hpre] at hc;rw[hc.1];obtain⟨k1,rfl⟩:=S8 hc.2.1;obtain⟨k2,rfl⟩:=S8 hc.2.2;exact⟨1,rfl,[.hp g.h],⟨g,rfl,rfl,hR⟩,λw' h=>(h.pick [0,6] rfl rfl).less le0⟩
end Go.Proofs.YtpjhmeicbjkcdaaGreatDoor
namespace Go.Proofs.YtpjhmeicbjkcdaaGreatDoor
open Go Go.RowKit Go.Dw
structure RS where
 ts:List mR
 ln:Nat
 co:Nat
 e:Int
def cU (ts:List mR):Prop:=∃pre t,ts=pre++[t]/\t.1=5/\∀x∈pre,x.1≠5
def MQ (a:Option Addr) (n c:Nat) (r:RS):List Value:=[.slice a n c,iQ r.ln,iQ r.co,iQ r.e]
def G0 (k h:Hp) (b:Nat) (r:RS):Prop:=∃a n c,jO 219 4 h (some ⟨b,0,none⟩) 1 1 (MQ a n c r)/\Sl (E0 fT) 4 k a n c r.ts/\(r.e=0->cU r.ts)/\∀t∈r.ts,t.2.1.length < 900000
def Ge:mR:=(0,[],0,0)
def z8 (r:RS):mR:=if r.e≠0 then (5,[],r.ln,r.co) else r.ts.headD Ge
def C6 (r:RS):RS:=if r.e=0/\(z8 r).1≠5 then { r with ts:=r.ts.tail } else r
def w9 (r:RS) (e:Int):RS:=if r.e≠0 then r else if e≠0 then { r with ln:=(z8 r).2.2.1,co:=(z8 r).2.2.2,e:=e } else r
def uA (s:d8):RS:=⟨(dG s).1,(dG s).2.1,(dG s).2.2.1,(dG s).2.2.2⟩
theorem cU.pos {ts:List mR} (h:cU ts):0 < ts.length:=by
 obtain⟨pre,t,rfl,_⟩:=h;simp
theorem cU.tail {ts:List mR} (h:cU ts) (h5:(ts.headD Ge).1≠5):cU ts.tail:=by
 obtain⟨pre,t,rfl,h1,h2⟩:=h;cases pre with
 | nil=>exact absurd h1 h5
 | cons x pre=>exact⟨pre,t,rfl,h1,λy hy=>h2 y (by simp[hy])⟩
section
variable {s:List Ch} {xo yo:Operand} {p:Option Addr} {q:TV->Prop}
theorem PB (w:World):(Op.equal 152 (.pointer p) (.pointer none)).run Tryz.prog w=.ok p.isNone w:=by
 have hun:(underlying 152).run Tryz.prog w=.ok (.pointer 219) w:=by simp[underlying,Tryz.underlying152]
 unfold Op.equal Op.maxDepth;rw[show (10000:Nat)=9999+1 from rfl];unfold Op.equalIn;simp only[Sem.run_bind,hun,Result.andThen_ok];cases p <;> rfl
theorem Be (h:q (.v (.bool p.isNone))):C9 Tryz.prog s (do eqGuard .eql 152 xo yo (.pointer p) (.pointer none);binOp .eql 152 (.pointer p) (.pointer none)) q:=by
 refine⟨_,λw _=>?_,h⟩;have hg:(eqGuard .eql 152 xo yo (.pointer p) (.pointer none)).run Tryz.prog w=.ok () w:=by simp[eqGuard]
 rw[Sem.run_bind,hg];simp only[Result.andThen_ok,binOp,Sem.run_bind];rw[PB];rfl
theorem Mf (h:q (.v (.bool (!p.isNone)))):C9 Tryz.prog s (do eqGuard .neq 152 xo yo (.pointer p) (.pointer none);binOp .neq 152 (.pointer p) (.pointer none)) q:=by
 refine⟨_,λw _=>?_,h⟩;have hg:(eqGuard .neq 152 xo yo (.pointer p) (.pointer none)).run Tryz.prog w=.ok () w:=by simp[eqGuard]
 rw[Sem.run_bind,hg];simp only[Result.andThen_ok,binOp,Sem.run_bind];rw[PB];rfl
end
theorem R7 {k h:Hp} {b:Nat} {r:RS} (w:World) (hin:h.In w) (hk:k.le (Hp.whole w)) (hR:G0 k h b r) :
  j2 Tryz.prog 153 #[pQ b] w (v8 w (Dd (z8 r))):=by
 obtain⟨a,n,c,hO,hS,hE,hB⟩:=hR;have hS':=hS.mono (j7 _) hk;have hn:=hS.len;have hO2:jO 219 4 (Hp.whole w) (some ⟨b,0,none⟩) 1 1 (MQ a n c r):=by
  refine⟨hO.1,?_⟩;rcases hO.2 with ⟨h0,_⟩ | ⟨b',arr,e1,hb,rest⟩
  ·cases h0
  ·exact .inr ⟨b',arr,e1,hin.whole _ _ hb,rest⟩
 unfold MQ at hO2;refine enterZ (cx 28) [pQ b] [.cell 2 211] Tryz.func153 ?_;intro b2;refine Be ?_;refine bK (j:=3) cQ (i:=0) rfl hO2 rfl rfl ?_;refine d9 (λh2=>?_) λh2=>?_
 ·refine u6.by_order cQ (.take 0 <| .take 1 <| .take 2 <| .take 3 <| .take 4 <| .take 5 <| .take 6 <| .take 7 <| .take 8 <| .run 9 <| .done) kr ?_;refine bK (j:=1) cQ (i:=0) rfl hO2 rfl rfl ?_;refine bK (j:=2) cQ (i:=0) rfl hO2 rfl rfl ?_;exact⟨[],⟨by unfold z8;rw[if_pos h2];rfl,rfl⟩,pk [0]⟩
 ·have he:r.e=0:=j3 h2;have hp:=(hE he).pos;refine bK (j:=0) cQ (i:=0) rfl hO2 rfl rfl ?_;refine R2 cQ (e:=211) rfl hS' 0 rfl hp λb9 o9 cs hcs hR hcell=>?_;subst hR;refine nX cQ (i:=0) rfl hcell rfl ?_;exact⟨[],⟨by
   unfold z8;rw[if_neg h2,List.headD_eq_head?_getD,List.head?_eq_getElem?,i7 hp];rfl,rfl⟩,pk [0]⟩
theorem cS {k h:Hp} {b:Nat} {r:RS} (w:World) (hin:h.In w) (hk:k.le ((Hp.whole w).minus h)) (hR:G0 k h b r) :
  j2 Tryz.prog 172 #[pQ b] w (O3 w h λv h' cs=>cs = []/\v=Dd (z8 r)/\G0 k h' b (C6 r)):=by
 have hR0:=hR;obtain⟨a,n,c,hO,hS,hE,hB⟩:=hR;have hn:=hS.len;unfold MQ at hO;refine enterMZ (cx 29) [pQ b] hin [.cell 2 211] Tryz.func172 ?_;intro b2;refine k7 _ (λw' hm=>R7 w' (hm 1 _ rfl) (hk.trans (hm 0 _ rfl).whole) hR0) ?_;intro b3;refine Mf ?_;refine bK (j:=3) cQ (i:=1) rfl hO rfl rfl ?_;refine d9 (λh2=>?_) λh2=>?_
 ·have he:r.e=0:=h2;have hEE:=hE he;have hp:=hEE.pos;refine d9 (λh3=>?_) λh3=>?_
  ·have h5:(z8 r).1≠5:=h3;have hx:C6 r = { r with ts:=r.ts.tail }:=by unfold C6;rw[if_pos ⟨he,h5⟩]
   rw[hx];have h6:(r.ts.headD Ge).1≠5:=by unfold z8 at h5;rw[if_neg (λg=>g he)] at h5;exact h5
   refine bK (j:=0) cQ (i:=1) rfl hO rfl rfl ?_;refine An cQ (e:=211) rfl hS 1 n (.inr ⟨_,_,rfl,rfl⟩) (.inl ⟨rfl,rfl⟩) om om λa25 hs25=>?_;refine US (j:=0) cQ (i:=1) rfl hO rfl rfl rfl dc rfl λh2' hO2=>?_;have e1:(r.ts.take n).drop 1=r.ts.tail:=by rw[o6 om,List.drop_one]
   rw[e1] at hs25;exact⟨h2',[],⟨rfl,rfl,⟨a25,n - 1,c - 1,hO2,hs25,λ_=>hEE.tail h6,λt ht=>hB t (List.mem_of_mem_tail ht)⟩⟩,pk [0,1]⟩
  ·have hx:C6 r=r:=by unfold C6;rw[if_neg (λg=>h3 g.2)]
   rw[hx];exact⟨h,[],⟨rfl,rfl,hR0⟩,pk [0,1]⟩
 ·have hx:C6 r=r:=by unfold C6;rw[if_neg (λg=>h2 g.1)]
  rw[hx];exact⟨h,[],⟨rfl,rfl,hR0⟩,pk [0,1]⟩
theorem F9 {k h:Hp} {b:Nat} {r:RS} {e:Int} (w:World) (hin:h.In w) (hk:k.le ((Hp.whole w).minus h)) (hR:G0 k h b r) :
  j2 Tryz.prog 152 #[pQ b,iQ e] w (O3 w h λ_ h' cs=>cs = []/\G0 k h' b (w9 r e)):=by
 have hR0:=hR;obtain⟨a,n,c,hO,hS,hE,hB⟩:=hR;have hn:=hS.len;unfold MQ at hO;refine enterMZ (cx 32) [pQ b,iQ e] hin [] Tryz.func152 ?_;refine Be ?_;refine bK (j:=3) cQ (i:=1) rfl hO rfl rfl ?_;refine d9 (λh2=>?_) λh2=>?_
 ·have hx:w9 r e=r:=by unfold w9;rw[if_pos h2]
  rw[hx];exact⟨h,[],⟨rfl,hR0⟩,pk [0,1]⟩
 ·refine k7 _ (λw' hm=>R7 w' (hm 1 _ rfl) (hk.trans (hm 0 _ rfl).whole) hR0) ?_;intro b4;refine d9 (λh3=>?_) λh3=>?_
  ·have hx:w9 r e = { r with ln:=(z8 r).2.2.1,co:=(z8 r).2.2.2,e:=e }:=by unfold w9;rw[if_neg h2,if_pos h3]
   rw[hx];generalize z8 r=p at *;refine u6.by_order0 cQ (.take 0 <| .take 1 <| .take 2 <| .take 3 <| .take 4 <| .take 5 <| .take 6 <| .take 7 <| .take 8 <| .take 9 <| .run 10 <| .run 11 <| .run 12 <| .run 13 <| .run 14 <| .run 15 <| .run 16 <| .done) kr (J5 _ 1) ?_;refine US (j:=1) cQ (i:=1) rfl hO rfl rfl rfl dc rfl λh5 hO2=>?_;refine⟨sK,?_⟩;refine⟨sK,?_⟩;refine⟨sK,?_⟩;refine US (j:=2) cQ (i:=1) rfl hO2 rfl rfl rfl dc rfl λh6 hO3=>?_;refine⟨sK,?_⟩;refine US (j:=3) cQ (i:=1) rfl hO3 rfl rfl rfl dc rfl λh7 hO4=>?_;exact⟨h7,[],⟨rfl,⟨a,n,c,hO4,hS,λg=>absurd g h3,hB⟩⟩,pk [0,1]⟩
  ·have hx:w9 r e=r:=by unfold w9;rw[if_neg h2,if_neg h3]
   rw[hx];exact⟨h,[],⟨rfl,hR0⟩,pk [0,1]⟩
end Go.Proofs.YtpjhmeicbjkcdaaGreatDoor
namespace Go.Dw
open Go Go.RowKit
theorem Ok.kle {w0 w:World} {s:List Ch} {k c0 h:Hp} (hok:Ok w0 s w) (h0:l7 s 0=some (.hp c0)) (hi:l7 s 1=some (.hp h)) (hk:k.le c0):k.le ((Hp.whole w).minus h):=
 hk.trans (Hp.le_minus (hok.mem 0 _ h0).whole (hok.disj 0 1 _ _ dc h0 hi))
end Go.Dw
namespace Go.Proofs.YtpjhmeicbjkcdaaGreatDoor
open Go Go.RowKit Go.Dw
def S7 (r:RS) (s:d8):Bool:=(decide ((z8 r).1=1) || decide ((z8 r).1=4)) && decide ((z8 r).2.1=s)
def R3 (r:RS) (s:d8):RS:=if S7 r s=true then C6 r else r
def J9 (r:RS) (z:Int):RS×d8:=if (z8 r).1≠z then (w9 r 14,[]) else (C6 r,(z8 r).2.1)
def qU (r:RS):RS:=if S7 r [45]=true/\(z8 (R3 r [45])).1=2/\(z8 (R3 r [45])).2.1 = [48] then w9 (R3 r [45]) 3 else R3 r [45]
def X0 (r:RS):RS×d8:=((J9 (qU r) 2).1,if (J9 (qU r) 2).2 = [] then [] else (if S7 r [45]=true then [45] else [])++(J9 (qU r) 2).2)
theorem G0.peekB {k h:Hp} {b:Nat} {r:RS} (hR:G0 k h b r):(z8 r).2.1.length < 900000:=by
 obtain⟨a,n,c,_,_,hE,hB⟩:=hR;unfold z8;split
 ·exact E3 _
 ·rename_i h2
  have hp:=(hE (j3 h2)).pos;cases hts:r.ts with
  | nil=>rw[hts] at hp;cases hp
  | cons t ts=>exact hB t (by rw[hts];simp)
section
variable {k h:Hp} {b:Nat} {r:RS}
theorem R1 {s:d8} (w:World) (hin:h.In w) (hk:k.le (Hp.whole w)) (hR:G0 k h b r) :
  j2 Tryz.prog 79 #[pQ b,sv s] w (v8 w (.bool (S7 r s))):=by
 refine enterZ (cx 22) [pQ b,sv s] [.tmp 4] Tryz.func79 ?_;have hpk :∀w',iE [.hp (Hp.whole w)] w'->j2 Tryz.prog 153 #[pQ b] w' (v8 w' (Dd (z8 r))):=λw' hm=>by
  have hw:=(hm 0 _ rfl).whole;exact R7 w' (λx o e=>hm 0 _ rfl _ _ (hin.whole _ _ e)) (hk.trans hw) hR
 refine k7 _ (λw' hm=>hpk w' hm) ?_;unfold S7;generalize z8 r=p;intro b5;refine d9 (λh1=>?_) λh1=>?_
 ·refine dL ?_;exact⟨[],⟨by rw[decide_eq_true h1];rfl,rfl⟩,pk [0]⟩
 ·refine d9 (λh2=>?_) λh2=>?_
  ·refine dL ?_;exact⟨[],⟨by rw[decide_eq_true h2,lX];rfl,rfl⟩,pk [0]⟩
  ·exact⟨[],⟨by rw[decide_eq_false h1,decide_eq_false h2];rfl,rfl⟩,pk [0]⟩
theorem CB (w:World) (hin:h.In w) (hR:G0 k h b r) :
  j2 Tryz.prog 86 #[pQ b] w (v8 w (.tuple #[iQ (if r.e=0 then (0:Int) else r.ln),iQ (if r.e=0 then (0:Int) else r.co),iQ r.e])):=by
 obtain⟨a,n,c,hO,hS,hE,hB⟩:=hR;have hO2:jO 219 4 (Hp.whole w) (some ⟨b,0,none⟩) 1 1 (MQ a n c r):=by
  refine⟨hO.1,?_⟩;rcases hO.2 with ⟨h0,_⟩ | ⟨b',arr,e1,hb,rest⟩
  ·cases h0
  ·exact .inr ⟨b',arr,e1,hin.whole _ _ hb,rest⟩
 unfold MQ at hO2;refine enterZ (cx 26) [pQ b] [.tmp 2,.tmp 3,.tmp 4] Tryz.func86 ?_;refine Be ?_;refine bK (j:=3) cQ (i:=0) rfl hO2 rfl rfl ?_;refine d9 (λh2=>?_) λh2=>?_
 ·have h2':r.e=0:=h2;exact⟨[],⟨by rw[h2'];rfl,rfl⟩,pk [0]⟩
 ·have h2' : ¬ r.e=0:=h2;refine u6.by_order cQ (.take 0 <| .take 1 <| .take 2 <| .take 3 <| .take 4 <| .take 5 <| .take 6 <| .take 7 <| .take 8 <| .take 9 <| .take 10 <| .take 11 <| .take 12 <| .take 13 <| .take 14 <| .done) kr ?_;refine bK (j:=1) cQ (i:=0) rfl hO2 rfl rfl ?_;refine bK (j:=2) cQ (i:=0) rfl hO2 rfl rfl ?_;refine bK (j:=3) cQ (i:=0) rfl hO2 rfl rfl ?_;exact⟨[],⟨by rw[if_neg h2',if_neg h2'],rfl⟩,pk [0]⟩
theorem cR {s:d8} (w:World) (hin:h.In w) (hk:k.le ((Hp.whole w).minus h)) (hR:G0 k h b r) :
  j2 Tryz.prog 151 #[pQ b,sv s] w (O3 w h λv h' cs=>cs = []/\v=.bool (S7 r s)/\G0 k h' b (R3 r s)):=by
 refine enterMZ (cx 13) [pQ b,sv s] hin [.tmp 4] Tryz.func151 ?_;refine k7 _ (λw' hm=>R1 w' (hm 1 _ rfl) (hk.trans (hm 0 _ rfl).whole) hR) ?_;refine v7 (λh1=>?_) λh1=>?_
 ·refine k6 (i:=1) rfl (λw0 w' hok=>cS w' (hok.mem 1 _ rfl) (hok.kle rfl rfl hk) hR) ?_;rintro _ h2 _ ⟨rfl,rfl,hR2⟩;exact⟨h2,[],⟨rfl,by rw[h1],by unfold R3;rw[if_pos h1];exact hR2⟩,pk [0,1]⟩
 ·exact⟨h,[],⟨rfl,by rw[h1],by unfold R3;rw[if_neg (by rw[h1];decide)];exact hR⟩,pk [0,1]⟩
theorem l6 {s:d8} (w:World) (hin:h.In w) (hk:k.le ((Hp.whole w).minus h)) (hR:G0 k h b r) :
  j2 Tryz.prog 76 #[pQ b,sv s] w (O3 w h λ_ h' cs=>cs = []/\G0 k h' b (if S7 r s=true then C6 r else w9 r 14)):=by
 refine enterMZ (cx 10) [pQ b,sv s] hin [] Tryz.func76 ?_;refine k6 (i:=1) rfl (λw0 w' hok=>cR w' (hok.mem 1 _ rfl) (hok.kle rfl rfl hk) hR) ?_;rintro _ h2 _ ⟨rfl,rfl,hR2⟩;unfold R3 at hR2;refine v7 (λh1=>?_) λh1=>?_
 ·have h1':S7 r s=false:=by simpa using h1
  rw[if_neg (by rw[h1'];decide)] at hR2;refine k6 (i:=1) rfl (λw0 w' hok=>F9 w' (hok.mem 1 _ rfl) (hok.kle rfl rfl hk) hR2) ?_;rintro _ h3 _ ⟨rfl,hR3⟩;exact⟨h3,[],⟨rfl,by rw[if_neg (by rw[h1'];decide)];exact hR3⟩,pk [0,1]⟩
 ·have h1':S7 r s=true:=by simpa using h1
  rw[if_pos h1'] at hR2;exact⟨h2,[],⟨rfl,by rw[if_pos h1'];exact hR2⟩,pk [0,1]⟩
theorem jY {z:Int} (w:World) (hin:h.In w) (hk:k.le ((Hp.whole w).minus h)) (hR:G0 k h b r) :
  j2 Tryz.prog 201 #[pQ b,iQ z] w (O3 w h λv h' cs=>cs = []/\v=sv (J9 r z).2/\G0 k h' b (J9 r z).1):=by
 refine enterMZ (cx 15) [pQ b,iQ z] hin [.tmp 4] Tryz.func201 ?_;refine k7 _ (λw' hm=>R7 w' (hm 1 _ rfl) (hk.trans (hm 0 _ rfl).whole) hR) ?_;refine d9 (λh1=>?_) λh1=>?_
 ·have e:J9 r z=(w9 r 14,[]):=by unfold J9;rw[if_pos h1]
  rw[e];refine k6 (i:=1) rfl (λw0 w' hok=>F9 w' (hok.mem 1 _ rfl) (hok.kle rfl rfl hk) hR) ?_;rintro _ h3 _ ⟨rfl,hR3⟩;exact⟨h3,[],⟨rfl,rfl,hR3⟩,pk [0,1]⟩
 ·have e:J9 r z=(C6 r,(z8 r).2.1):=by unfold J9;rw[if_neg h1]
  rw[e];refine k6 (i:=1) rfl (λw0 w' hok=>cS w' (hok.mem 1 _ rfl) (hok.kle rfl rfl hk) hR) ?_;rintro _ h2 _ ⟨rfl,rfl,hR2⟩;exact⟨h2,[],⟨rfl,rfl,hR2⟩,pk [0,1]⟩
theorem fV (w:World) (hin:h.In w) (hk:k.le ((Hp.whole w).minus h)) (hR:G0 k h b r) :
  j2 Tryz.prog 155 #[pQ b] w (O3 w h λv h' cs=>cs = []/\v=sv (J9 r 1).2/\G0 k h' b (J9 r 1).1):=by
 refine enterMZ (cx 5) [pQ b] hin [.tmp 2] Tryz.func155 ?_;refine k6 (i:=1) rfl (λw0 w' hok=>jY w' (hok.mem 1 _ rfl) (hok.kle rfl rfl hk) hR) ?_;rintro _ h2 _ ⟨rfl,rfl,hR2⟩;exact⟨h2,[],⟨rfl,rfl,hR2⟩,pk [0,1]⟩
theorem fP (w:World) (hin:h.In w) (hk:k.le ((Hp.whole w).minus h)) (hR:G0 k h b r) :
  j2 Tryz.prog 154 #[pQ b] w (O3 w h λv h' cs=>cs = []/\v=sv (J9 r 3).2/\G0 k h' b (J9 r 3).1):=by
 refine enterMZ (cx 5) [pQ b] hin [.tmp 2] Tryz.func154 ?_;refine k6 (i:=1) rfl (λw0 w' hok=>jY w' (hok.mem 1 _ rfl) (hok.kle rfl rfl hk) hR) ?_;rintro _ h2 _ ⟨rfl,rfl,hR2⟩;exact⟨h2,[],⟨rfl,rfl,hR2⟩,pk [0,1]⟩
theorem LS (w:World) (hin:h.In w) (hk:k.le ((Hp.whole w).minus h)) (hR:G0 k h b r) :
  j2 Tryz.prog 85 #[pQ b] w (O3 w h λ_ h' cs=>cs = []/\G0 k h' b (if (z8 r).1≠5 then w9 r 14 else r)):=by
 refine enterMZ (cx 8) [pQ b] hin [] Tryz.func85 ?_;refine k7 _ (λw' hm=>R7 w' (hm 1 _ rfl) (hk.trans (hm 0 _ rfl).whole) hR) ?_;refine d9 (λh1=>?_) λh1=>?_
 ·have h1':(z8 r).1≠5:=h1;rw[if_pos h1'];refine k6 (i:=1) rfl (λw0 w' hok=>F9 w' (hok.mem 1 _ rfl) (hok.kle rfl rfl hk) hR) ?_;rintro _ h3 _ ⟨rfl,hR3⟩;exact⟨h3,[],⟨rfl,hR3⟩,pk [0,1]⟩
 ·have h1' : ¬ (z8 r).1≠5:=h1;rw[if_neg h1'];exact⟨h,[],⟨rfl,hR⟩,pk [0,1]⟩
end
end Go.Proofs.YtpjhmeicbjkcdaaGreatDoor
namespace Go.Proofs.YtpjhmeicbjkcdaaGreatDoor
open Go Go.RowKit Go.Dw
theorem G0.kindB {k h:Hp} {b:Nat} {r:RS} (hR:G0 k h b r) (z:Int):(J9 r z).2.length < 900000:=by
 unfold J9;split
 ·exact E3 _
 ·exact hR.peekB
section
variable {k h:Hp} {b:Nat} {r:RS}
set_option maxRecDepth 10000 in
theorem iS (w:World) (hin:h.In w) (hk:k.le ((Hp.whole w).minus h)) (hR:G0 k h b r) :
  j2 Tryz.prog 203 #[pQ b] w (O3 w h λv h' cs=>cs = []/\v=sv (X0 r).2/\G0 k h' b (X0 r).1):=by
 refine enterMZ (cx 31) [pQ b] hin [.tmp 2] Tryz.func203 ?_;unfold X0;refine k6 (i:=1) rfl (λw0 w' hok=>cR (s:=[45]) w' (hok.mem 1 _ rfl) (hok.kle rfl rfl hk) hR) ?_;rintro _ h2 _ ⟨rfl,rfl,hR2⟩;refine v7 (λh1=>?_) λh1=>?_
 ·rw[if_pos h1];refine k7 _ (λw' hm=>R7 w' (hm 1 _ rfl) (hk.trans (hm 0 _ rfl).whole) hR2) ?_;intro b4;refine pZ (a:=[45]) (b:=[]) ?_;conv=>whnf
  refine d9 (λh3=>?_) λh3=>?_;focus
   refine dL (b:=[48]) ?_;refine d9 (λh4=>?_) λh4=>?_
   ·have e:qU r=w9 (R3 r [45]) 3:=by unfold qU;rw[if_pos ⟨h1,h3,h4⟩]
    rw[e];refine k6 (i:=1) rfl (λw0 w' hok=>F9 w' (hok.mem 1 _ rfl) (hok.kle rfl rfl hk) hR2) ?_;rintro _ h4 _ ⟨rfl,hR4⟩;refine k6 (i:=1) rfl (λw0 w' hok=>jY w' (hok.mem 1 _ rfl) (hok.kle rfl rfl hk) hR4) ?_;rintro _ h5 _ ⟨rfl,rfl,hR5⟩;refine dL (b:=[]) ?_;refine d9 (λh5=>?_) λh5=>?_
    ·exact⟨_,[],⟨rfl,by rw[if_pos h5];rfl,hR5⟩,pk [0,1]⟩
    ·refine gG (ty:=9) (a:=[45]) (by have:=hR4.kindB 2;simp only[d7,i6];omega) ?_;exact⟨_,[],⟨rfl,by rw[if_neg h5],hR5⟩,pk [0,1]⟩
   focus
    have e:qU r=R3 r [45]:=by unfold qU;rw[if_neg λg=>h4 g.2.2]
  rotate_left
  focus
   have e:qU r=R3 r [45]:=by unfold qU;rw[if_neg λg=>h3 g.2.1]
  all_goals
   rw[e];refine k6 (i:=1) rfl (λw0 w' hok=>jY w' (hok.mem 1 _ rfl) (hok.kle rfl rfl hk) hR2) ?_;rintro _ h5 _ ⟨rfl,rfl,hR5⟩;refine dL (b:=[]) ?_;refine d9 (λh5=>?_) λh5=>?_
   ·exact⟨_,[],⟨rfl,by rw[if_pos h5];rfl,hR5⟩,pk [0,1]⟩
   ·refine gG (ty:=9) (a:=[45]) (by have:=hR2.kindB 2;simp only[d7,i6];omega) ?_;exact⟨_,[],⟨rfl,by rw[if_neg h5],hR5⟩,pk [0,1]⟩
 ·have h1' : ¬ S7 r [45]=true:=by rw[h1];decide
  rw[if_neg h1'];have e:qU r=R3 r [45]:=by unfold qU;rw[if_neg λg=>h1' g.1]
  rw[e];refine k7 _ (λw' hm=>R7 w' (hm 1 _ rfl) (hk.trans (hm 0 _ rfl).whole) hR2) ?_;intro b4;refine pZ (a:=[]) (b:=[]) ?_;conv=>whnf
  refine k6 (i:=1) rfl (λw0 w' hok=>jY w' (hok.mem 1 _ rfl) (hok.kle rfl rfl hk) hR2) ?_;rintro _ h5 _ ⟨rfl,rfl,hR5⟩;refine dL (b:=[]) ?_;refine d9 (λh5=>?_) λh5=>?_
  ·exact⟨_,[],⟨rfl,by rw[if_pos h5];rfl,hR5⟩,pk [0,1]⟩
  ·refine gG (ty:=9) (a:=[]) (by have:=hR2.kindB 2;simp only[i6];omega) ?_;exact⟨_,[],⟨rfl,by rw[if_neg h5],hR5⟩,pk [0,1]⟩
end
theorem Ax :∀(l:d8) (i:Nat) (out:d8),(J3 l i out).2.1.length<=out.length+l.length:=by
 intro l;induction hn:l.length using sI generalizing l with
 | _ n ih=>
  intro i out;match l,hn with
  | [],_=>exact j0 _
  | [c],hn=>
   subst hn;unfold J3;split
   ·exact j0 _
   ·split
    ·split
     ·exact j0 _
     ·exact aN _ _
    ·split
     ·exact j0 _
     ·split <;> exact j0 _
  | c::e::r,hn=>
   unfold J3;simp only[d7] at hn;split
   ·exact j0 _
   ·split
    ·split
     ·exact j0 _
     ·exact aN _ _
    ·split
     ·exact j0 _
     ·split
      ·split
       ·have:=ih r.length om r rfl (i+2) (out++[e]);rw[d6,p7] at this;omega
       ·exact j0 _
      ·have:=ih (r.length+1) om (e::r) rfl (i+1) (out++[c]);rw[d6,p7] at this;omega
theorem OX (s:d8):(A9 s).2.2.1.length<=s.length:=by
 unfold A9;dsimp only;split
 ·have:=Ax (s.drop 1) 1 [];rw[j9,i6] at this;show (J3 (s.drop 1) 1 []).2.1.length<=_;omega
 ·split
  ·split
   ·exact j0 _
   ·exact List.length_take_le' _ _
  ·split
   ·split
    ·exact j0 _
    ·split
     ·exact List.length_take_le' _ _
     ·exact j0 _
   ·split
    ·exact j0 _
    ·exact List.length_take_le' _ _
theorem VH (s:d8):(A9 s).2.1≠5:=by
 obtain⟨h,h2⟩:=FC s;have key :∀k (hk:k < T9.length),eB (s.getD 0 0)=k->(T9[eB (s.getD 0 0)]'(oN _)).1=T9[k].1:=λk hk h=>by subst h;rfl
 rcases h2 with ⟨hc,_⟩ | ⟨hc,_⟩ | ⟨hc,_⟩ | ⟨hc,_⟩ <;> rw[key _ dc hc] at h <;> rw[<-h] <;> decide
theorem pP :∀(f:Nat) (s:d8) (p:Nat×Nat),∃pre last,rV f s p=pre++[last]/\(∀x∈pre,x.2=0/\x.1.1≠5/\x.1.2.1.length<=s.length)/\(last.2=0->last.1.1=5)/\last.1.2.1.length<=s.length
 | 0,s,p=>⟨[],_,rfl,sQ,λ_=>rfl,j0 _⟩
 | f+1,[],p=>⟨[],_,rfl,sQ,λ_=>rfl,j0 _⟩
 | f+1,c::r,p=>by
  have e:rV (f+1) (c::r) p=if c=32\/c=10 then rV f r (aJ p c)
   else if c=35 then rV f ((c::r).drop (s9 (λc=>!decide (c=10)) (c::r))) (I6 p ((c::r).take (s9 (λc=>!decide (c=10)) (c::r))))
   else if (A9 (c::r)).2.2.2≠0 then [(((A9 (c::r)).2.1,(A9 (c::r)).2.2.1,(I6 p ((c::r).take (A9 (c::r)).1)).1,(I6 p ((c::r).take (A9 (c::r)).1)).2),(A9 (c::r)).2.2.2)]
    else (((A9 (c::r)).2.1,(A9 (c::r)).2.2.1,p.1,p.2),0)::rV f ((c::r).drop (A9 (c::r)).1) (I6 p ((c::r).take (A9 (c::r)).1)):=rfl
  rw[e];split
  ·obtain⟨pre,last,h1,h2,h3,h4⟩:=pP f r (aJ p c);exact⟨pre,last,h1,λx hx=>⟨(h2 x hx).1,(h2 x hx).2.1,Nat.le_succ_of_le (h2 x hx).2.2⟩,h3,Nat.le_succ_of_le h4⟩
  ·split
   ·obtain⟨pre,last,h1,h2,h3,h4⟩:=pP f ((c::r).drop (s9 (λc=>!decide (c=10)) (c::r))) (I6 p ((c::r).take (s9 (λc=>!decide (c=10)) (c::r))));rw[j9] at h2 h4;exact⟨pre,last,h1,λx hx=>⟨(h2 x hx).1,(h2 x hx).2.1,q9 (h2 x hx).2.2 (Nat.sub_le _ _)⟩,h3,q9 h4 (Nat.sub_le _ _)⟩
   ·split
    ·rename_i h
     exact⟨[],_,rfl,sQ,λg=>absurd g h,OX _⟩
    ·obtain⟨pre,last,h1,h2,h3,h4⟩:=pP f ((c::r).drop (A9 (c::r)).1) (I6 p ((c::r).take (A9 (c::r)).1));rw[j9] at h2 h4;refine⟨_::pre,last,by rw[h1];rfl,λx hx=>?_,h3,q9 h4 (Nat.sub_le _ _)⟩;rcases p9.1 hx with rfl | hx
     ·exact⟨rfl,VH _,OX _⟩
     ·exact⟨(h2 x hx).1,(h2 x hx).2.1,q9 (h2 x hx).2.2 (Nat.sub_le _ _)⟩
theorem vG (s:d8):((dG s).2.2.2=0->cU (dG s).1)/\∀t∈(dG s).1,t.2.1.length < 900000:=by
 unfold dG;split
 ·exact⟨λh=>absurd h (show ¬ (5:Int)=0 by decide),λt ht=>absurd ht G4⟩
 ·rename_i hl
  rw[<-uQ];obtain⟨pre,last,h1,h2,h3,h4⟩:=pP (s.length+1) s (1,1);rw[h1];by_cases h:last.2=0
  ·have:=HA (pre++[last]) [] [] (λx hx=>by
    rcases y8.1 hx with hx | hx
    ·exact (h2 x hx).1
    ·rw[v6.1 hx];exact h)
   rw[k8,I4] at this;rw[this];refine⟨λ_=>⟨pre.map Prod.fst,last.1,by rw[E1];rfl,h3 h,λx hx=>?_⟩,λt ht=>?_⟩
   ·obtain⟨y,hy,rfl⟩:=y7.1 hx;exact (h2 y hy).2.1
   ·obtain⟨y,hy,rfl⟩:=y7.1 ht;rcases y8.1 hy with hy | hy
    ·have:=(h2 y hy).2.2;omega
    ·rw[v6.1 hy];omega
  ·have:=QS (pre:=pre) (x:=last) (λx hx=>(h2 x hx).1) h [];rw[k8] at this;rw[this];exact⟨λg=>absurd g h,λt ht=>by cases ht⟩
theorem ZD (s:d8) (w:World) (hT:uT (Hp.whole w)):j2 Tryz.prog 75 #[sv s] w (fQ w λv cs=>∃b h k,v=pQ b/\cs = [.hp h,.hp k]/\G0 k h b (uA s)):=by
 refine enterZ (cx 20) [sv s] [.tmp 2] Tryz.func75 ?_;refine call (λw' hm=>UJ s w' (hT.mono (hm 0 _ rfl).whole)) ?_;rintro _ _ ⟨o,rfl,rfl,hO⟩;intro b19;have hb:w5 (λ_:Unit=>MQ o.a o.n o.c (uA s)) 219 4 ⟨some ⟨b19,0,none⟩,1,1,(Ch.box b19 (MQ o.a o.n o.c (uA s)) 219).h⟩ [()]:=w5.ofBox (λ_=>rfl) [()] sQ rfl dc;refine⟨[.hp (Ch.box b19 (MQ o.a o.n o.c (uA s)) 219).h,.hp o.h],⟨b19,_,_,rfl,rfl,o.a,o.n,o.c,hb.2,w5.sl (f:=fT) (λ_=>rfl) dc hO,(vG s).1,(vG s).2⟩,λw' h=>?_⟩;have h2:Ok w [.hp (Hp.whole w),.box b19 (MQ o.a o.n o.c (uA s)) 219,.hp o.h] w':=h.pick [0,2,1] rfl rfl;exact Ok.same (i:=1) (c:=.box b19 (MQ o.a o.n o.c (uA s)) 219) (d:=.hp (Ch.box b19 (MQ o.a o.n o.c (uA s)) 219).h) rfl rfl h2
end Go.Proofs.YtpjhmeicbjkcdaaGreatDoor
namespace Go.Proofs.YtpjhmeicbjkcdaaGreatDoor
def pY (s:d8):Nat×List (Int×d8)×Int:=
 if s.getD 0 0=32\/s.getD 0 0=10 then (1,[],0)
 else if s.getD 0 0=35 then (s9 (λc=>!decide (c=10)) s,[],0)
 else ((A9 s).1,[((A9 s).2.1,(A9 s).2.2.1)],(A9 s).2.2.2)
def Oo (p:Nat×Nat) (l:List (Int×d8)):List mR:=l.map λx=>(x.1,x.2,p.1,p.2)
theorem FN (f:Nat) (c:UInt8) (r:d8) (p:Nat×Nat) (out:List mR):cH (f+1) (c::r) p out =
  if (pY (c::r)).2.2≠0 then ([],(I6 p ((c::r).take (pY (c::r)).1)).1,(I6 p ((c::r).take (pY (c::r)).1)).2,(pY (c::r)).2.2)
  else cH f ((c::r).drop (pY (c::r)).1) (I6 p ((c::r).take (pY (c::r)).1)) (out++Oo p (pY (c::r)).2.1):=by
 have e:cH (f+1) (c::r) p out=if c=32\/c=10 then cH f r (aJ p c) out
   else if c=35 then cH f ((c::r).drop (s9 (λc=>!decide (c=10)) (c::r))) (I6 p ((c::r).take (s9 (λc=>!decide (c=10)) (c::r)))) out
   else if (A9 (c::r)).2.2.2≠0 then ([],(I6 p ((c::r).take (A9 (c::r)).1)).1,(I6 p ((c::r).take (A9 (c::r)).1)).2,(A9 (c::r)).2.2.2)
    else cH f ((c::r).drop (A9 (c::r)).1) (I6 p ((c::r).take (A9 (c::r)).1)) (out++[((A9 (c::r)).2.1,(A9 (c::r)).2.2.1,p.1,p.2)]):=rfl
 rw[e];have g:(c::r).getD 0 0=c:=rfl;unfold pY;rw[g];by_cases h1:c=32\/c=10
 ·simp only[if_pos h1];rw[if_neg dc];show _=cH f r (aJ p c) (out++[])
  rw[k8]
 ·simp only[if_neg h1];by_cases h2:c=35
  ·simp only[if_pos h2];rw[if_neg (show ¬ ((0:Int)≠0) by decide)];show _=cH f _ _ (out++[])
   rw[k8]
  ·simp only[if_neg h2];rfl
theorem iK (f:UInt8->Bool) :∀l:d8,s9 f l<=l.length
 | []=>j8 _
 | c::l=>by
  have:=iK f l;unfold s9 at this ⊢;rw[B6];split
  ·simp only[d7];omega
  ·simp
theorem nJ {f:UInt8->Bool} (h:f 10=false) (t:d8) :∀l:d8,s9 f (l++10::t)=s9 f l
 | []=>by
  show (List.takeWhile f (10::t)).length=0
  rw[B6,if_neg (by rw[h];decide)];rfl
 | c::l=>by
  have:=nJ h t l;unfold s9 at this ⊢;rw[CZ,B6,B6];split
  ·rw[d7,d7,this]
  ·rfl
theorem Ay (t:d8) :∀(l:d8) (i:Nat) (out:d8),(J3 l i out).2.2=0->J3 (l++10::t) i out=J3 l i out/\(J3 l i out).1<=i+l.length:=by
 intro l;induction hn:l.length using sI generalizing l with
 | _ n ih=>
  intro i out h;match l,hn with
  | [],_=>exact absurd h (by show ¬ ((4:Int)=0);decide)
  | [c],hn=>
   have e:J3 [c] i out=if c=10 then (0,[],4) else if c=34 then (if 4096 < out.length then (0,[],5) else (i+1,out,0)) else if c.toNat < 32\/126 < c.toNat then (i,[],14) else if c=92 then (i,[],14) else (0,[],4):=rfl
   have e2:J3 ([c]++10::t) i out=if c=10 then (0,[],4) else if c=34 then (if 4096 < out.length then (0,[],5) else (i+1,out,0)) else if c.toNat < 32\/126 < c.toNat then (i,[],14) else if c=92 then (if (10:UInt8)=34\/(10:UInt8)=92 then J3 t (i+2) (out++[10]) else (i,[],14)) else J3 (10::t) (i+1) (out++[c]):=rfl
   rw[e] at h ⊢;rw[e2];subst hn;by_cases h1:c=10
   ·rw[if_pos h1] at h;exact absurd h (by show ¬ ((4:Int)=0);decide)
   ·rw[if_neg h1] at h ⊢;rw[if_neg h1];by_cases h2:c=34
    ·rw[if_pos h2] at h ⊢;rw[if_pos h2];by_cases h3:4096 < out.length
     ·rw[if_pos h3] at h;exact absurd h (by show ¬ ((5:Int)=0);decide)
     ·rw[if_neg h3];exact⟨rfl,j8 _⟩
    ·rw[if_neg h2] at h;split at h
     ·exact absurd h (by show ¬ ((14:Int)=0);decide)
     ·split at h
      ·exact absurd h (by show ¬ ((14:Int)=0);decide)
      ·exact absurd h (by show ¬ ((4:Int)=0);decide)
  | c::e::r,hn=>
   have e1 :∀r':d8,J3 (c::e::r') i out=if c=10 then (0,[],4) else if c=34 then (if 4096 < out.length then (0,[],5) else (i+1,out,0)) else if c.toNat < 32\/126 < c.toNat then (i,[],14) else if c=92 then (if e=34\/e=92 then J3 r' (i+2) (out++[e]) else (i,[],14)) else J3 (e::r') (i+1) (out++[c]):=λ_=>rfl
   have e2:(c::e::r)++10::t=c::e::(r++10::t):=rfl;rw[e2,e1,e1];rw[e1] at h;subst hn;by_cases h1:c=10
   ·rw[if_pos h1] at h;exact absurd h (by show ¬ ((4:Int)=0);decide)
   ·rw[if_neg h1] at h ⊢;rw[if_neg h1];by_cases h2:c=34
    ·rw[if_pos h2] at h ⊢;rw[if_pos h2];by_cases h3:4096 < out.length
     ·rw[if_pos h3] at h;exact absurd h (by show ¬ ((5:Int)=0);decide)
     ·rw[if_neg h3];exact⟨rfl,by show i+1<=i+(r.length+1+1);omega⟩
    ·rw[if_neg h2] at h ⊢;rw[if_neg h2];by_cases h3:c.toNat < 32\/126 < c.toNat
     ·rw[if_pos h3] at h;exact absurd h (by show ¬ ((14:Int)=0);decide)
     ·rw[if_neg h3] at h ⊢;rw[if_neg h3];by_cases h4:c=92
      ·rw[if_pos h4] at h ⊢;rw[if_pos h4];by_cases h5:e=34\/e=92
       ·rw[if_pos h5] at h ⊢;rw[if_pos h5];obtain⟨g1,g2⟩:=ih r.length (by simp only[d7];omega) r rfl (i+2) (out++[e]) h;exact⟨g1,by simp only[d7];omega⟩
       ·rw[if_neg h5] at h;exact absurd h (by show ¬ ((14:Int)=0);decide)
      ·rw[if_neg h4] at h ⊢;rw[if_neg h4];obtain⟨g1,g2⟩:=ih (e::r).length (by simp only[d7];omega) (e::r) rfl (i+1) (out++[c]) h;exact⟨g1,by simp only[d7] at g2 ⊢;omega⟩
theorem Bq (s:d8):(N0 s).1<=s.length:=by
 unfold N0;dsimp only;have h1:=iK k9 s;have h2:=iK k9 (s.drop (s9 k9 s+1));rw[j9] at h2;split
 ·rename_i h;obtain⟨_,h3,_⟩:=h;dsimp only;omega
 ·exact h1
theorem Br (s t:d8):N0 (s++10::t)=N0 s:=by
 unfold N0;rw[nJ dc];have h1:=iK k9 s;generalize s9 k9 s=k at h1;dsimp only;by_cases hk:k < s.length
 ·have e1:(s++10::t).getD k 0=s.getD k 0:=by
   rw[e8,e8,X3 hk]
  have e2:(s++10::t).drop (k+1)=s.drop (k+1)++10::t:=List.drop_append_of_le_length hk;rw[e1,e2,nJ dc];by_cases hc:s.getD k 0=47/\k < s.length/\0 < s9 k9 (s.drop (k+1))
  ·rw[if_pos hc,if_pos ⟨hc.1,by rw[d6];omega,hc.2.2⟩]
  ·rw[if_neg hc,if_neg λh=>hc ⟨h.1,hk,h.2.2⟩]
 ·have e1:(s++10::t).getD k 0=10:=by
   rw[e8,L8 om,show k - s.length=0 by omega];rfl
  rw[if_neg (λh=>by rw[e1] at h;exact absurd h.1 dc),if_neg (λh=>hk h.2.1)]
theorem Fh {P Q:Prop} [Decidable P] [Decidable Q] (h:P↔Q):(if P then 1 else 0:Nat)=if Q then 1 else 0:=by
 by_cases hp:P
 ·rw[if_pos hp,if_pos (h.1 hp)]
 ·rw[if_neg hp,if_neg λhq=>hp (h.2 hq)]
theorem Ac {s:d8} (h0:0 < s.length) (t:d8):W3 (s++10::t)=W3 s:=by
 match s,h0 with
 | [c],_=>
  have e1:Z4.any (λx=>decide (([c]++10::t).take 2=x))=false:=by
   show Z4.any (λx=>decide ([c,10]=x))=false
   rw[K8];intro x hx h;have h:=of_decide_eq_true h;subst h;simp[Z4] at hx
  have e2:Z4.any (λx=>decide ([c].take 2=x))=false:=by
   show Z4.any (λx=>decide ([c]=x))=false
   rw[K8];intro x hx h;have h:=of_decide_eq_true h;subst h;simp[Z4] at hx
  unfold W3;rw[e1,e2,if_neg ZI,if_neg ZI];exact Fh ⟨λe=>⟨oS _,e.2⟩,λe=>⟨oS _,e.2⟩⟩
 | c::d::r,_=>
  unfold W3;have e1:((c::d::r)++10::t).take 2=(c::d::r).take 2:=rfl;rw[e1];by_cases h2:Z4.any (λx=>decide ((c::d::r).take 2=x))=true
  ·rw[if_pos h2,if_pos h2]
  ·rw[if_neg h2,if_neg h2];exact Fh ⟨λe=>⟨oS _,e.2⟩,λe=>⟨oS _,e.2⟩⟩
theorem Ab {s:d8} (h:W3 s≠0):W3 s<=s.length:=by
 match s with
 | []=>exact absurd rfl h
 | [c]=>
  have e2:Z4.any (λx=>decide ([c].take 2=x))=false:=by
   show Z4.any (λx=>decide ([c]=x))=false
   rw[K8];intro x hx h;have h:=of_decide_eq_true h;subst h;simp[Z4] at hx
  unfold W3;rw[e2];rw[if_neg dc];split
  ·exact j8 _
  ·exact j0 _
 | c::d::r=>
  unfold W3;split
  ·simp only[d7];omega
  ·split
   ·simp only[d7];omega
   ·exact j0 _
theorem ZZ {s:d8} (h0:0 < s.length) (h:(A9 s).2.2.2=0) (t:d8):A9 (s++10::t)=A9 s/\(A9 s).1<=s.length:=by
 match s,h0 with
 | c::r,_=>
  have gd :∀u:d8,(c::u).getD 0 0=c:=λ_=>rfl;have tk :∀n,n<=(c::r).length->((c::r)++10::t).take n=(c::r).take n:=λn hn=>qP hn;have rl:=iK G5 (c::r);have nl:=Bq (c::r);have sa:=Ac (s:=c::r) (Nat.succ_pos _) t;have na:=Br (c::r) t;have ra:=nJ (f:=G5) dc t (c::r);unfold A9 at h ⊢;have e0:((c::r)++10::t).getD 0 0=c:=rfl;rw[e0,gd] at *;rw[sa,na,ra];dsimp only at h ⊢;by_cases c1:c=34
  ·rw[if_pos c1] at h ⊢;rw[if_pos c1];obtain⟨g1,g2⟩:=Ay t r 1 [] h;refine⟨?_,?_⟩
   ·show ((J3 (r++10::t) 1 []).1,(3:Int),(J3 (r++10::t) 1 []).2.1,(J3 (r++10::t) 1 []).2.2)=_
    rw[g1];rfl
   ·show (J3 r 1 []).1<=r.length+1
    omega
  ·rw[if_neg c1] at h ⊢;rw[if_neg c1];by_cases c2:J4 c=true
   ·rw[if_pos c2] at h ⊢;rw[if_pos c2,tk _ rl];refine⟨rfl,?_⟩;split
    ·exact j0 _
    ·exact rl
   ·rw[if_neg c2] at h ⊢;rw[if_neg c2];by_cases c3:k9 c=true
    ·rw[if_pos c3] at h ⊢;rw[if_pos c3,tk _ nl];refine⟨rfl,?_⟩;split
     ·exact j0 _
     ·split
      ·exact nl
      ·exact j0 _
    ·rw[if_neg c3] at h ⊢;rw[if_neg c3];by_cases c4:W3 (c::r)=0
     ·rw[if_pos c4] at h;exact absurd h (by show ¬ ((14:Int)=0);decide)
     ·rw[if_neg c4,if_neg c4];have:=Ab c4;rw[tk _ this];exact⟨rfl,this⟩
theorem Af {s:d8} (h0:0 < s.length) (h:(pY s).2.2=0) (t:d8):pY (s++10::t)=pY s/\(pY s).1<=s.length/\0 < (pY s).1:=by
 match s,h0 with
 | c::r,h0=>
  have ra:=nJ (f:=λc=>!decide (c=10)) dc t (c::r);have rl:=iK (λc=>!decide (c=10)) (c::r);unfold pY at h ⊢;have e0:((c::r)++10::t).getD 0 0=c:=rfl;have e1:(c::r).getD 0 0=c:=rfl;rw[e0,ra];rw[e1] at h ⊢;by_cases c1:c=32\/c=10
  ·rw[if_pos c1,if_pos c1];exact⟨rfl,by show 1<=r.length+1;omega,by show 0 < 1;omega⟩
  ·rw[if_neg c1] at h ⊢;rw[if_neg c1];by_cases c2:c=35
   ·rw[if_pos c2,if_pos c2];refine⟨rfl,rl,?_⟩;show 0 < s9 _ (c::r)
    unfold s9;rw[B6,if_pos (by subst c2;decide)];exact Nat.succ_pos _
   ·rw[if_neg c2] at h ⊢;rw[if_neg c2];obtain⟨g1,g2⟩:=ZZ h0 h t;rw[g1];exact⟨rfl,g2,OW h0 h⟩
theorem FH {s:d8} (h0:0 < s.length) (h:(pY s).2.2=0):(pY s).1<=s.length/\0 < (pY s).1:=(Af h0 h []).2
theorem IM :∀(n f f':Nat) (s:d8) (p:Nat×Nat) (out:List mR),s.length<=n->s.length < f->s.length < f'->cH f s p out=cH f' s p out
 | n,f+1,f'+1,[],p,out,_,_,_=>rfl
 | n+1,f+1,f'+1,c::r,p,out,hn,h1,h2=>by
  rw[FN,FN];by_cases h:(pY (c::r)).2.2=0
  ·obtain⟨g1,g2⟩:=FH (s:=c::r) (Nat.succ_pos _) h;rw[if_neg (λe=>e h),if_neg (λe=>e h)];simp only[d7] at *;exact IM n f f' _ _ _ (by rw[j9,d7];omega) (by rw[j9,d7];omega) (by rw[j9,d7];omega)
  ·rw[if_pos h,if_pos h]
end Go.Proofs.YtpjhmeicbjkcdaaGreatDoor
namespace Go.Proofs.YtpjhmeicbjkcdaaGreatDoor
def xM (s:d8) (k:Nat) (p:Nat×Nat) (out:List mR):List mR×Nat×Nat×Int:=cH (s.length - k+1) (s.drop k) p out
theorem Aq {s:d8} {k f:Nat} (hf:s.length - k < f) (p:Nat×Nat) (out:List mR):cH f (s.drop k) p out=xM s k p out:=
 IM (s.drop k).length f _ (s.drop k) p out (j8 _) (by rw[j9];exact hf) (by rw[j9];omega)
theorem lJ {s:d8} {k:Nat} (hk:k < s.length):s.drop k=s.getD k 0::s.drop (k+1):=by
 rw[q6 hk,e8,i7 hk];rfl
theorem cM (s:d8) (k i:Nat):(s.drop k).getD i 0=s.getD (k+i) 0:=by
 rw[e8,bY,<-e8]
theorem FP {s:d8} {k:Nat} (hk:k < s.length) (p:Nat×Nat) (out:List mR):xM s k p out =
  if (pY (s.drop k)).2.2≠0 then ([],(I6 p ((s.drop k).take (pY (s.drop k)).1)).1,(I6 p ((s.drop k).take (pY (s.drop k)).1)).2,(pY (s.drop k)).2.2)
  else xM s (k+(pY (s.drop k)).1) (I6 p ((s.drop k).take (pY (s.drop k)).1)) (out++Oo p (pY (s.drop k)).2.1):=by
 have h0:0 < (s.drop k).length:=by rw[j9];omega
 have hst:=FH h0;have e:xM s k p out=cH (s.length - k+1) (s.getD k 0::s.drop (k+1)) p out:=by unfold xM;rw[lJ hk]
 rw[e,FN,<-lJ hk];split
 ·rfl
 ·rename_i h
  have:=hst (j3 h);rw[j9] at this;rw[J7];exact Aq om _ _
theorem PA {s:d8} {k:Nat} (hk:s.length<=k) (p:Nat×Nat) (out:List mR):xM s k p out=(out++[(5,[],p.1,p.2)],0,0,0):=by
 unfold xM;rw[bZ hk];cases s.length - k+1 <;> rfl
theorem pD {s:d8} {k:Nat} (hk:k < s.length) (h:s.getD k 0=32\/s.getD k 0=10) (p:Nat×Nat) (out:List mR):xM s k p out=xM s (k+1) (aJ p (s.getD k 0)) out:=by
 have e:pY (s.drop k)=(1,[],0):=by unfold pY;rw[cM,E7,if_pos h]
 rw[FP hk,e,if_neg dc,lJ hk];show xM s (k+1) (aJ p (s.getD k 0)) (out++[])=_
 rw[k8]
theorem Pu {s:d8} {k:Nat} (hk:k < s.length) (h:s.getD k 0=35) (p:Nat×Nat) (out:List mR):xM s k p out=xM s (k+s9 (λc=>!decide (c=10)) (s.drop k)) (I6 p ((s.drop k).take (s9 (λc=>!decide (c=10)) (s.drop k)))) out:=by
 have e:pY (s.drop k)=(s9 (λc=>!decide (c=10)) (s.drop k),[],0):=by unfold pY;rw[cM,E7,if_neg (by rw[h];decide),if_pos h]
 rw[FP hk,e,if_neg (λg=>g rfl)];show xM s _ _ (out++[])=_
 rw[k8]
def IF (c:UInt8):Prop:=c≠32/\c≠10/\c≠35
theorem FO {s:d8} {k:Nat} (hk:k < s.length) (h:IF (s.getD k 0)) (p:Nat×Nat) (out:List mR):xM s k p out =
  if (A9 (s.drop k)).2.2.2≠0 then ([],(I6 p ((s.drop k).take (A9 (s.drop k)).1)).1,(I6 p ((s.drop k).take (A9 (s.drop k)).1)).2,(A9 (s.drop k)).2.2.2)
  else xM s (k+(A9 (s.drop k)).1) (I6 p ((s.drop k).take (A9 (s.drop k)).1)) (out++[((A9 (s.drop k)).2.1,(A9 (s.drop k)).2.2.1,p.1,p.2)]):=by
 have e:pY (s.drop k)=((A9 (s.drop k)).1,[((A9 (s.drop k)).2.1,(A9 (s.drop k)).2.2.1)],(A9 (s.drop k)).2.2.2):=by
  unfold pY;rw[cM,E7,if_neg (λg=>g.elim h.1 h.2.1),if_neg h.2.2]
 rw[FP hk,e];rfl
theorem ZY {s:d8} {k:Nat} (hk:k < s.length) (h:IF (s.getD k 0)) (h0:(A9 (s.drop k)).2.2.2=0):0 < (A9 (s.drop k)).1/\k+(A9 (s.drop k)).1<=s.length:=by
 have e:pY (s.drop k)=((A9 (s.drop k)).1,[((A9 (s.drop k)).2.1,(A9 (s.drop k)).2.2.1)],(A9 (s.drop k)).2.2.2):=by
  unfold pY;rw[cM,E7,if_neg (λg=>g.elim h.1 h.2.1),if_neg h.2.2]
 have:=FH (s:=s.drop k) (by rw[j9];omega) (by rw[e];exact h0);rw[e,j9] at this;exact⟨this.2,by have:=this.1;omega⟩
theorem IN {s:d8} (h:s.length<=65536):dG s=xM s 0 (1,1) []:=by
 unfold dG xM;rw[if_neg om];rfl
def sR (s:d8):Nat:=if J4 (s.getD 0 0)=true then s9 G5 s else 0
def PO (s:d8):Nat×Nat:=if s9 k9 s=0 then (0,0) else N0 s
theorem Bx {c:UInt8} (h:J4 c=true):G5 c=true:=by unfold G5;rw[h];rfl
theorem tM (f:UInt8->Bool) (l:d8):0 < s9 f l↔0 < l.length/\f (l.getD 0 0)=true:=by
 cases l with
 | nil=>unfold s9;simp
 | cons c l=>
  unfold s9;rw[B6];by_cases h:f c=true
  ·rw[if_pos h];simp[h]
  ·rw[if_neg h];simp[h]
theorem RI {s:d8} (h0:0 < s.length) (hq:s.getD 0 0≠34):A9 s =
  if 0 < sR s then (if 40 < sR s then (0,1,[],5) else (sR s,1,s.take (sR s),0))
  else if 0 < (PO s).1 then (if 400 < (PO s).1 then (0,2,[],5) else if V8 (s.take (PO s).1) (PO s).2 then ((PO s).1,2,s.take (PO s).1,0) else (0,2,[],3))
  else if W3 s=0 then (0,4,[],14) else (W3 s,4,s.take (W3 s),0):=by
 have e:A9 s=if s.getD 0 0=34 then ((J3 (s.drop 1) 1 []).1,3,(J3 (s.drop 1) 1 []).2.1,(J3 (s.drop 1) 1 []).2.2)
  else if J4 (s.getD 0 0) then (if 40 < s9 G5 s then (0,1,[],5) else (s9 G5 s,1,s.take (s9 G5 s),0))
  else if k9 (s.getD 0 0) then (if 400 < (N0 s).1 then (0,2,[],5) else if V8 (s.take (N0 s).1) (N0 s).2 then ((N0 s).1,2,s.take (N0 s).1,0) else (0,2,[],3))
  else if W3 s=0 then (0,4,[],14) else (W3 s,4,s.take (W3 s),0):=rfl
 rw[e,if_neg hq];by_cases h1:J4 (s.getD 0 0)=true
 ·have hw:sR s=s9 G5 s:=by unfold sR;rw[if_pos h1]
  have hp:=(tM G5 s).2 ⟨h0,Bx h1⟩;rw[if_pos h1,hw,if_pos hp]
 ·have hw:sR s=0:=by unfold sR;rw[if_neg h1]
  rw[if_neg h1,hw,if_neg (pX 0)];by_cases h2:k9 (s.getD 0 0)=true
  ·have hp:=(tM k9 s).2 ⟨h0,h2⟩;have hn:PO s=N0 s:=by unfold PO;rw[if_neg om]
   have hnp:0 < (N0 s).1:=by
    unfold N0;dsimp only;split
    ·show 0 < s9 k9 s+1+_;omega
    ·exact hp
   rw[if_pos h2,hn,if_pos hnp]
  ·have hp:s9 k9 s=0:=by
    have:=tM k9 s;rcases u9 (s9 k9 s) with g | g
    ·exact g
    ·exact absurd (this.1 g).2 h2
   have hn:PO s=(0,0):=by unfold PO;rw[if_pos hp]
   rw[if_neg h2,hn,if_neg (pX 0)]
theorem oY {s:d8} (hq:s.getD 0 0=34):A9 s=((J3 (s.drop 1) 1 []).1,3,(J3 (s.drop 1) 1 []).2.1,(J3 (s.drop 1) 1 []).2.2):=by
 have e:A9 s=if s.getD 0 0=34 then ((J3 (s.drop 1) 1 []).1,3,(J3 (s.drop 1) 1 []).2.1,(J3 (s.drop 1) 1 []).2.2) else _:=rfl
 rw[e,if_pos hq]
end Go.Proofs.YtpjhmeicbjkcdaaGreatDoor
