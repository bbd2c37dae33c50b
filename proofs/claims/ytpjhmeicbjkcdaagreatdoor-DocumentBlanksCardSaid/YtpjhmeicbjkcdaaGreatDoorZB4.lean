/- Parts of one proof, joined. No condition of its own. -/
import Derived.Test.YtpjhmeicbjkcdaaGreatDoorZB3
open Bool renaming and_eq_true->j4,true_and->D9,or_eq_false_iff->O9,or_eq_true->Q3,and_true->CD,not_eq_true'->yW
open Classical renaming byContradiction->j3,not_not->B9
open Int renaming mul_ediv_cancel_left->Pm,eq_ofNat_of_zero_le->S8
open List renaming any_eq_false->K8,append_assoc->f8,flatMap_cons->u7,getD_eq_getElem?_getD->e8,getElem?_eq_getElem->i7,map_congr_left->aG,map_map->En,mem_cons->p9,mem_iff_getElem->qQ,mem_map->y7,append_nil->k8,getElem_mem->j5,length->H4,length_append->d6,length_cons->d7,length_map->j6,length_nil->i6,length_take->j1,map_append->E1,mem_append->y8,take_append_drop->F8,take_length->q8,ext_getElem?->O0,getElem?_eq_some_iff->p6,getElem?_map->E2,getElem?_set->N9,length_set->M3,nil_append->I4,mem_cons_self->wF,length_replicate->O1,replicate->m6,replicate_succ->sM,set_append_right->LP,any_cons->UX,map_cons->M2,any_eq_true->E5,flatMap_def->oU,not_mem_nil->G4,getElem_map->aO,mem_take_iff_getElem->Ou,range->x8,length_eq_zero_iff->F7,length_pos_iff->D1,length_singleton->p7,length_range->K7,mem_range->S6,getElem?_range->UN,mem_of_mem_drop->A8,mem_of_mem_take->A7,drop_eq_getElem_cons->q6,drop_length->oW,take_add_one->yU,all_append->sL,all_eq_true->s7,flatten_cons->s6,intercalate->oT
open List.cons renaming inj->E8
open Nat renaming eq_zero_or_pos->u9,le_trans->q9,pos_of_ne_zero->E4,add_assoc->BZ,le_refl->j8,zero_le->j0,add_zero->E7,mul_one->D7,zero_add->w7,lt_of_le_of_lt->p8,zero_lt_succ->E3,add_sub_cancel_left->CY,le_add_right->aN,sub_self->bX,le_of_lt->lU,ble->P9,not_lt_zero->M1,gcd->G8,mod_lt->A6,div_le_self->D0,gcd_dvd_left->CX,gcd_pos_of_pos_right->iD,le_of_dvd->UV,mul_div_cancel_left->Po,lt_of_lt_of_le->J1,pow_pos->qN,pow_succ->K6,add_sub_cancel->wC,lt_irrefl->pX,succ_ne_zero->oS,add_mul->D2,div_add_mod->sJ,mod_eq_of_lt->C7,mul_add->B7,mul_assoc->A0,mul_comm->m8,mul_le_mul_right->y9,pow_add->jR,zero_mul->bV,eq_of_beq_eq_true->I3,le_max_left->X5,le_max_right->U8,le_of_ble_eq_true->D3,le_of_succ_le_succ->D5,max->uW
open Option.some renaming inj->M0
namespace Go.Proofs.YtpjhmeicbjkcdaaGreatDoor
open Go
def aS (r:d8):Prop:=G5 (r.getD 0 0)=false/\k9 (r.getD 0 0)=false/\r.getD 0 0≠47
theorem aS.sp (X:List R0) (r:d8):aS (U6 (Q1::X)++r):=⟨rfl,rfl,(by decide:(32:UInt8)≠47)⟩
theorem aS.sy {c:UInt8} (hc:c∈([44,41,93,59,58]:d8)) (X:List R0) (r:d8):aS (U6 (kS c::X)++r):=by
 have h :∀c∈([44,41,93,59,58]:d8),G5 c=false/\k9 c=false/\c≠47:=dc
 exact h c hc
theorem mD:Fo [32]:=.inl rfl
theorem Fm:Fo [10]:=.inr rfl
theorem vC {c:UInt8} (hc:c∈([123,125,40,41,91,93,44,59,58,61,43,42,47,64]:d8)) (r:d8):cB (4,[c]) r:=by
 refine .sym ?_ ?_
 ·have :∀c∈([123,125,40,41,91,93,44,59,58,61,43,42,47,64]:d8),c∈CK:=dc
  exact this c hc
 ·intro h;have :∀y∈Z4,y.getD 0 0=46\/y.getD 0 0=60\/y.getD 0 0=62\/y.getD 0 0=45:=dc
  have h2:=this _ h;have h3 :∀c∈([123,125,40,41,91,93,44,59,58,61,43,42,47,64]:d8),¬ (c=46\/c=60\/c=62\/c=45):=dc
  exact h3 c hc h2
theorem Of {r:d8} (h:r.getD 0 0≠62):cB (4,[45]) r:=by
 refine .sym dc λg=>h ?_;have :∀y∈Z4,y.getD 0 0=45->y.getD 1 0=62:=dc
 exact this _ g rfl
def OR (w:d8):Bool:=decide (0 < w.length) && (J4 (w.getD 0 0) && (w.all G5 && decide (w.length<=40)))
theorem xW {w:d8} (hw:OR w=true) {r:d8} (hr:aS r):cB (1,w) r:=by
 unfold OR at hw;rw[j4,j4,j4,decide_eq_true_eq,decide_eq_true_eq] at hw;exact .word hw.1 hw.2.1 hw.2.2.1 hw.2.2.2 hr.1
theorem SO {s:d8} (h:D8 s=true) :∀c∈s,c≠32:=by
 unfold D8 at h;rw[j4,j4] at h;intro c hc e;have h3:s.any yC=false:=by simpa using h.2.2
 have:=K8.1 h3 c hc;rw[e] at this;exact this dc
theorem Er {s:d8} (h:D8 s=true) {r:d8} (hr:aS r):cB (rJ s) r:=by
 obtain⟨hg,hl,h0⟩:=V1 h;unfold rJ;by_cases hw:yY s=true
 ·rw[if_pos hw];unfold yY at hw;rw[j4,j4,j4] at hw;exact .word h0 hw.2.2.1 hw.2.2.2 hl hr.1
 ·rw[if_neg hw];exact .str r hg (SO h) om
theorem QP {n:Nat} (h:n < 10 ^ 200) :∃k,CW (Lib.decDigits n) k/\V8 (Lib.decDigits n) k=true:=by
 obtain⟨h1,h2,h3,h4,h5⟩:=bS n;refine⟨_,⟨q9 (h5 200 dc h) dc,_,[],h1,h3,rfl,.inl rfl⟩,?_⟩;unfold V8 aM;rw[if_pos rfl,decide_eq_true h3,D9];rcases u9 n with rfl | hn
 ·rw[Lib.decDigits_one dc];decide
 ·rw[decide_eq_false (h4 hn)];simp
theorem Ft {t r:d8} (h :∃k,CW t k/\V8 t k=true) (hr:aS r):cB (2,t) r:=by
 obtain⟨k,h1,h2⟩:=h;exact .num h1 h2 hr.2.1 hr.2.2
theorem jW {t:d8} (h :∃k,CW t k/\V8 t k=true):0 < t.length/\k9 (t.getD 0 0)=true:=by
 obtain⟨k,h1,_⟩:=h;exact h1.first
theorem Le {sg:Bool} {t r:d8} (h :∃k,CW t k/\V8 t k=true) (hr:aS r):Z1 (if sg=true then [kS 45,kN t] else [kN t]) r:=by
 have hx:=Ft h hr;obtain⟨h0,hd⟩:=jW h;cases sg with
 | false=>exact⟨hx,trivial⟩
 | true=>
  refine⟨Of ?_,hx,trivial⟩;rw[B0,NP,f8,gS h0];exact (kJ hd).2.2.2.2.2
theorem LI {z:Int} {r:d8} (hz:z.natAbs < 10 ^ 200) (hr:aS r):Z1 (zI z) r:=by
 have:=Le (sg:=decide (z < 0)) (QP hz) hr;unfold zI;simpa using this
theorem HK.at {x:d8} {sg:Bool} {t:d8} (h:HK x sg t):nI x=if sg=true then [kS 45,kN t] else [kN t]:=by
 obtain⟨h0,hd⟩:=jW h.d;have e:=h.e;unfold nI;cases sg with
 | false=>
  have e:x=t:=e;rw[e,if_neg (iR hd).1];rfl
 | true=>
  have e:x=45::t:=e;rw[e];rfl
theorem EQ {x r:d8} (h:H5 x=0) (hr:aS r):Z1 (nI x) r:=by
 obtain⟨sg,t,hs⟩:=pH h;rw[hs.at];exact Le hs.d hr
theorem QY {L:List (List R0)} {r:d8} (h :∀x∈L,∀r,aS r->Z1 x r) (hr:aS r):Z1 (gW L) r:=by
 induction L with
 | nil=>exact trivial
 | cons x L ih=>
  cases L with
  | nil=>exact h x sQ r hr
  | cons y L=>
   exact Z1.app (h x sQ _ (aS.sy dc _ _)) ⟨vC dc _,mD,ih λz hz=>h z (by simp[hz])⟩
theorem LJ {l:List Int} {r:d8} (h :∀z∈l,z.natAbs < 10 ^ 200):Z1 (uD l) r:=by
 refine⟨vC dc _,Z1.app (QY (λx hx=>?_) (aS.sy dc _ _)) ⟨vC dc _,trivial⟩⟩;obtain⟨z,hz,rfl⟩:=y7.1 hx;exact λr hr=>LI (h z hz) hr
theorem Ea {nm:Int->KT} {t:OF} {r:d8} (hn :∀r,aS r->cB (nm t.1) r) (h:H5 t.2=0) (hr:aS r):Z1 (zM nm t) r:=by
 obtain⟨sg,x,hs⟩:=pH h;have e:=hs.e;obtain⟨h0,hd⟩:=jW hs.d;have hl:Z1 [Q1,kN x,Q1,kS 42,Q1,.inl (nm t.1)] r:=⟨mD,Ft hs.d (aS.sp _ _),mD,vC dc _,mD,hn _ hr,trivial⟩
 unfold zM;cases sg with
 | false=>
  have e:t.2=x:=e;rw[e,if_neg (iR hd).1,if_neg (iR hd).1];exact⟨mD,vC dc _,hl⟩
 | true=>
  have e:t.2=45::x:=e;rw[e];exact⟨mD,Of (by rw[B0];exact (by decide:(32:UInt8)≠62)),hl⟩
theorem dX {α:Type} {g:α->List R0} {r:d8} :∀{L:List α},(∀x∈L,∀r,Z1 (g x) r)->Z1 (L.flatMap g) r
 | [],_=>trivial
 | x::L,h=>by
  rw[u7];exact Z1.app (h x sQ _) (dX λz hz=>h z (by simp[hz]))
theorem ER {α:Type} {g:α->List R0} {r:d8} (hr:aS r) :∀{L:List α},(∀x∈L,∀r,aS r->Z1 (g x) r)->(∀x∈L,∀r,aS (U6 (g x)++r))->Z1 (L.flatMap g) r
 | [],_,_=>trivial
 | x::L,h,h2=>by
  rw[u7];refine Z1.app (h x sQ _ ?_) (ER hr (λz hz=>h z (by simp[hz])) λz hz=>h2 z (by simp[hz]));cases L with
  | nil=>exact hr
  | cons y L=>rw[u7,M7,f8];exact h2 y sQ _
theorem QW {nm:Int->KT} {f:uZ} {r:d8} (h0:H5 f.1=0) (hn :∀t∈f.2,∀r,aS r->cB (nm t.1) r) (h :∀t∈f.2,H5 t.2=0):Z1 (uG nm f) r:=by
 refine⟨vC dc _,Z1.app (EQ h0 ?_) (Z1.app (ER (aS.sy dc _ _) (λt ht r hr=>Ea (hn t ht) (h t ht) hr) λt _ r=>aS.sp _ r) ⟨vC dc _,trivial⟩)⟩;cases hf:f.2 with
 | nil=>exact aS.sy dc _ _
 | cons t L=>exact aS.sp _ _
def UY (n:Int):Nat->Ex->Prop
 | 0,_=>False
 | d+1,.mk op f fac args=>jC n op f fac args.length=0/\∀y∈args,UY n d y
theorem QL {n:Int} {d:Nat} (h :∀y k,(M5 n d k y).1=0->UY n d y) :∀(L:List Ex) (k:Nat),(W5 (M5 n d) k L).1=0->∀y∈L,UY n d y
 | [],_,_=>λy hy=>by cases hy
 | x::L,k,he=>by
  unfold W5 at he;by_cases h0:(M5 n d k x).1≠0
  ·rw[if_pos h0] at he;exact absurd he h0
  ·rw[if_neg h0] at he;intro y hy;rcases p9.1 hy with rfl | hy
   ·exact h y k (B9.1 h0)
   ·exact QL h L _ he y hy
theorem uH {n:Int} :∀(d k:Nat) (x:Ex),(M5 n d k x).1=0->UY n d x
 | 0,k,x,h=>by
  unfold M5 at h;exact absurd h (show ¬ (15:Int)=0 by decide)
 | d+1,k,.mk op f fac args,h=>by
  unfold M5 at h;split at h
  ·exact absurd h (show ¬ (6:Int)=0 by decide)
  ·split at h
   ·rename_i h2;exact absurd h h2
   ·rename_i h2
    exact⟨B9.1 h2,QL (λy k hy=>uH d k y hy) args _ h⟩
structure mT (n:Int) (f:uZ):Prop where
 c:H5 f.1=0
 l:f.2.length<=64
 t :∀i,i < f.2.length->zN n f.2 i=0
theorem KK {n:Int} {f:uZ} (h:oE n f=0):mT n f:=by
 unfold oE at h;split at h
 ·rename_i h2;exact absurd h h2
 ·rename_i h1
  split at h
  ·exact absurd h dc
  ·rename_i h2
   exact⟨B9.1 h1,om,Y4.1 h⟩
theorem VE {l:List OF} {i:Nat} (h:i < l.length):l.getD i (0,[])=l[i]:=by rw[e8,i7 h];rfl
theorem mT.at {n:Int} {f:uZ} (g:mT n f) {i:Nat} (hi:i < f.2.length):0<=f.2[i].1/\f.2[i].1 < n/\H5 f.2[i].2=0/\f.2[i].2≠[48]/\(0 < i->(f.2.getD (i - 1) (0,[])).1 < f.2[i].1):=by
 have h:=g.t i hi;unfold zN at h;dsimp only at h;rw[VE hi] at h;split at h
 ·exact absurd h dc
 ·rename_i h1
  split at h
  ·exact absurd h dc
  ·rename_i h2
   split at h
   ·rename_i h3;exact absurd h h3
   ·rename_i h3
    split at h
    ·exact absurd h dc
    ·rename_i h4
     exact⟨om,om,B9.1 h3,h4,λh0=>by omega⟩
theorem mT.all {n:Int} {f:uZ} (g:mT n f) :∀t∈f.2,(0<=t.1/\t.1 < n)/\H5 t.2=0:=by
 intro t ht;obtain⟨i,hi,rfl⟩:=qQ.1 ht;obtain⟨h1,h2,h3,_⟩:=g.at hi;exact⟨⟨h1,h2⟩,h3⟩
theorem nS {n:Int} {f:uZ} {fac:d8} {args:List Ex} (h:jC n 0 f fac args.length=0):mT n f/\fac = []/\args = []:=by
 unfold jC at h;rw[if_neg dc,if_pos rfl] at h;split at h
 ·exact absurd h dc
 ·rename_i h1
  refine⟨KK h,j3 λc=>h1 (.inr c),?_⟩;cases args with
  | nil=>rfl
  | cons x l=>exact absurd (.inl sQ) h1
theorem AM {n op:Int} {f:uZ} {fac:d8} {args:List Ex} (h0:op≠0) (h:jC n op f fac args.length=0):(1<=op/\op<=5)/\f=([],[])/\(op≠2->fac = [])/\(op=2->H5 fac=0)/\0 < args.length/\((op=2\/op=5)->args.length=1):=by
 unfold jC at h;rw[if_neg h0] at h;split at h
 ·exact absurd h dc
 ·rename_i h1
  split at h
  ·exact absurd h dc
  ·rename_i h2
   split at h
   ·exact absurd h dc
   ·rename_i h3
    have hf1:f.1 = []:=j3 λc=>h2 (.inl (.inl c));have hf2:f.2 = []:=by
     cases hh:f.2 with
     | nil=>rfl
     | cons x l=>exact absurd (.inl (.inr (by rw[hh];simp))) h2
    refine⟨om,by rw[<-hf1,<-hf2],λh5=>j3 λc=>h2 (.inr ⟨c,h5⟩),λh5=>?_,?_,λh5=>?_⟩
    ·rw[if_pos h5] at h;exact h
    ·exact E4 λc=>h3 (.inl c)
    ·have hp:args.length≠0:=λc=>h3 (.inl c);have : ¬ 1 < args.length:=λc=>h3 (.inr ⟨h5,c⟩);omega
theorem tW {op:Int} (h:1<=op/\op<=5):OR (jQ op)=true/\JG (jQ op)=some op:=by
 have:op=1\/op=2\/op=3\/op=4\/op=5:=om
 rcases this with rfl | rfl | rfl | rfl | rfl <;> exact⟨dc,dc⟩
theorem QX {n:Int} {nm:Int->KT} (hn :∀i,0<=i->i < n->∀r,aS r->cB (nm i) r) :∀(d:Nat) (x:Ex) (r:d8),UY n d x->Z1 (kG nm d x) r
 | 0,_,_,h=>h.elim
 | d+1,.mk op f fac args,r,h=>by
  obtain⟨h1,h2⟩:=h;by_cases h0:op=0
  ·subst h0;obtain⟨g,_,_⟩:=nS h1;show Z1 (if (0:Int)=0 then uG nm f else _) r
   rw[if_pos rfl];exact QW g.c (λt ht=>hn t.1 (g.all t ht).1.1 (g.all t ht).1.2) λt ht=>(g.all t ht).2
  ·obtain⟨ho,_,_,hf,_⟩:=AM h0 h1;show Z1 (if op=0 then uG nm f else _) r
   rw[if_neg h0];have hargs:Z1 (kS 40::(gW (args.map (kG nm d))++[kS 41])) r:=by
    refine⟨vC dc _,Z1.app (QY (λx hx=>?_) (aS.sy dc _ _)) ⟨vC dc _,trivial⟩⟩;obtain⟨y,hy,rfl⟩:=y7.1 hx;exact λr _=>QX hn d y r (h2 y hy)
   by_cases h5:op=2
   ·rw[if_pos h5];exact⟨xW (tW ho).1 (aS.sp _ _),mD,Z1.app (Z1.app (EQ (hf h5) (aS.sp _ _)) ⟨mD,trivial⟩) hargs⟩
   ·rw[if_neg h5];refine⟨xW (tW ho).1 ?_,hargs⟩;exact⟨rfl,rfl,(by decide:(40:UInt8)≠47)⟩
theorem QB {n:Int} {nm:Int->KT} {nt:Int->d8} (hn :∀i,0<=i->i < n->rM (nm i)=nt i) :∀(d:Nat) (x:Ex),UY n d x->U6 (kG nm d x)=H7 nt d x
 | 0,_,h=>h.elim
 | d+1,.mk op f fac args,h=>by
  obtain⟨h1,h2⟩:=h;show U6 (if op=0 then uG nm f else _)=if op=0 then fD nt f else _
  by_cases h0:op=0
  ·subst h0;obtain⟨g,_,_⟩:=nS h1;rw[if_pos rfl,if_pos rfl];exact QA λt ht=>hn t.1 (g.all t ht).1.1 (g.all t ht).1.2
  ·rw[if_neg h0,if_neg h0,B0,xY,M7,B0,rU,M7,GP,B0,rU,W0,En];have e:args.map (U6∘kG nm d)=args.map (H7 nt d):=aG λy hy=>QB hn d y (h2 y hy);rw[e];by_cases h5:op=2
   ·rw[if_pos h5,if_pos h5,B0,M7,PZ,B0,W0,GT];rfl
   ·rw[if_neg h5,if_neg h5];rfl
end Go.Proofs.YtpjhmeicbjkcdaaGreatDoor
namespace Go.Proofs.YtpjhmeicbjkcdaaGreatDoor
open Go Go.RowKit Go.Dw
def Ke (z:Int):ByteArray×Value:=(bs (jQ z),iQ z)
def mX:List Int:=[1,2,3,4,5]
set_option maxRecDepth 10000 in
theorem yZ (w:World):j2 Tryz.prog 135 #[] w (fQ w λv cs=>∃b h,v=.map (some b)/\cs = [.hp h]/\ES h b (mX.map Ke)):=by
 refine enterZ (cx 3) [] [.tmp 0] Tryz.func135 ?_;refine Mq λb h0 hM0=>?_;refine IC (i:=1) Tryz.underlying203 Tryz.underlying9 rfl hM0 _ _ rfl λh1 hM1=>?_;refine IC (i:=1) Tryz.underlying203 Tryz.underlying9 rfl hM1 _ _ (by decide +kernel) λh2 hM2=>?_;refine IC (i:=1) Tryz.underlying203 Tryz.underlying9 rfl hM2 _ _ (by decide +kernel) λh3 hM3=>?_;refine IC (i:=1) Tryz.underlying203 Tryz.underlying9 rfl hM3 _ _ (by decide +kernel) λh4 hM4=>?_;refine IC (i:=1) Tryz.underlying203 Tryz.underlying9 rfl hM4 _ _ (by decide +kernel) λh5 hM5=>?_;exact⟨[.hp h5],⟨b,h5,rfl,rfl,hM5⟩,pk [0,1]⟩
theorem kK (x:d8) :∀(L:List d8),T5 (L++[x])=if L = [] then x else T5 L++(44::32::x)
 | []=>rfl
 | [y]=>rfl
 | y::z::L=>by
  have ih:=kK x (z::L);rw[if_neg sQ] at ih;rw[if_neg sQ];show y++44::32::T5 ((z::L)++[x])=(y++44::32::T5 (z::L))++_
  rw[ih,f8];rfl
theorem BK :∀(A B:List d8),(T5 A).length<=(T5 (A++B)).length
 | [],_=>j0 _
 | [x],[]=>j8 _
 | [x],y::B=>by
  show x.length<=(x++44::32::T5 (y::B)).length
  rw[d6];omega
 | x::y::A,B=>by
  have:=BK (y::A) B;show (x++44::32::T5 (y::A)).length<=(x++44::32::T5 ((y::A)++B)).length
  simp only[d6,d7];omega
set_option maxRecDepth 10000 in
set_option maxHeartbeats 2000000 in
theorem EG {b:Nat} {ad:Option Addr} {nd cd:Nat} {D:List O7} (hdn :∀d∈D,d.1.length < 1000000) :∀(d e:Nat) (h:Hp) (t:d8) (x:Ex) (cs:List Value) (w:World),h.In w->mS h b (.slice ad nd cd) t->UY D.length d x->RA x->bE e ((Hp.whole w).minus h) x cs->Sl (E0 P2) 4 ((Hp.whole w).minus h) ad nd cd D->t.length+(H7 (H3 D) d x).length < 1000000000->
  j2 Tryz.prog 61 #[pQ b,.agg cs.toArray] w (O3 w h λ_ h' cs=>cs = []/\mS h' b (.slice ad nd cd) (t++H7 (H3 D) d x)):=by
 intro d;induction d with
 | zero=>intro e h t x cs w _ _ hg;exact hg.elim
 | succ d ih=>
  intro e h t x cs w hin hI hg hx he hD hlen;match e,he with
  | e+1,he=>
  obtain⟨op,f,fac,args⟩:=x;obtain⟨a,n,c,a1,n1,c1,rfl,hf,ha⟩:=he;cases hx with
  | mk hxf hxs hxn hxa=>
  obtain⟨hnode,hall⟩:=hg;have hla:=ha.len;refine enterMZ (cx 61) [pQ b,.agg #[iQ op,sv f.1,.slice a n c,sv fac,.slice a1 n1 c1]] hin [] Tryz.func61 ?_;obtain⟨c0,hc0⟩ :∃c0,c0=(Hp.whole w).minus h:=⟨_,rfl⟩
  rw[<-hc0] at hf ha hD ⊢;intro b3;refine d9 (λh1=>?_) λh1=>?_
  ·subst h1;obtain⟨g,_,_⟩:=nS hnode;have e1:H7 (H3 D) (d+1) (.mk 0 f fac args)=fD (H3 D) f:=if_pos rfl;rw[e1] at hlen ⊢;refine k6 (i:=1) rfl (λw0 w1 hok=>EE (fc:=f.1) (L:=f.2) w1 (hok.mem 1 _ rfl) hI (hf.mono (j7 _) (Hp.le_minus (hok.mem 0 _ rfl).whole (hok.disj 0 1 _ _ dc rfl rfl))) (hD.mono (j7 _) (Hp.le_minus (hok.mem 0 _ rfl).whole (hok.disj 0 1 _ _ dc rfl rfl)))
    (by have:=g.l;omega) hdn (λt ht=>(g.all t ht).1) hlen) ?_
   rintro _ h2 _ ⟨rfl,hI2⟩;exact⟨h2,[],⟨rfl,hI2⟩,pk [0,1]⟩
  obtain⟨ho,_,hfa,_,_,_⟩:=AM h1 hnode;have hxp:H7 (H3 D) (d+1) (.mk op f fac args)=jQ op++((if op=2 then 32::(fac++[32]) else [])++(40::(T5 (args.map (H7 (H3 D) d))++[41]))):=if_neg h1;rw[hxp] at hlen ⊢;simp only[d6,d7,i6] at hlen;refine call (λw' hm=>yZ w') ?_;rintro _ _ ⟨bm,hm0,rfl,rfl,hM⟩;refine Jr (i:=3) Tryz.underlying203 rfl hM λr kk hIt=>?_;have hmem:op∈mX:=by
   have:op=1\/op=2\/op=3\/op=4\/op=5:=om
   rcases this with rfl | rfl | rfl | rfl | rfl <;> decide
  refine z6.mk (List Int×Hp×Hp×Option (ByteArray×Value)) (λg=>[(0,.v (pQ b)),(3,.bx 2 0),(16,.v (pQ r))]) (λg=>[.hp c0,.hp g.2.1,.box b3 [iQ op,sv f.1,.slice a n c,sv fac,.slice a1 n1 c1] 44,.hp hm0,.hp g.2.2.1])
   (λg=>Lj hm0 g.2.2.1 r bm (g.1.map Ke) g.2.2.2/\g.1.Sublist mX/\mS g.2.1 b (.slice ad nd cd) (t++if op∈g.1 then [] else jQ op)) (λg=>g.1.length) (mX,h,kk,none) ⟨hIt,List.Sublist.refl _,by rw[if_pos hmem,k8];exact hI⟩ (y6.mk (pj [0,1,2,3,4]) rfl rfl) ?_
  rintro⟨L,h,hi,cur⟩ ⟨hIt,hsub,hI⟩;dsimp only at hIt hsub hI ⊢;refine Hh (i:=3) (j:=4) rfl rfl hIt (λh0=>?_) λl1 k v l2 hi' hsp hIt'=>?_
  ·have hL:L = []:=List.map_eq_nil_iff.1 h0;subst hL;rw[if_neg sQ] at hI;refine d9 (λh2=>?_) λh2=>?_
   ·rw[if_pos h2] at hlen;simp only[d6,d7,i6] at hlen;intro b36;refine aI (i:=1) (j:=5) dc rfl hI (L:=[[32],fac,[32]]) rfl rfl sQ (by simp;omega) λv h hI=>?_;obtain⟨t2,ht2⟩ :∃t2,t2=t++(jQ op++(if op=2 then 32::(fac++[32]) else [])):=⟨_,rfl⟩
    have e2:t++jQ op++[[32],fac,[32]].flatten=t2:=by rw[ht2,if_pos h2];simp
    have hl2:t2.length=t.length+((jQ op).length+(fac.length+2)):=by rw[<-e2];simp[BZ]
    rw[e2] at hI;intro b39;refine aI (i:=1) (j:=6) dc rfl hI (L:=[[40]]) rfl rfl sQ (by have e1:([[40]]:List d8).flatten.length=1:=rfl;omega) λv h3 hI3=>?_;refine z6.mk (Nat×Hp) (λg=>[(0,.v (pQ b)),(42,.v (.slice a1 n1 c1)),(43,.v (iQ n1)),(44,.v (iQ g.1))]) (λg=>[.hp c0,.hp g.2])
     (λg=>g.1<=n1/\mS g.2 b (.slice ad nd cd) (t2++40::T5 ((args.take g.1).map (H7 (H3 D) d)))) (λg=>n1 - g.1) (0,h3) ⟨j0 _,hI3⟩ (y6.mk (pj [0,1]) rfl rfl) ?_
    rintro⟨k,h3⟩ ⟨hk,hI3⟩;dsimp only at hk hI3 ⊢;refine d9 (λg1=>?_) λg1=>?_
    ·have hkl:k < args.length:=om
     obtain⟨y,hy⟩ :∃y,y=args[k]:=⟨_,rfl⟩
     have hym:y∈args:=by rw[hy];exact j5 hkl
     have htk:(args.take (k+1)).map (H7 (H3 D) d)=(args.take k).map (H7 (H3 D) d)++[H7 (H3 D) d y]:=by rw[I9 args k hkl,E1,<-hy];rfl
     have hcl:=BK ((args.take (k+1)).map (H7 (H3 D) d)) ((args.drop (k+1)).map (H7 (H3 D) d));rw[<-E1,F8] at hcl;rw[htk,kK] at hcl;refine R2 cQ (e:=44) rfl ha k rfl hkl λb9 o9 cs hcs hR hcell=>?_;rw[<-hy] at hR;match e,hR with
     | e+1,hR=>
     obtain⟨op',f',fac',args'⟩:=y;have hR':=hR;obtain⟨a',n',c',a1',n1',c1',rfl,hf',ha'⟩:=hR;refine nX cQ (i:=0) rfl hcell rfl ?_;intro b7;refine d9 (λg3=>?_) λg3=>?_
     ·intro b52;have hne:(args.take k).map (H7 (H3 D) d)≠[]:=by
       intro c;have:=congrArg H4 c;rw[j6,j1,i6] at this;omega
      rw[if_neg hne,d6,d7,d7] at hcl;refine aI (i:=1) (j:=3) dc rfl hI3 (L:=[[44,32]]) rfl rfl sQ (by have e1:([[44,32]]:List d8).flatten.length=2:=rfl;rw[d6,d7];omega) λv h4 hI4=>?_;refine k6 (i:=1) rfl (λw0 w1 hok=>ih (e+1) h4 _ _ _ w1 (hok.mem 1 _ rfl) hI4 (hall _ hym) (hxa _ hym) (D6 _ _ _ _ _ (Hp.le_minus (hok.mem 0 _ rfl).whole (hok.disj 0 1 _ _ dc rfl rfl)) hR') (hD.mono (j7 _) (Hp.le_minus (hok.mem 0 _ rfl).whole (hok.disj 0 1 _ _ dc rfl rfl)))
       (by have e1:([[44,32]]:List d8).flatten.length=2:=rfl;rw[d6,d6,d7];omega)) ?_
      rintro _ h5 _ ⟨rfl,hI5⟩;refine nwo ?_;refine⟨(k+1,h5),⟨by dsimp only;omega,?_⟩,by dsimp only;omega,y6.mk (pj [0,1]) rfl rfl⟩;dsimp only;rw[htk,kK,if_neg hne];have e1:t2++40::(T5 ((args.take k).map (H7 (H3 D) d))++44::32::H7 (H3 D) d (.mk op' f' fac' args'))=t2++40::T5 ((args.take k).map (H7 (H3 D) d))++([[44,32]]:List d8).flatten++H7 (H3 D) d (.mk op' f' fac' args'):=sQ
      rw[e1];exact hI5
     ·have hk0:k=0:=om
      subst hk0;refine k6 (i:=1) rfl (λw0 w1 hok=>ih (e+1) h3 _ _ _ w1 (hok.mem 1 _ rfl) hI3 (hall _ hym) (hxa _ hym) (D6 _ _ _ _ _ (Hp.le_minus (hok.mem 0 _ rfl).whole (hok.disj 0 1 _ _ dc rfl rfl)) hR') (hD.mono (j7 _) (Hp.le_minus (hok.mem 0 _ rfl).whole (hok.disj 0 1 _ _ dc rfl rfl)))
       (by
        have hcl:(H7 (H3 D) d (.mk op' f' fac' args')).length<=_:=hcl;rw[d6];show t2.length+((40::([]:d8)).length)+_ < _
        have e1:(40::([]:d8)).length=1:=rfl;omega)) ?_
      rintro _ h5 _ ⟨rfl,hI5⟩;refine nwo ?_;refine⟨(0+1,h5),⟨by dsimp only;omega,?_⟩,by dsimp only;omega,y6.mk (pj [0,1]) rfl rfl⟩;dsimp only;rw[htk];have e1:t2++40::T5 ((args.take 0).map (H7 (H3 D) d)++[H7 (H3 D) d (.mk op' f' fac' args')])=t2++40::T5 ((args.take 0).map (H7 (H3 D) d))++H7 (H3 D) d (.mk op' f' fac' args'):=by simp[T5]
      rw[e1];exact hI5
    ·have hk2:k=args.length:=om
     subst hk2;rw[q8] at hI3;intro b59;refine aI (i:=1) (j:=2) dc rfl hI3 (L:=[[41]]) rfl rfl sQ (by have e1:([[41]]:List d8).flatten.length=1:=rfl;rw[d6,d7];omega) λv h4 hI4=>?_;refine⟨h4,[],⟨rfl,?_⟩,pk [0,1]⟩;have e1:t++(jQ op++((if op=2 then 32::(fac++[32]) else [])++(40::(T5 (args.map (H7 (H3 D) d))++[41]))))=t2++40::T5 (args.map (H7 (H3 D) d))++([[41]]:List d8).flatten:=by rw[ht2];simp
     rw[e1];exact hI4
   ·rw[if_neg h2] at hlen;simp only[i6] at hlen;obtain⟨t2,ht2⟩ :∃t2,t2=t++(jQ op++(if op=2 then 32::(fac++[32]) else [])):=⟨_,rfl⟩
    have e2:t++jQ op=t2:=by rw[ht2,if_neg h2];simp
    have hl2:t2.length=t.length+(jQ op).length:=by rw[<-e2];simp
    rw[e2] at hI;intro b39;refine aI (i:=1) (j:=5) dc rfl hI (L:=[[40]]) rfl rfl sQ (by have e1:([[40]]:List d8).flatten.length=1:=rfl;omega) λv h3 hI3=>?_;refine z6.mk (Nat×Hp) (λg=>[(0,.v (pQ b)),(42,.v (.slice a1 n1 c1)),(43,.v (iQ n1)),(44,.v (iQ g.1))]) (λg=>[.hp c0,.hp g.2])
     (λg=>g.1<=n1/\mS g.2 b (.slice ad nd cd) (t2++40::T5 ((args.take g.1).map (H7 (H3 D) d)))) (λg=>n1 - g.1) (0,h3) ⟨j0 _,hI3⟩ (y6.mk (pj [0,1]) rfl rfl) ?_
    rintro⟨k,h3⟩ ⟨hk,hI3⟩;dsimp only at hk hI3 ⊢;refine d9 (λg1=>?_) λg1=>?_
    ·have hkl:k < args.length:=om
     obtain⟨y,hy⟩ :∃y,y=args[k]:=⟨_,rfl⟩
     have hym:y∈args:=by rw[hy];exact j5 hkl
     have htk:(args.take (k+1)).map (H7 (H3 D) d)=(args.take k).map (H7 (H3 D) d)++[H7 (H3 D) d y]:=by rw[I9 args k hkl,E1,<-hy];rfl
     have hcl:=BK ((args.take (k+1)).map (H7 (H3 D) d)) ((args.drop (k+1)).map (H7 (H3 D) d));rw[<-E1,F8] at hcl;rw[htk,kK] at hcl;refine R2 cQ (e:=44) rfl ha k rfl hkl λb9 o9 cs hcs hR hcell=>?_;rw[<-hy] at hR;match e,hR with
     | e+1,hR=>
     obtain⟨op',f',fac',args'⟩:=y;have hR':=hR;obtain⟨a',n',c',a1',n1',c1',rfl,hf',ha'⟩:=hR;refine nX cQ (i:=0) rfl hcell rfl ?_;intro b7;refine d9 (λg3=>?_) λg3=>?_
     ·intro b52;have hne:(args.take k).map (H7 (H3 D) d)≠[]:=by
       intro c;have:=congrArg H4 c;rw[j6,j1,i6] at this;omega
      rw[if_neg hne,d6,d7,d7] at hcl;refine aI (i:=1) (j:=3) dc rfl hI3 (L:=[[44,32]]) rfl rfl sQ (by have e1:([[44,32]]:List d8).flatten.length=2:=rfl;rw[d6,d7];omega) λv h4 hI4=>?_;refine k6 (i:=1) rfl (λw0 w1 hok=>ih (e+1) h4 _ _ _ w1 (hok.mem 1 _ rfl) hI4 (hall _ hym) (hxa _ hym) (D6 _ _ _ _ _ (Hp.le_minus (hok.mem 0 _ rfl).whole (hok.disj 0 1 _ _ dc rfl rfl)) hR') (hD.mono (j7 _) (Hp.le_minus (hok.mem 0 _ rfl).whole (hok.disj 0 1 _ _ dc rfl rfl)))
       (by have e1:([[44,32]]:List d8).flatten.length=2:=rfl;rw[d6,d6,d7];omega)) ?_
      rintro _ h5 _ ⟨rfl,hI5⟩;refine nwo ?_;refine⟨(k+1,h5),⟨by dsimp only;omega,?_⟩,by dsimp only;omega,y6.mk (pj [0,1]) rfl rfl⟩;dsimp only;rw[htk,kK,if_neg hne];have e1:t2++40::(T5 ((args.take k).map (H7 (H3 D) d))++44::32::H7 (H3 D) d (.mk op' f' fac' args'))=t2++40::T5 ((args.take k).map (H7 (H3 D) d))++([[44,32]]:List d8).flatten++H7 (H3 D) d (.mk op' f' fac' args'):=sQ
      rw[e1];exact hI5
     ·have hk0:k=0:=om
      subst hk0;refine k6 (i:=1) rfl (λw0 w1 hok=>ih (e+1) h3 _ _ _ w1 (hok.mem 1 _ rfl) hI3 (hall _ hym) (hxa _ hym) (D6 _ _ _ _ _ (Hp.le_minus (hok.mem 0 _ rfl).whole (hok.disj 0 1 _ _ dc rfl rfl)) hR') (hD.mono (j7 _) (Hp.le_minus (hok.mem 0 _ rfl).whole (hok.disj 0 1 _ _ dc rfl rfl)))
       (by
        have hcl:(H7 (H3 D) d (.mk op' f' fac' args')).length<=_:=hcl;rw[d6];show t2.length+((40::([]:d8)).length)+_ < _
        have e1:(40::([]:d8)).length=1:=rfl;omega)) ?_
      rintro _ h5 _ ⟨rfl,hI5⟩;refine nwo ?_;refine⟨(0+1,h5),⟨by dsimp only;omega,?_⟩,by dsimp only;omega,y6.mk (pj [0,1]) rfl rfl⟩;dsimp only;rw[htk];have e1:t2++40::T5 ((args.take 0).map (H7 (H3 D) d)++[H7 (H3 D) d (.mk op' f' fac' args')])=t2++40::T5 ((args.take 0).map (H7 (H3 D) d))++H7 (H3 D) d (.mk op' f' fac' args'):=by simp[T5]
      rw[e1];exact hI5
    ·have hk2:k=args.length:=om
     subst hk2;rw[q8] at hI3;intro b59;refine aI (i:=1) (j:=2) dc rfl hI3 (L:=[[41]]) rfl rfl sQ (by have e1:([[41]]:List d8).flatten.length=1:=rfl;rw[d6,d7];omega) λv h4 hI4=>?_;refine⟨h4,[],⟨rfl,?_⟩,pk [0,1]⟩;have e1:t++(jQ op++((if op=2 then 32::(fac++[32]) else [])++(40::(T5 (args.map (H7 (H3 D) d))++[41]))))=t2++40::T5 (args.map (H7 (H3 D) d))++([[41]]:List d8).flatten:=by rw[ht2];simp
     rw[e1];exact hI4
  ·obtain⟨L1,L2,rfl,e1,e2⟩:=List.map_eq_append_iff.1 hsp;obtain⟨z,L2,rfl,e3,e4⟩:=List.map_eq_cons_iff.1 e2;have hkz:k=bs (jQ z):=(congrArg Prod.fst e3).symm;have hvz:v=iQ z:=(congrArg Prod.snd e3).symm;subst hkz;subst hvz;have hnd:(L1++z::L2).Nodup:=hsub.nodup dc;refine Cz (i:=3) (j:=4) rfl rfl hIt' ?_;have hsub2:(L1++L2).Sublist mX:=List.Sublist.trans (List.Sublist.append (List.Sublist.refl L1) (List.sublist_cons_self z L2)) hsub;rw[<-e1,<-e4,<-E1] at hIt';refine d9 (λh3=>?_) λh3=>?_
   ·subst h3;have hnm:z∉L1++L2:=by
     rw[List.nodup_append] at hnd;obtain⟨_,h2,h3⟩:=hnd;rw[List.nodup_cons] at h2;intro hm;rcases y8.1 hm with hm | hm
     ·exact h3 z hm z sQ rfl
     ·exact h2.1 hm
    rw[if_pos sQ,k8] at hI;intro b28;refine aI (i:=1) (j:=5) dc rfl hI (L:=[jQ z]) rfl rfl sQ (by simp;omega) λv h2 hI2=>?_;refine⟨(L1++L2,h2,hi',_),⟨hIt',hsub2,?_⟩,by dsimp only;simp,y6.mk (pj [0,1,2,3,4]) rfl rfl⟩;dsimp only;rw[if_neg hnm];have e5:([jQ z]:List d8).flatten=jQ z:=sQ
    rw[<-e5];exact hI2
   ·refine⟨(L1++L2,h,hi',_),⟨hIt',hsub2,?_⟩,by dsimp only;simp,y6.mk (pj [0,1,2,3,4]) rfl rfl⟩;dsimp only;have e6:(if op∈L1++L2 then ([]:d8) else jQ op)=if op∈L1++z::L2 then [] else jQ op:=by
     have:op∈L1++z::L2↔op∈L1++L2:=by
      simp only[y8,p9];exact⟨λh=>h.elim .inl λh=>h.elim (λc=>absurd c.symm h3) .inr,λh=>h.elim .inl λh=>.inr (.inr h)⟩
     by_cases c:op∈L1++L2
     ·rw[if_pos c,if_pos (this.2 c)]
     ·rw[if_neg c,if_neg (λd=>c (this.1 d))]
    rw[e6];exact hI
end Go.Proofs.YtpjhmeicbjkcdaaGreatDoor
namespace Go.Dw
open Go Go.RowKit
theorem Ok.exch {w0 w:World} {s:List Ch} (hok:Ok w0 s w) {i j:Nat} {c d c' d':Ch} (_:i≠j) (hi:l7 s i=some c) (hj:l7 s j=some d)
  (h1 :∀k o,c'.h k=some o->c.h k=some o\/d.h k=some o) (h2 :∀k o,d'.h k=some o->c.h k=some o\/d.h k=some o) (hd:c'.h.dj d'.h):Ok w0 (w8 (w8 s i c') j d') w:=by
 have hget :∀{k x},l7 (w8 (w8 s i c') j d') k=some x->(k=j/\x=d')\/(k=i/\k≠j/\x=c')\/(k≠i/\k≠j/\l7 s k=some x):=by
  intro k x h;rw[E6] at h;by_cases hk:j=k
  ·rw[if_pos hk] at h;cases hs:l7 (w8 s i c') k with
   | none=>rw[hs] at h;cases h
   | some y=>rw[hs] at h;exact .inl ⟨hk.symm,(M0 h).symm⟩
  ·rw[if_neg hk,E6] at h;by_cases hk2:i=k
   ·rw[if_pos hk2] at h;cases hs:l7 s k with
    | none=>rw[hs] at h;cases h
    | some y=>rw[hs] at h;exact .inr (.inl ⟨hk2.symm,λe=>hk e.symm,(M0 h).symm⟩)
   ·rw[if_neg hk2] at h;exact .inr (.inr ⟨λe=>hk2 e.symm,λe=>hk e.symm,h⟩)
 have tY :∀{x:Ch} (hx :∀k o,x.h k=some o->c.h k=some o\/d.h k=some o) {k y},k≠i->k≠j->l7 s k=some y->x.h.dj y.h:=by
  intro x hx k y h1 h2 hy b;cases hb:x.h b with
  | none=>exact .inl rfl
  | some o=>
   right
   rcases hx b o hb with h | h
   ·exact (hok.disj i k c y h1.symm hi hy b).resolve_left (by rw[h];simp)
   ·exact (hok.disj j k d y h2.symm hj hy b).resolve_left (by rw[h];simp)
 have inw :∀{x:Ch} (hx :∀k o,x.h k=some o->c.h k=some o\/d.h k=some o),x.h.In w:=by
  intro x hx b o hb;rcases hx b o hb with h | h
  ·exact hok.mem i c hi b o h
  ·exact hok.mem j d hj b o h
 refine⟨hok.os,hok.tape,hok.output,hok.size,hok.drawn,λk x hx=>?_,λk l x y hkl hx hy=>?_⟩
 ·rcases hget hx with ⟨_,rfl⟩ | ⟨_,_,rfl⟩ | ⟨_,_,h⟩
  ·exact inw h2
  ·exact inw h1
  ·exact hok.mem k x h
 ·rcases hget hx with ⟨e1,rfl⟩ | ⟨e1,_,rfl⟩ | ⟨n1,n2,h⟩ <;> rcases hget hy with ⟨e3,rfl⟩ | ⟨e3,_,rfl⟩ | ⟨n3,n4,h'⟩
  ·exact absurd (e1.trans e3.symm) hkl
  ·exact hd.symm
  ·exact tY h2 n3 n4 h'
  ·exact hd
  ·exact absurd (e1.trans e3.symm) hkl
  ·exact tY h1 n3 n4 h'
  ·exact (tY h2 n1 n2 h).symm
  ·exact (tY h1 n1 n2 h).symm
  ·exact hok.disj k l x y hkl h h'
theorem Ok.le2 {w0 w:World} {s:List Ch} (hok:Ok w0 s w) {i j m:Nat} {c d x:Ch} (hmi:m≠i) (hmj:m≠j) (hi:l7 s i=some c) (hj:l7 s j=some d) (hm:l7 s m=some x):x.h.le ((Hp.whole w).minus (c.h.join d.h)):=
 Hp.le_minus (hok.mem m x hm).whole λb=>by
  rcases hok.disj m i x c hmi hm hi b with h | h
  ·exact .inl h
  ·rcases hok.disj m j x d hmj hm hj b with h' | h'
   ·exact .inl h'
   ·right;unfold Hp.join;rw[h,h']
theorem P4.emp {P:Program} {s:List Ch} {f:Nat} {args:List Value} {q:TV->List Ch->Prop} (h:P4 P (s++[.hp Hp.emp]) f args q):P4 P s f args q:=by
 obtain⟨h⟩:=h;refine⟨λw0 w hok=>⟨(h w0 w hok.emp).1,(h w0 w hok.emp).2.mono λe w' he=>?_⟩⟩;obtain⟨v,s',e1,h2,h3,h4⟩:=he;exact⟨v,s',e1,h2,(I5.app s _).trans h3,h4⟩
end Go.Dw
namespace Go.Proofs.YtpjhmeicbjkcdaaGreatDoor
open Go Go.RowKit Go.Dw
def CN (b:Nat) (fl:Value):Prop:=fl=.pointer none\/fl=pQ b
theorem YV {s:List Ch} {i j b f:Nat} {xs:List Value} {k:Hp} {args:List Value} {R:Value->List Value->Hp->Prop} {q:TV->List Ch->Prop} (hij:i≠j) (hi:l7 s i=some (.box b xs 118)) (hj:l7 s j=some (.hp k))
  (hc :∀w0 w,Ok w0 s w->j2 Tryz.prog f args.toArray w (O3 w ((Ch.box b xs 118).h.join k) λv h' cs=>cs = []/\∃ys k',h'=(Ch.box b ys 118).h.join k'/\(Ch.box b ys 118).h.dj k'/\R v ys k'))
  (hq :∀v ys k',R v ys k'->q (.v v) (w8 (w8 s i (.box b ys 118)) j (.hp k'))):P4 Tryz.prog s f args q:=by
 refine⟨λw0 w hok=>⟨(hc w0 w hok).1,(hc w0 w hok).2.mono λe w' he=>?_⟩⟩;obtain⟨v,h',cs,rfl,h1,rfl,ys,k',rfl,hdj,hR⟩:=he;have a1:=hok.exch (c':=.hp ((Ch.box b xs 118).h.join k)) (d':=.hp Hp.emp) hij hi hj (λn x hx=>by
  have hx:((Ch.box b xs 118).h.join k) n=some x:=hx;unfold Hp.join at hx;split at hx
  ·rename_i y hy;rw[hy];exact .inl hx
  ·exact .inr hx) (λk x hx=>by cases hx) (λk=>.inr rfl)
 have g1:l7 (w8 (w8 s i (.hp ((Ch.box b xs 118).h.join k))) j (.hp Hp.emp)) i=some (.hp ((Ch.box b xs 118).h.join k)):=by
  rw[E6,if_neg hij.symm,E6,if_pos rfl,hi];rfl
 have a2:=a1.callM g1 h1;rw[k8] at a2;have g2:l7 (w8 (w8 (w8 s i (.hp ((Ch.box b xs 118).h.join k))) j (.hp Hp.emp)) i (.hp ((Ch.box b ys 118).h.join k'))) i=some (.hp ((Ch.box b ys 118).h.join k')):=by
  rw[E6,if_pos rfl,g1];rfl
 have g3:l7 (w8 (w8 (w8 s i (.hp ((Ch.box b xs 118).h.join k))) j (.hp Hp.emp)) i (.hp ((Ch.box b ys 118).h.join k'))) j=some (.hp Hp.emp):=by
  rw[E6,if_neg hij,E6,if_pos rfl,E6,if_neg hij,hj];rfl
 have a3:=a2.exch (c':=.box b ys 118) (d':=.hp k') hij g2 g3 (λn x hx=>.inl (Hp.le_join_l _ _ n x hx)) (λn x hx=>.inl (Hp.le_join_r hdj n x hx)) hdj;have e :∀(a c:Ch) (d e f:Ch),w8 (w8 (w8 (w8 (w8 s i a) j c) i d) i e) j f=w8 (w8 s i e) j f:=by
  intro a c d e f;simp only[S0];refine O0 λn=>?_;simp only[N9,M3];by_cases hj':j=n
  ·subst hj';simp
  ·simp only[hj',if_false];by_cases hi':i=n
   ·subst hi';simp
   ·simp[hi']
 rw[e] at a3;refine⟨v,_,rfl,a3,?_,hq v ys k' hR⟩;refine (I5.set hi (c':=.box b ys 118) (λb' cs T e=>by cases e;exact⟨_,_,rfl⟩)).trans ?_;exact I5.set (i:=j) (c:=.hp k) (by rw[E6,if_neg hij,hj]) (λb' cs T e=>by cases e)
theorem YW {s:List Ch} {i j b f:Nat} {fl dv:Value} {o:Dw.Os} {args:List Value} {t':d8} {R:Value->Prop} {q:TV->List Ch->Prop} (hij:i≠j) (hi:l7 s i=some (.box b [fl,o.v,dv] 118)) (hj:l7 s j=some (.hp o.h))
  (hc :∀w0 w,Ok w0 s w->j2 Tryz.prog f args.toArray w (O3 w ((Ch.box b [fl,o.v,dv] 118).h.join o.h) λv h' cs=>cs = []/\R v/\mS h' b dv t'))
  (hq :∀v fl' o',R v->CN b fl'->w5 CE 5 1 o' t'->q (.v v) (w8 (w8 s i (.box b [fl',o'.v,dv] 118)) j (.hp o'.h))):P4 Tryz.prog s f args q:=by
 refine YV (R:=λv ys k'=>R v/\∃fl' o',ys = [fl',o'.v,dv]/\k'=o'.h/\CN b fl'/\w5 CE 5 1 o' t') hij hi hj (λw0 w hok=>⟨(hc w0 w hok).1,(hc w0 w hok).2.mono ?_⟩) ?_
 ·rintro e w' ⟨v,h',cs,rfl,h1,rfl,hR,fl',o',rfl,hdj,hfl,ho⟩;exact⟨v,_,[],rfl,h1,rfl,_,_,rfl,hdj,hR,fl',o',rfl,rfl,hfl,ho⟩
 ·rintro v _ _ ⟨hR,fl',o',rfl,rfl,hfl,ho⟩;exact hq v fl' o' hR hfl ho
theorem MZ {w0 w:World} {s:List Ch} (hok:Ok w0 s w) {i j b:Nat} {fl dv:Value} {o:Dw.Os} {t:d8} (hij:i≠j) (hi:l7 s i=some (.box b [fl,o.v,dv] 118)) (hj:l7 s j=some (.hp o.h)) (hfl:CN b fl) (ho:w5 CE 5 1 o t) :
  ((Ch.box b [fl,o.v,dv] 118).h.join o.h).In w/\mS ((Ch.box b [fl,o.v,dv] 118).h.join o.h) b dv t:=by
 refine⟨λk x hx=>?_,fl,o,rfl,hok.disj i j _ _ hij hi hj,hfl,ho⟩;unfold Hp.join at hx;split at hx
 ·rename_i y hy
  cases hx;exact hok.mem i _ hi k _ hy
 ·exact hok.mem j _ hj k x hx
section
variable {s:List Ch} {i j b:Nat} {fl dv:Value} {o:Dw.Os} {t:d8} {q:TV->List Ch->Prop}
theorem Mi {k bb T m:Nat} {L:List d8} (hij:i≠j) (hi:l7 s i=some (.box b [fl,o.v,dv] 118)) (hj:l7 s j=some (.hp o.h)) (hk:l7 s k=some (.box bb (L.map λx=>Value.string (bs x)) T)) (hki:k≠i) (hkj:k≠j) (hfl:CN b fl) (ho:w5 CE 5 1 o t)
  (hm:m=L.length) (hn:L.length < 1000000) (hlen:t.length+L.flatten.length < 1000000000)
  (hq :∀v fl' o',CN b fl'->w5 CE 5 1 o' (t++L.flatten)->q (.v v) (w8 (w8 s i (.box b [fl',o'.v,dv] 118)) j (.hp o'.h))) :
  P4 Tryz.prog s 56 [pQ b,.slice (some ⟨bb,0,none⟩) m m] q:=by
 subst hm;refine YW (R:=λ_=>True) (t':=t++L.flatten) hij hi hj (λw0 w hok=>?_) (λv fl' o' _ h1 h2=>hq v fl' o' h1 h2);obtain⟨h1,h2⟩:=MZ hok hij hi hj hfl ho;have hsl:Sl (E0 Lp) 1 ((Hp.whole w).minus ((Ch.box b [fl,o.v,dv] 118).h.join o.h)) (some ⟨bb,0,none⟩) L.length L.length L:=Sl.mono (j7 _) (hok.le2 hki hkj hi hj hk) (MJ (f:=Lp) (λ_=>rfl) (λkk hkk jj v hv=>by
  match jj,hv with
  | 0,hv=>
   have hv:some (Value.string (bs L[kk]))=some v:=hv;rw[w7,D7,E7,E2,i7 hkk];exact hv))
 have:=IY (dv:=dv) (t:=t) (L:=L) w h1 h2 hsl hn hlen;refine⟨this.1,this.2.mono ?_⟩;rintro e w' ⟨v,h',cs,rfl,h3,rfl,h4⟩;exact⟨v,h',[],rfl,h3,rfl,trivial,h4⟩
theorem Jv {k bb T m:Nat} {L:List d8} (hi:l7 s i=some (.box b [fl,Dw.Os.nil.v,dv] 118)) (hk:l7 s k=some (.box bb (L.map λx=>Value.string (bs x)) T)) (hki:k≠i) (hfl:CN b fl)
  (hm:m=L.length) (hn:L.length < 1000000) (hlen:L.flatten.length < 1000000000)
  (hq :∀v fl' o',CN b fl'->w5 CE 5 1 o' L.flatten->q (.v v) (w8 (w8 (s++[.hp Hp.emp]) i (.box b [fl',o'.v,dv] 118)) s.length (.hp o'.h))) :
  P4 Tryz.prog s 56 [pQ b,.slice (some ⟨bb,0,none⟩) m m] q:=by
 have hlt:i < s.length:=by rw[I7] at hi;exact (p6.1 hi).1
 have hltk:k < s.length:=by rw[I7] at hk;exact (p6.1 hk).1
 refine P4.emp (Mi (i:=i) (j:=s.length) (k:=k) (o:=Dw.Os.nil) (t:=[]) (fl:=fl) (dv:=dv) om (by rw[G3,if_pos hlt];exact hi) (fL s _) (by rw[G3,if_pos hltk];exact hk) hki om hfl (w5.nil _ _ _) hm hn (by rw[i6];omega) (λv fl' o' h1 h2=>?_));rw[I4] at h2;exact hq v fl' o' h1 h2
theorem Kn {c d e:Nat} {H:Hp} {ad:Option Addr} {nd cd:Nat} {D:List O7} {x:Ex} {xs:List Value} (hij:i≠j) (hi:l7 s i=some (.box b [fl,o.v,.slice ad nd cd] 118)) (hj:l7 s j=some (.hp o.h)) (hc:l7 s c=some (.hp H)) (hci:c≠i) (hcj:c≠j) (hfl:CN b fl) (ho:w5 CE 5 1 o t)
  (hx:bE e H x xs) (hD:Sl (E0 P2) 4 H ad nd cd D) (hg:UY D.length d x) (hs:RA x) (hdn :∀d∈D,d.1.length < 1000000) (hlen:t.length+(H7 (H3 D) d x).length < 1000000000)
  (hq :∀v fl' o',CN b fl'->w5 CE 5 1 o' (t++H7 (H3 D) d x)->q (.v v) (w8 (w8 s i (.box b [fl',o'.v,.slice ad nd cd] 118)) j (.hp o'.h))) :
  P4 Tryz.prog s 61 [pQ b,.agg xs.toArray] q:=by
 refine YW (R:=λ_=>True) (t':=t++H7 (H3 D) d x) hij hi hj (λw0 w hok=>?_) (λv fl' o' _ h1 h2=>hq v fl' o' h1 h2);obtain⟨h1,h2⟩:=MZ hok hij hi hj hfl ho;have hle:H.le _:=hok.le2 hci hcj hi hj hc;have:=EG hdn d e _ t x xs w h1 h2 hg hs (D6 e _ _ _ _ hle hx) (hD.mono (j7 _) hle) hlen;refine⟨this.1,this.2.mono ?_⟩;rintro e w' ⟨v,h',cs,rfl,h3,rfl,h4⟩;exact⟨v,h',[],rfl,h3,rfl,trivial,h4⟩
theorem Jo (hij:i≠j) (hi:l7 s i=some (.box b [fl,o.v,dv] 118)) (hj:l7 s j=some (.hp o.h)) (hfl:CN b fl) (ho:w5 CE 5 1 o t) (h0:t≠[])
  (hq :∀ys k',q (.v (.tuple #[sv (FA t).1,iQ (FA t).2])) (w8 (w8 s i (.box b ys 118)) j (.hp k'))):P4 Tryz.prog s 62 [pQ b] q:=by
 refine YV (R:=λv _ _=>v=.tuple #[sv (FA t).1,iQ (FA t).2]) hij hi hj (λw0 w hok=>?_) ?_
 ·obtain⟨h1,h2⟩:=MZ hok hij hi hj hfl ho;have:=wP w h1 h2 h0;refine⟨this.1,this.2.mono ?_⟩;rintro e w' ⟨v,h',cs,rfl,h3,rfl,rfl,ys,k',e1,e2⟩;exact⟨_,h',[],rfl,h3,rfl,ys,k',e1,e2,rfl⟩
 ·rintro v ys k' rfl;exact hq ys k'
end
end Go.Proofs.YtpjhmeicbjkcdaaGreatDoor
namespace Go.Dw
open Go Go.RowKit
theorem jN {P:Program} {s:List Ch} {i j b f T:Nat} {xs:List Value} {k:Hp} {args:List Value} {R:Value->List Value->Hp->Prop} {q:TV->List Ch->Prop} (hij:i≠j) (hi:l7 s i=some (.box b xs T)) (hj:l7 s j=some (.hp k))
  (hc :∀w0 w,Ok w0 s w->j2 P f args.toArray w (O3 w ((Ch.box b xs T).h.join k) λv h' cs=>∃ys,cs = [.box b ys T]/\R v ys h'))
  (hq :∀v ys k',R v ys k'->q (.v v) (w8 (w8 s i (.box b ys T)) j (.hp k'))):P4 P s f args q:=by
 refine⟨λw0 w hok=>⟨(hc w0 w hok).1,(hc w0 w hok).2.mono λe w' he=>?_⟩⟩;obtain⟨v,k',cs,rfl,h0,ys,rfl,hR⟩:=he;have hdj:(Ch.box b ys T).h.dj k':=h0.disj 2 1 _ _ dc rfl rfl;have h1:Ok w [.hp ((Hp.whole w).minus ((Ch.box b xs T).h.join k)),.hp ((Ch.box b ys T).h.join k')] w':=Ok.join (d:=.box b ys T) (e:=.hp k') (s:=[]) (h0.pick [0,2,1] rfl rfl);have a1:=hok.exch (c':=.hp ((Ch.box b xs T).h.join k)) (d':=.hp Hp.emp) hij hi hj (λn x hx=>by
  have hx:((Ch.box b xs T).h.join k) n=some x:=hx;unfold Hp.join at hx;split at hx
  ·rename_i y hy;rw[hy];exact .inl hx
  ·exact .inr hx) (λk x hx=>by cases hx) (λk=>.inr rfl)
 have g1:l7 (w8 (w8 s i (.hp ((Ch.box b xs T).h.join k))) j (.hp Hp.emp)) i=some (.hp ((Ch.box b xs T).h.join k)):=by
  rw[E6,if_neg hij.symm,E6,if_pos rfl,hi];rfl
 have a2:=a1.callM g1 h1;rw[k8] at a2;have g2:l7 (w8 (w8 (w8 s i (.hp ((Ch.box b xs T).h.join k))) j (.hp Hp.emp)) i (.hp ((Ch.box b ys T).h.join k'))) i=some (.hp ((Ch.box b ys T).h.join k')):=by
  rw[E6,if_pos rfl,g1];rfl
 have g3:l7 (w8 (w8 (w8 s i (.hp ((Ch.box b xs T).h.join k))) j (.hp Hp.emp)) i (.hp ((Ch.box b ys T).h.join k'))) j=some (.hp Hp.emp):=by
  rw[E6,if_neg hij,E6,if_pos rfl,E6,if_neg hij,hj];rfl
 have a3:=a2.exch (c':=.box b ys T) (d':=.hp k') hij g2 g3 (λn x hx=>.inl (Hp.le_join_l _ _ n x hx)) (λn x hx=>.inl (Hp.le_join_r hdj n x hx)) hdj;have e :∀(a c:Ch) (d e f:Ch),w8 (w8 (w8 (w8 (w8 s i a) j c) i d) i e) j f=w8 (w8 s i e) j f:=by
  intro a c d e f;simp only[S0];refine O0 λn=>?_;simp only[N9,M3];by_cases hj':j=n
  ·subst hj';simp
  ·simp only[hj',if_false];by_cases hi':i=n
   ·subst hi';simp
   ·simp[hi']
 rw[e] at a3;refine⟨v,_,rfl,a3,?_,hq v ys k' hR⟩;refine (I5.set hi (c':=.box b ys T) (λb' cs T e=>by cases e;exact⟨_,_,rfl⟩)).trans ?_;exact I5.set (i:=j) (c:=.hp k) (by rw[E6,if_neg hij,hj]) (λb' cs T e=>by cases e)
end Go.Dw
namespace Go.Proofs.YtpjhmeicbjkcdaaGreatDoor
open Go Go.RowKit Go.Dw
theorem _root_.Go.Dw.Ok.startB {w:World} {b7 T:Nat} {xs:List Value} {h:Hp} (hin:((Ch.box b7 xs T).h.join h).In w) (hdj:(Ch.box b7 xs T).h.dj h):Ok w [.hp ((Hp.whole w).minus ((Ch.box b7 xs T).h.join h)),.hp h,.box b7 xs T] w:=
 Ok.same (s:=[.hp ((Hp.whole w).minus ((Ch.box b7 xs T).h.join h)),.hp h,.hp (Ch.box b7 xs T).h]) (i:=2) (c:=.hp (Ch.box b7 xs T).h) (d:=.box b7 xs T) rfl rfl (Ok.part (i:=1) (Ok.start2 w hin) rfl (Hp.le_join_r hdj) (Hp.le_join_l _ _) hdj.symm)
abbrev xI (z:Int) (f:d8->Int) (r:RS):Int:=if rN (z8 r)/\D8 (z8 r).2.1=true then f (z8 r).2.1 else z
set_option maxRecDepth 10000 in
theorem gN {k h:Hp} {rb b b7 g:Nat} {r:RS} {z:Int} {cap:List Value} {chk fv:d8->Int} (w:World) (hin:((Ch.box b7 [iQ z] 3).h.join h).In w) (hdj:(Ch.box b7 [iQ z] 3).h.dj h) (hd:DR ((Hp.whole w).minus ((Ch.box b7 [iQ z] 3).h.join h)) k h rb b r)
  (hc :∀w',(Ch.box b7 [iQ z] 3).h.In w'->((Hp.whole w).minus ((Ch.box b7 [iQ z] 3).h.join h)).le ((Hp.whole w').minus (Ch.box b7 [iQ z] 3).h)->∀s:d8,s.length < 900000->j2 Tryz.prog g (sv s::cap).toArray w' (O3 w' (Ch.box b7 [iQ z] 3).h λv h' cs2=>cs2 = []/\∃cs',(Ch.box b7 cs' 3).h.le h'/\(v=iQ (chk s)/\cs' = [iQ (fv s)]))) :
  j2 Tryz.prog 77 #[pQ rb,.func (.func g) #[] cap.toArray] w (O3 w ((Ch.box b7 [iQ z] 3).h.join h) λv h' cs=>∃ys,cs = [.box b7 ys 3]/\(v=sv (L0 r chk).2/\ys = [iQ (xI z fv r)]/\G0 k h' b (L0 r chk).1)):=by
 have ok0:=Ok.startB hin hdj;have hpk:=hd.hR.peekB;refine enterMSZ (cx 50) [pQ rb,.func (.func g) #[] cap.toArray] ok0 [.tmp 4] Tryz.func77 ?_;obtain⟨c0,hc0⟩ :∃c0,c0=(Hp.whole w).minus ((Ch.box b7 [iQ z] 3).h.join h):=⟨_,rfl⟩
 rw[<-hc0] at hd hc ok0 ⊢;refine lQ 0 hd.hB ?_;refine k7 _ (λw' hm=>R7 w' (hm 1 _ rfl) (hd.hk.trans (hm 0 _ rfl).whole) hd.hR) ?_;obtain⟨⟨K,T,ln,co⟩,hP⟩ :∃p,p=z8 r:=⟨_,rfl⟩
 rw[<-hP] at hpk ⊢;dsimp only at hpk;intro b5;refine d9 (λh1=>?_) λh1=>?_;focus
  have hnm:rN (z8 r):=by rw[<-hP];exact .inl h1
 rotate_left
 focus
  refine d9 (λh2=>?_) λh2=>?_;focus
   have hnm:rN (z8 r):=by rw[<-hP];exact .inr h2
  rotate_left
  ·have hnm : ¬ rN (z8 r):=by rw[<-hP];exact λc=>c.elim h1 h2
   have hC:namC r chk=r:=by unfold namC;rw[if_neg hnm]
   have hv:xI z fv r=z:=by unfold xI;rw[if_neg (λc=>hnm c.1)]
   refine d9 (λh6=>?_) λh6=>?_;focus
    refine lQ 0 hd.hB ?_;refine k6 (i:=1) rfl (λw0 w' hok=>fP w' (hok.mem 1 _ rfl) (hok.kle rfl rfl hd.hk) hd.hR) ?_;rintro _ h2 _ ⟨rfl,rfl,hR2⟩;have e:L0 r chk=J9 r 3:=by unfold L0;rw[<-hP,if_pos h6,hC]
   rotate_left
   focus
    refine lQ 0 hd.hB ?_;refine k6 (i:=1) rfl (λw0 w' hok=>fV w' (hok.mem 1 _ rfl) (hok.kle rfl rfl hd.hk) hd.hR) ?_;rintro _ h2 _ ⟨rfl,rfl,hR2⟩;have e:L0 r chk=J9 r 1:=by unfold L0;rw[<-hP,if_neg h6,hC]
   all_goals
    rw[e];exact⟨h2,[.box b7 [iQ z] 3],⟨[iQ z],rfl,rfl,by rw[hv],hR2⟩,pk [0,1,2]⟩
 all_goals
  refine k7 _ (λw' hm=>dP T w') ?_;refine v7 (λh3=>?_) λh3=>?_
  ·have h3:D8 T=false:=by simpa using h3
   have hC:namC r chk=w9 r 11:=by unfold namC;rw[if_pos hnm,<-hP,if_pos h3]
   have hv:xI z fv r=z:=by unfold xI;rw[if_neg (λc=>by rw[<-hP] at c;have c2:D8 T=true:=c.2;rw[h3] at c2;cases c2)]
   refine lQ 0 hd.hB ?_;refine k6 (i:=1) rfl (λw0 w' hok=>F9 w' (hok.mem 1 _ rfl) (hok.kle rfl rfl hd.hk) hd.hR) ?_;rintro _ h1 _ ⟨rfl,hR1⟩;refine d9 (λh6=>?_) λh6=>?_;focus
    refine lQ 0 hd.hB ?_;refine k6 (i:=1) rfl (λw0 w' hok=>fP w' (hok.mem 1 _ rfl) (hok.kle rfl rfl hd.hk) hR1) ?_;rintro _ h2 _ ⟨rfl,rfl,hR2⟩;have e:L0 r chk=J9 (w9 r 11) 3:=by unfold L0;rw[<-hP,if_pos h6,hC]
   rotate_left
   focus
    refine lQ 0 hd.hB ?_;refine k6 (i:=1) rfl (λw0 w' hok=>fV w' (hok.mem 1 _ rfl) (hok.kle rfl rfl hd.hk) hR1) ?_;rintro _ h2 _ ⟨rfl,rfl,hR2⟩;have e:L0 r chk=J9 (w9 r 11) 1:=by unfold L0;rw[<-hP,if_neg h6,hC]
   all_goals
    rw[e];exact⟨h2,[.box b7 [iQ z] 3],⟨[iQ z],rfl,rfl,by rw[hv],hR2⟩,pk [0,1,2]⟩
  ·have h3:D8 T=true:=by simpa using h3
   have hC:namC r chk=w9 r (chk T):=by unfold namC;rw[if_pos hnm,<-hP,if_neg (by rw[h3];decide)]
   have hv:xI z fv r=fv T:=by unfold xI;rw[<-hP] at hnm ⊢;rw[if_pos ⟨hnm,h3⟩]
   refine u6.cut Hp (λ_=>[(0,.v (pQ rb)),(5,.bx 3 0)]) (λg=>[.hp c0,.hp g,.box b7 [iQ (fv T)] 3,.box b5 [iQ K,sv T,iQ ln,iQ co] 211]) (λg=>G0 k g b (w9 r (chk T))) (u6.by_order0 (s0:=[.hp c0,.hp Hp.emp,.hp Hp.emp,.box b5 [iQ K,sv T,iQ ln,iQ co] 211]) cQ (.take 0 <| .take 1 <| .take 2 <| .take 3 <| .take 4 <| .take 5 <| .take 6 <| .run 7 <| .run 8 <| .done) kr (sK) ?_) ?_
   ·refine lQ 0 hd.hB ?_;refine oH ?_;refine NY (i:=2) rfl (λw0 w' hok=>hc w' (hok.mem 2 _ rfl) (Hp.le_minus (hok.mem 0 _ rfl).whole (hok.disj 0 2 _ _ dc rfl rfl)) T hpk) ?_;rintro _ _ ⟨rfl,rfl⟩;refine⟨sK,?_⟩;refine k6 (i:=1) rfl (λw0 w' hok=>F9 w' (hok.mem 1 _ rfl) (hok.kle rfl rfl hd.hk) hd.hR) ?_;rintro _ h1 _ ⟨rfl,hR1⟩;refine⟨sK,?_⟩;exact⟨h1,hR1,y6.mk (pj [0,1,2,3]) rfl rfl⟩
   intro h1 hR1 _;refine d9 (λh6=>?_) λh6=>?_;focus
    refine lQ 0 hd.hB ?_;refine k6 (i:=1) rfl (λw0 w' hok=>fP w' (hok.mem 1 _ rfl) (hok.kle rfl rfl hd.hk) hR1) ?_;rintro _ h2 _ ⟨rfl,rfl,hR2⟩;have e:L0 r chk=J9 (w9 r (chk T)) 3:=by unfold L0;rw[<-hP,if_pos h6,hC]
   rotate_left
   focus
    refine lQ 0 hd.hB ?_;refine k6 (i:=1) rfl (λw0 w' hok=>fV w' (hok.mem 1 _ rfl) (hok.kle rfl rfl hd.hk) hR1) ?_;rintro _ h2 _ ⟨rfl,rfl,hR2⟩;have e:L0 r chk=J9 (w9 r (chk T)) 1:=by unfold L0;rw[<-hP,if_neg h6,hC]
   all_goals
    rw[e];exact⟨h2,[.box b7 [iQ (fv T)] 3],⟨[iQ (fv T)],rfl,rfl,by rw[hv],hR2⟩,pk [0,1,2]⟩
end Go.Proofs.YtpjhmeicbjkcdaaGreatDoor
namespace Go.Proofs.YtpjhmeicbjkcdaaGreatDoor
open Go Go.RowKit Go.Dw
theorem G0.unsB {k h:Hp} {b:Nat} {r:RS} (hR:G0 k h b r):(xK r).2.length < 900001:=by
 obtain⟨_,_,_,_,_,_,tb⟩:=hR;have key :∀r':RS,o7 r r'->(J9 r' 2).2.length < 900000:=by
  intro r' ha;unfold J9;split
  ·exact E3 _
  ·dsimp only;unfold z8;split
   ·exact E3 _
   ·cases e:r'.ts with
    | nil=>exact E3 _
    | cons x l=>exact tb x (ha.sb x (by rw[e];exact wF))
 have hs :∀r':RS,o7 r r'->(X0 r').2.length < 900001:=by
  intro r' ha;have h1:=key (qU r') (ha.trans (((o7.take r' [45]).trans (o7.fail _ 3)).ite (o7.take r' [45])));unfold X0;dsimp only;split
  ·exact E3 _
  ·rw[d6];split
   ·simp only[d7,i6];omega
   ·simp only[i6];omega
 unfold xK;exact hs _ ((o7.fail r 14).ite (o7.refl r))
theorem JL {r:RS} {s:d8} {c m:Nat} (he:r.e=0->cU r.ts) (h:S7 r s=true):G2 (C6 (H6 r c m)) < G2 r:=by
 obtain⟨h0,h5,_⟩:=P5 h;have hp:=kX he h;unfold H6;split
 ·refine p8 (o7.next _).rem ?_;have:(w9 r 6).e≠0:=by unfold w9;rw[if_neg (λc=>c h0),if_pos dc];exact (by decide:(6:Int)≠0)
  unfold G2 at hp ⊢;rw[if_pos this];exact hp
 ·exact GH he h0 om
section
variable {names:List d8} {rr:RS} {cnt:Nat}
theorem WB (he:rr.e=0->cU rr.ts) (h:S7 rr [43]=true\/S7 rr [45]=true):0 < G2 rr:=h.elim (kX he) (kX he)
theorem zL (names:List d8) (last:Int) (he:rr.e=0->cU rr.ts) (h:S7 rr [43]=true\/S7 rr [45]=true) (cnt:Nat):G2 (hZ names last rr cnt).1 < G2 rr:=by
 have h1:G2 (C6 (H6 rr cnt 64)) < G2 rr:=h.elim (JL he) (JL he);refine p8 ?_ h1;have a:o7 (C6 (H6 rr cnt 64)) (jS rr cnt).1:=by
  unfold jS;dsimp only;have h:=o7.uns (C6 (H6 rr cnt 64));exact (h.trans (o7.fail _ 5)).ite ((h.trans (o7.fail _ 19)).ite h)
 unfold hZ;dsimp only;exact ((a.trans (o7.exp _ _)).trans (o7.nam _ _)).rem
theorem sZ (names:List d8) (last:Int) (h:S7 rr [43]=true\/S7 rr [45]=true) (hc:cnt<=64\/(cnt<=65/\rr.e≠0)):cnt+1<=64\/(cnt+1<=65/\(hZ names last rr cnt).1.e≠0):=by
 have h0:rr.e=0:=h.elim (λh=>(P5 h).1) (λh=>(P5 h).1);have hc:cnt<=64:=hc.elim id (λc=>absurd h0 c.2);by_cases h6:cnt=64
 ·refine .inr ⟨om,?_⟩;have hb:(H6 rr cnt 64).e≠0:=by
   unfold H6;rw[if_pos om];unfold w9;rw[if_neg (λc=>c h0),if_pos dc];exact (by decide:(6:Int)≠0)
  have a:o7 (H6 rr cnt 64) (hZ names last rr cnt).1:=by
   unfold hZ jS;dsimp only;have h:=(o7.next (H6 rr cnt 64)).trans (o7.uns _);exact (((h.trans (o7.fail _ 5)).ite ((h.trans (o7.fail _ 19)).ite h)).trans (o7.exp _ _)).trans (o7.nam _ _)
  exact a.bad hb
 ·exact .inl om
end
theorem _root_.Go.Dw.Ok.inJ {w0 w:World} {s:List Ch} (hok:Ok w0 s w) {i j:Nat} {c d:Ch} (hi:l7 s i=some c) (hj:l7 s j=some d):(c.h.join d.h).In w:=by
 intro k x hx;unfold Hp.join at hx;split at hx
 ·rename_i y hy
  cases hx;exact hok.mem i _ hi k _ hy
 ·exact hok.mem j _ hj k x hx
set_option maxHeartbeats 4000000 in
set_option maxRecDepth 10000 in
theorem oG {k h:Hp} {rb b:Nat} {r:RS} {ad:Option Addr} {nd cd:Nat} {D:List O7} (w:World) (hin:h.In w) (hd:DR ((Hp.whole w).minus h) k h rb b r) (hds:((Hp.whole w).minus h).cell? ⟨rb,1,none⟩=some (.slice ad nd cd)) (hD:Sl (E0 P2) 4 ((Hp.whole w).minus h) ad nd cd D) (hn:D.length < 1000000) :
  j2 Tryz.prog 171 #[pQ rb] w (O3 w h λv h' cs=>∃o,cs = [.hp o.h]/\(v=.agg #[sv (qD (D.map λx:O7=>x.1) r).2.1,o.v]/\w5 bO 80 2 o (qD (D.map λx:O7=>x.1) r).2.2/\G0 k h' b (qD (D.map λx:O7=>x.1) r).1)):=by
 refine enterMZ (cx 99) [pQ rb] hin [.cell 2 41] Tryz.func171 ?_;obtain⟨c0,hc0⟩ :∃c0,c0=(Hp.whole w).minus h:=⟨_,rfl⟩
 rw[<-hc0] at hd hds hD ⊢;obtain⟨names,hnames⟩ :∃l,l=D.map λx:O7=>x.1:=⟨_,rfl⟩
 rw[<-hnames];intro b1 b2;refine m9 λq' hq'=>?_;apply hq';refine nQ [.hp c0,.hp h,.box b1 [pQ rb] 151,.box b2 [zs,zl] 41] λq' hq'=>?_;refine lQ 0 hd.hB ?_;refine k6 (i:=1) rfl (λw0 w' hok=>l6 w' (hok.mem 1 _ rfl) (hok.kle rfl rfl hd.hk) hd.hR) ?_;rintro _ h1 _ ⟨rfl,hR1⟩;have hR1:G0 k h1 b (s8 (r) [91]):=hR1;apply hq';refine nQ [.hp c0,.hp h1,.box b1 [pQ rb] 151,.box b2 [zs,zl] 41] λq' hq'=>?_;refine k6 (i:=1) rfl (λw0 w' hok=>V0 w' (hok.mem 1 _ rfl) ((hd.to hR1).mono (hok.le01 rfl rfl))) ?_;rintro _ h2 _ ⟨rfl,rfl,hR2⟩;have hR2:G0 k h2 b ((L9 (s8 (r) [91])).1):=hR2;obtain⟨A,hA⟩ :∃x,x=L9 (s8 (r) [91]):=⟨_,rfl⟩
 rw[<-hA] at hR2 ⊢;intro b3;apply hq';refine nQ [.hp c0,.hp h2,.box b1 [pQ rb] 151,.box b2 [zs,zl] 41,.box b3 [sv A.2,zl] 41] λq' hq'=>?_;intro b4;apply hq';obtain⟨tot,htot⟩ :∃x,x=eJ names (G2 A.1) A.1 (-1) []:=⟨_,rfl⟩
 have hend:A.1.e=0->cU A.1.ts:=by obtain⟨_,_,_,_,_,hE,_⟩:=hR2;exact hE
 refine z6.mk (RS×Int×List OF×Hp×Dw.Os) (λ_=>[(1,.bx 2 0),(2,.bx 3 0),(3,.bx 4 0),(4,.bx 5 0)]) (λg=>[.hp c0,.hp g.2.2.2.1,.box b1 [pQ rb] 151,.box b2 [zs,zl] 41,.box b3 [sv A.2,g.2.2.2.2.v] 41,.box b4 [iQ g.2.1] 3,.hp g.2.2.2.2.h])
  (λg=>G0 k g.2.2.2.1 b g.1/\w5 bO 80 2 g.2.2.2.2 g.2.2.1/\(∃f,G2 g.1<=f/\eJ names f g.1 g.2.1 g.2.2.1=tot)/\(g.2.2.1.length<=64\/(g.2.2.1.length<=65/\g.1.e≠0))) (λg=>G2 g.1) (A.1,-1,[],h2,Dw.Os.nil)
  ⟨hR2,w5.nil _ _ _,⟨G2 A.1,j8 _,htot.symm⟩,.inl (j0 _)⟩ (y6.mk (λ_ _ h=>h.emp) rfl rfl) ?_
 rintro⟨rr,last,out,hh,oo⟩ ⟨hRr,hO,⟨f,hf,htr⟩,hcnt⟩;dsimp only at hRr hO hf htr hcnt ⊢;have hRend:rr.e=0->cU rr.ts:=by obtain⟨_,_,_,_,_,hE,_⟩:=hRr;exact hE
 refine nQ [.hp c0,.hp hh,.box b1 [pQ rb] 151,.box b2 [zs,zl] 41,.box b3 [sv A.2,oo.v] 41,.box b4 [iQ last] 3,.hp oo.h] λq' hq'=>?_;refine lQ 0 hd.hB ?_;refine k7 _ (λw' hm=>R1 w' (hm 1 _ rfl) (hd.hk.trans (hm 0 _ rfl).whole) hRr) ?_;refine v7 (λg1=>?_) λg1=>?_;focus
  apply hq';refine TS rfl ?_;have hio:S7 rr [43]=true\/S7 rr [45]=true:=.inl g1
 rotate_left
 focus
  refine lQ 0 hd.hB ?_;refine k7 _ (λw' hm=>R1 w' (hm 1 _ rfl) (hd.hk.trans (hm 0 _ rfl).whole) hRr) ?_;apply hq';refine v7 (λg2=>?_) λg2=>?_;focus
   have hio:S7 rr [43]=true\/S7 rr [45]=true:=.inr g2
  rotate_left
  ·have eT:tot=(rr,out):=by
    rw[<-htr];cases f with
    | zero=>rfl
    | succ f=>unfold eJ;rw[if_neg (λc=>by rw[g1,g2] at c;cases c <;> rename_i c <;> cases c)]
   have eF:qD names r=(s8 rr [93],(A.2,out)):=by
    unfold qD;dsimp only;rw[<-hA,<-htot,eT]
   refine nQ [.hp c0,.hp hh,.box b1 [pQ rb] 151,.box b2 [zs,zl] 41,.box b3 [sv A.2,oo.v] 41,.box b4 [iQ last] 3,.hp oo.h] λq' hq'=>?_;refine lQ 0 hd.hB ?_;refine k6 (i:=1) rfl (λw0 w' hok=>l6 w' (hok.mem 1 _ rfl) (hok.kle rfl rfl hd.hk) hRr) ?_;rintro _ h3 _ ⟨rfl,hR3⟩;have hR3:G0 k h3 b (s8 (rr) [93]):=hR3;apply hq';rw[eF];exact⟨h3,[.hp oo.h],⟨oo,rfl,rfl,hO,hR3⟩,pk [0,1,6]⟩
 all_goals
  refine nQ [.hp c0,.hp hh,.box b1 [pQ rb] 151,.box b2 [zs,zl] 41,.box b3 [sv A.2,oo.v] 41,.box b4 [iQ last] 3,.hp oo.h] λq' hq'=>?_;refine k6 (i:=1) rfl (λw0 w' hok=>M6 (n:=out.length) (m:=64) (by rw[hO.len]) rfl w' (hok.mem 1 _ rfl) ((hd.to hRr).mono (hok.le01 rfl rfl))) ?_;rintro _ h3 _ ⟨rfl,hR3⟩;have hR3:G0 k h3 b (H6 (rr) out.length 64):=hR3;obtain⟨r3,e3⟩ :∃x,x=H6 (rr) out.length 64:=⟨_,rfl⟩
  rw[<-e3] at hR3;apply hq';refine nQ [.hp c0,.hp h3,.box b1 [pQ rb] 151,.box b2 [zs,zl] 41,.box b3 [sv A.2,oo.v] 41,.box b4 [iQ last] 3,.hp oo.h] λq' hq'=>?_;refine lQ 0 hd.hB ?_;refine k7 _ (λw' hm=>R1 w' (hm 1 _ rfl) (hd.hk.trans (hm 0 _ rfl).whole) hR3) ?_;apply hq';refine nQ [.hp c0,.hp h3,.box b1 [pQ rb] 151,.box b2 [zs,zl] 41,.box b3 [sv A.2,oo.v] 41,.box b4 [iQ last] 3,.hp oo.h] λq' hq'=>?_;refine lQ 0 hd.hB ?_;refine k6 (i:=1) rfl (λw0 w' hok=>cS w' (hok.mem 1 _ rfl) (hok.kle rfl rfl hd.hk) hR3) ?_;rintro _ h4 _ ⟨rfl,rfl,hR4⟩;have hR4:G0 k h4 b (C6 (r3)):=hR4;apply hq';refine nQ [.hp c0,.hp h4,.box b1 [pQ rb] 151,.box b2 [zs,zl] 41,.box b3 [sv A.2,oo.v] 41,.box b4 [iQ last] 3,.hp oo.h] λq' hq'=>?_;refine k6 (i:=1) rfl (λw0 w' hok=>xJ w' (hok.mem 1 _ rfl) ((hd.to hR4).mono (hok.le01 rfl rfl))) ?_;rintro _ h5 _ ⟨rfl,rfl,hR5⟩;have hR5:G0 k h5 b ((xK (C6 (r3))).1):=hR5;have hUl:=G0.unsB hR4;obtain⟨U,hU⟩ :∃x,x=xK (C6 (r3)):=⟨_,rfl⟩
  rw[<-hU] at hR5 hUl ⊢;apply hq';refine nQ [.hp c0,.hp h5,.box b1 [pQ rb] 151,.box b2 [zs,zl] 41,.box b3 [sv A.2,oo.v] 41,.box b4 [iQ last] 3,.hp oo.h] λq' hq'=>?_;apply hq';refine v7 (λm1=>?_) λm1=>?_;focus
   refine nQ [.hp c0,.hp h5,.box b1 [pQ rb] 151,.box b2 [zs,zl] 41,.box b3 [sv A.2,oo.v] 41,.box b4 [iQ last] 3,.hp oo.h] λq' hq'=>?_;refine gG (ty:=38) (a:=[45]) (by simp only[d7,i6];omega) ?_;obtain⟨X,hX⟩ :∃X,X=([45]++U.2):=⟨_,rfl⟩
   rw[<-hX];have hX2:(if S7 r3 [45]=true then 45::U.2 else U.2)=X:=by rw[if_pos m1,hX];rfl
   apply hq'
  rotate_left
  focus
   obtain⟨X,hX⟩ :∃X,X=U.2:=⟨_,rfl⟩
   rw[<-hX];have hX2:(if S7 r3 [45]=true then 45::U.2 else U.2)=X:=by rw[if_neg (by rw[m1];decide),hX]
  all_goals
   refine nQ [.hp c0,.hp h5,.box b1 [pQ rb] 151,.box b2 [zs,zl] 41,.box b3 [sv A.2,oo.v] 41,.box b4 [iQ last] 3,.hp oo.h] λq' hq'=>?_;apply hq';refine d9 (λs0=>?_) λs0=>?_
   ·refine nQ [.hp c0,.hp h5,.box b1 [pQ rb] 151,.box b2 [zs,zl] 41,.box b3 [sv A.2,oo.v] 41,.box b4 [iQ last] 3,.hp oo.h] λq' hq'=>?_;refine lQ 0 hd.hB ?_;refine k6 (i:=1) rfl (λw0 w' hok=>F9 w' (hok.mem 1 _ rfl) (hok.kle rfl rfl hd.hk) hR5) ?_;rintro _ h6 _ ⟨rfl,hR6⟩;have hR6:G0 k h6 b (w9 (U.1) 5):=hR6;apply hq';have hN:jS rr out.length=(w9 (U.1) 5,X):=by
     unfold jS;dsimp only;rw[<-e3,<-hU,hX2];rw[if_pos (by rw[C8] at s0;omega)]
    refine nQ [.hp c0,.hp h6,.box b1 [pQ rb] 151,.box b2 [zs,zl] 41,.box b3 [sv A.2,oo.v] 41,.box b4 [iQ last] 3,.hp oo.h] λq' hq'=>?_;refine lQ 0 hd.hB ?_;refine k6 (i:=1) rfl (λw0 w' hok=>l6 w' (hok.mem 1 _ rfl) (hok.kle rfl rfl hd.hk) hR6) ?_;rintro _ h7 _ ⟨rfl,hR7⟩;have hR7:G0 k h7 b (s8 (w9 (U.1) 5) [42]):=hR7;obtain⟨r7,e7⟩ :∃x,x=s8 (w9 (U.1) 5) [42]:=⟨_,rfl⟩
    rw[<-e7] at hR7;apply hq';refine m9 λq' hq'=>?_;intro b7;apply hq';refine nQ [.hp c0,.hp h7,.box b1 [pQ rb] 151,.box b2 [zs,zl] 41,.box b3 [sv A.2,oo.v] 41,.box b4 [iQ last] 3,.hp oo.h,.box b7 [iQ (-1)] 3] λq' hq'=>?_;refine jN (i:=7) (j:=1) dc rfl rfl (λw0 w' hok=>gN (cap:=[pQ b1,pQ b7,pQ b4]) (chk:=jV names last) (fv:=kB names) w' (hok.inJ (i:=7) (j:=1) (c:=.box b7 [iQ (-1)] 3) (d:=.hp h7) rfl rfl) (hok.disj 7 1 _ _ dc rfl rfl) ((hd.to hR7).mono (hok.le2 (i:=7) (j:=1) (m:=0) dc dc rfl rfl rfl)) (λw2 hi2 hle s _=>by
     have hl0:=(hok.le2 (i:=7) (j:=1) (m:=0) dc dc rfl rfl rfl).trans hle;have hl1:=(hok.le2 (i:=7) (j:=1) (m:=2) dc dc rfl rfl rfl).trans hle;have hl4:=(hok.le2 (i:=7) (j:=1) (m:=5) dc dc rfl rfl rfl).trans hle;rw[hnames];exact gU (b1:=b1) (b7:=b7) (b4:=b4) (rb:=rb) (last:=last) (z:=-1) s w2 hi2 (hl1.cell (I0 b1 (cs:=[pQ rb]) _ rfl)) (hl0.cell hds) (hl4.cell (I0 b4 (cs:=[iQ last]) _ rfl)) (hD.mono (j7 _) hl0) hn)) ?_
    rintro _ _ h8 ⟨rfl,rfl,hR8⟩;have hT:hZ names last rr out.length=((L0 r7 (jV names last)).1,(UF names r7,X)):=by
     unfold hZ;dsimp only;rw[hN];dsimp only;rw[<-e7]
    have hlt:=zL names last hRend hio out.length;have hcn:=sZ names last hio hcnt;rw[hT] at hlt hcn;dsimp only at hlt hcn;obtain⟨at_,hat⟩ :∃x,x=UF names r7:=⟨_,rfl⟩
    have hat2:xI (-1) (kB names) r7=at_:=hat.symm;rw[<-hat] at hT;rw[hat2];obtain⟨r9,hr9⟩ :∃x,x=(L0 r7 (jV names last)).1:=⟨_,rfl⟩
    rw[<-hr9] at hR8 hT hlt hcn;apply hq';refine nQ [.hp c0,.hp h8,.box b1 [pQ rb] 151,.box b2 [zs,zl] 41,.box b3 [sv A.2,oo.v] 41,.box b4 [iQ last] 3,.hp oo.h,.box b7 [iQ at_] 3] λq' hq'=>?_;apply hq';refine nQ [.hp c0,.hp h8,.box b1 [pQ rb] 151,.box b2 [zs,zl] 41,.box b3 [sv A.2,oo.v] 41,.box b4 [iQ at_] 3,.hp oo.h,.box b7 [iQ at_] 3] λq' hq'=>?_;intro b8;refine gZ (f:=bO) (o:=oo) (L:=out) cQ (e:=80) rfl (i:=6) rfl hO (at_,X) (j:=8) rfl rfl rfl rfl om λo9 hO9=>?_;apply hq';refine⟨(r9,at_,out++[(at_,X)],h8,o9),⟨hR8,hO9,?_,?_⟩,hlt,y6.mk (pj [0,1,2,3,4,5,6]) rfl rfl⟩
    ·cases f with
     | zero=>exact absurd hf (by have:=WB hRend hio;omega)
     | succ f=>
      refine⟨f,by dsimp only;omega,?_⟩;dsimp only;rw[<-htr];show _=eJ names (f+1) rr last out
      conv=>rhs;unfold eJ
      rw[if_pos hio,hT]
    ·dsimp only;rw[d6];exact hcn
   ·have s0' : ¬ 400 < X.length:=by rw[C8] at s0;omega
    refine nQ [.hp c0,.hp h5,.box b1 [pQ rb] 151,.box b2 [zs,zl] 41,.box b3 [sv A.2,oo.v] 41,.box b4 [iQ last] 3,.hp oo.h] λq' hq'=>?_;refine lQ 0 hd.hB ?_;refine k7 _ (λw' hm=>R1 w' (hm 1 _ rfl) (hd.hk.trans (hm 0 _ rfl).whole) hR5) ?_;refine v7 (λs1=>?_) λs1=>?_;focus
     refine dL (b:=[48]) ?_;refine d9 (λs2=>?_) λs2=>?_;focus
      apply hq';refine TS rfl ?_;refine nQ [.hp c0,.hp h5,.box b1 [pQ rb] 151,.box b2 [zs,zl] 41,.box b3 [sv A.2,oo.v] 41,.box b4 [iQ last] 3,.hp oo.h] λq' hq'=>?_;refine lQ 0 hd.hB ?_;refine k6 (i:=1) rfl (λw0 w' hok=>F9 w' (hok.mem 1 _ rfl) (hok.kle rfl rfl hd.hk) hR5) ?_;rintro _ h6 _ ⟨rfl,hR6⟩;have hR6:G0 k h6 b (w9 (U.1) 19):=hR6;apply hq';have hN:jS rr out.length=(w9 (U.1) 19,X):=by
       unfold jS;dsimp only;rw[<-e3,<-hU,hX2];rw[if_neg s0',if_pos ⟨s1,.inl s2⟩]
      refine nQ [.hp c0,.hp h6,.box b1 [pQ rb] 151,.box b2 [zs,zl] 41,.box b3 [sv A.2,oo.v] 41,.box b4 [iQ last] 3,.hp oo.h] λq' hq'=>?_;refine lQ 0 hd.hB ?_;refine k6 (i:=1) rfl (λw0 w' hok=>l6 w' (hok.mem 1 _ rfl) (hok.kle rfl rfl hd.hk) hR6) ?_;rintro _ h7 _ ⟨rfl,hR7⟩;have hR7:G0 k h7 b (s8 (w9 (U.1) 19) [42]):=hR7;obtain⟨r7,e7⟩ :∃x,x=s8 (w9 (U.1) 19) [42]:=⟨_,rfl⟩
      rw[<-e7] at hR7;apply hq';refine m9 λq' hq'=>?_;intro b7;apply hq';refine nQ [.hp c0,.hp h7,.box b1 [pQ rb] 151,.box b2 [zs,zl] 41,.box b3 [sv A.2,oo.v] 41,.box b4 [iQ last] 3,.hp oo.h,.box b7 [iQ (-1)] 3] λq' hq'=>?_;refine jN (i:=7) (j:=1) dc rfl rfl (λw0 w' hok=>gN (cap:=[pQ b1,pQ b7,pQ b4]) (chk:=jV names last) (fv:=kB names) w' (hok.inJ (i:=7) (j:=1) (c:=.box b7 [iQ (-1)] 3) (d:=.hp h7) rfl rfl) (hok.disj 7 1 _ _ dc rfl rfl) ((hd.to hR7).mono (hok.le2 (i:=7) (j:=1) (m:=0) dc dc rfl rfl rfl)) (λw2 hi2 hle s _=>by
       have hl0:=(hok.le2 (i:=7) (j:=1) (m:=0) dc dc rfl rfl rfl).trans hle;have hl1:=(hok.le2 (i:=7) (j:=1) (m:=2) dc dc rfl rfl rfl).trans hle;have hl4:=(hok.le2 (i:=7) (j:=1) (m:=5) dc dc rfl rfl rfl).trans hle;rw[hnames];exact gU (b1:=b1) (b7:=b7) (b4:=b4) (rb:=rb) (last:=last) (z:=-1) s w2 hi2 (hl1.cell (I0 b1 (cs:=[pQ rb]) _ rfl)) (hl0.cell hds) (hl4.cell (I0 b4 (cs:=[iQ last]) _ rfl)) (hD.mono (j7 _) hl0) hn)) ?_
      rintro _ _ h8 ⟨rfl,rfl,hR8⟩;have hT:hZ names last rr out.length=((L0 r7 (jV names last)).1,(UF names r7,X)):=by
       unfold hZ;dsimp only;rw[hN];dsimp only;rw[<-e7]
      have hlt:=zL names last hRend hio out.length;have hcn:=sZ names last hio hcnt;rw[hT] at hlt hcn;dsimp only at hlt hcn;obtain⟨at_,hat⟩ :∃x,x=UF names r7:=⟨_,rfl⟩
      have hat2:xI (-1) (kB names) r7=at_:=hat.symm;rw[<-hat] at hT;rw[hat2];obtain⟨r9,hr9⟩ :∃x,x=(L0 r7 (jV names last)).1:=⟨_,rfl⟩
      rw[<-hr9] at hR8 hT hlt hcn;apply hq';refine nQ [.hp c0,.hp h8,.box b1 [pQ rb] 151,.box b2 [zs,zl] 41,.box b3 [sv A.2,oo.v] 41,.box b4 [iQ last] 3,.hp oo.h,.box b7 [iQ at_] 3] λq' hq'=>?_;apply hq';refine nQ [.hp c0,.hp h8,.box b1 [pQ rb] 151,.box b2 [zs,zl] 41,.box b3 [sv A.2,oo.v] 41,.box b4 [iQ at_] 3,.hp oo.h,.box b7 [iQ at_] 3] λq' hq'=>?_;intro b8;refine gZ (f:=bO) (o:=oo) (L:=out) cQ (e:=80) rfl (i:=6) rfl hO (at_,X) (j:=8) rfl rfl rfl rfl om λo9 hO9=>?_;apply hq';refine⟨(r9,at_,out++[(at_,X)],h8,o9),⟨hR8,hO9,?_,?_⟩,hlt,y6.mk (pj [0,1,2,3,4,5,6]) rfl rfl⟩;focus
       skip
      rotate_left
      ·dsimp only;rw[d6];exact hcn
     rotate_left
     ·refine dL (b:=[45,48]) ?_;apply hq';refine d9 (λs3=>?_) λs3=>?_;focus
       refine nQ [.hp c0,.hp h5,.box b1 [pQ rb] 151,.box b2 [zs,zl] 41,.box b3 [sv A.2,oo.v] 41,.box b4 [iQ last] 3,.hp oo.h] λq' hq'=>?_;refine lQ 0 hd.hB ?_;refine k6 (i:=1) rfl (λw0 w' hok=>F9 w' (hok.mem 1 _ rfl) (hok.kle rfl rfl hd.hk) hR5) ?_;rintro _ h6 _ ⟨rfl,hR6⟩;have hR6:G0 k h6 b (w9 (U.1) 19):=hR6;apply hq';have hN:jS rr out.length=(w9 (U.1) 19,X):=by
        unfold jS;dsimp only;rw[<-e3,<-hU,hX2];rw[if_neg s0',if_pos ⟨s1,.inr s3⟩]
       refine nQ [.hp c0,.hp h6,.box b1 [pQ rb] 151,.box b2 [zs,zl] 41,.box b3 [sv A.2,oo.v] 41,.box b4 [iQ last] 3,.hp oo.h] λq' hq'=>?_;refine lQ 0 hd.hB ?_;refine k6 (i:=1) rfl (λw0 w' hok=>l6 w' (hok.mem 1 _ rfl) (hok.kle rfl rfl hd.hk) hR6) ?_;rintro _ h7 _ ⟨rfl,hR7⟩;have hR7:G0 k h7 b (s8 (w9 (U.1) 19) [42]):=hR7;obtain⟨r7,e7⟩ :∃x,x=s8 (w9 (U.1) 19) [42]:=⟨_,rfl⟩
       rw[<-e7] at hR7;apply hq';refine m9 λq' hq'=>?_;intro b7;apply hq';refine nQ [.hp c0,.hp h7,.box b1 [pQ rb] 151,.box b2 [zs,zl] 41,.box b3 [sv A.2,oo.v] 41,.box b4 [iQ last] 3,.hp oo.h,.box b7 [iQ (-1)] 3] λq' hq'=>?_;refine jN (i:=7) (j:=1) dc rfl rfl (λw0 w' hok=>gN (cap:=[pQ b1,pQ b7,pQ b4]) (chk:=jV names last) (fv:=kB names) w' (hok.inJ (i:=7) (j:=1) (c:=.box b7 [iQ (-1)] 3) (d:=.hp h7) rfl rfl) (hok.disj 7 1 _ _ dc rfl rfl) ((hd.to hR7).mono (hok.le2 (i:=7) (j:=1) (m:=0) dc dc rfl rfl rfl)) (λw2 hi2 hle s _=>by
        have hl0:=(hok.le2 (i:=7) (j:=1) (m:=0) dc dc rfl rfl rfl).trans hle;have hl1:=(hok.le2 (i:=7) (j:=1) (m:=2) dc dc rfl rfl rfl).trans hle;have hl4:=(hok.le2 (i:=7) (j:=1) (m:=5) dc dc rfl rfl rfl).trans hle;rw[hnames];exact gU (b1:=b1) (b7:=b7) (b4:=b4) (rb:=rb) (last:=last) (z:=-1) s w2 hi2 (hl1.cell (I0 b1 (cs:=[pQ rb]) _ rfl)) (hl0.cell hds) (hl4.cell (I0 b4 (cs:=[iQ last]) _ rfl)) (hD.mono (j7 _) hl0) hn)) ?_
       rintro _ _ h8 ⟨rfl,rfl,hR8⟩;have hT:hZ names last rr out.length=((L0 r7 (jV names last)).1,(UF names r7,X)):=by
        unfold hZ;dsimp only;rw[hN];dsimp only;rw[<-e7]
       have hlt:=zL names last hRend hio out.length;have hcn:=sZ names last hio hcnt;rw[hT] at hlt hcn;dsimp only at hlt hcn;obtain⟨at_,hat⟩ :∃x,x=UF names r7:=⟨_,rfl⟩
       have hat2:xI (-1) (kB names) r7=at_:=hat.symm;rw[<-hat] at hT;rw[hat2];obtain⟨r9,hr9⟩ :∃x,x=(L0 r7 (jV names last)).1:=⟨_,rfl⟩
       rw[<-hr9] at hR8 hT hlt hcn;apply hq';refine nQ [.hp c0,.hp h8,.box b1 [pQ rb] 151,.box b2 [zs,zl] 41,.box b3 [sv A.2,oo.v] 41,.box b4 [iQ last] 3,.hp oo.h,.box b7 [iQ at_] 3] λq' hq'=>?_;apply hq';refine nQ [.hp c0,.hp h8,.box b1 [pQ rb] 151,.box b2 [zs,zl] 41,.box b3 [sv A.2,oo.v] 41,.box b4 [iQ at_] 3,.hp oo.h,.box b7 [iQ at_] 3] λq' hq'=>?_;intro b8;refine gZ (f:=bO) (o:=oo) (L:=out) cQ (e:=80) rfl (i:=6) rfl hO (at_,X) (j:=8) rfl rfl rfl rfl om λo9 hO9=>?_;apply hq';refine⟨(r9,at_,out++[(at_,X)],h8,o9),⟨hR8,hO9,?_,?_⟩,hlt,y6.mk (pj [0,1,2,3,4,5,6]) rfl rfl⟩;focus
        skip
       rotate_left
       ·dsimp only;rw[d6];exact hcn
      rotate_left
      focus
       have hN:jS rr out.length=(U.1,X):=by
        unfold jS;dsimp only;rw[<-e3,<-hU,hX2];rw[if_neg s0',if_neg (λc=>c.2.elim s2 s3)]
       refine nQ [.hp c0,.hp h5,.box b1 [pQ rb] 151,.box b2 [zs,zl] 41,.box b3 [sv A.2,oo.v] 41,.box b4 [iQ last] 3,.hp oo.h] λq' hq'=>?_;refine lQ 0 hd.hB ?_;refine k6 (i:=1) rfl (λw0 w' hok=>l6 w' (hok.mem 1 _ rfl) (hok.kle rfl rfl hd.hk) hR5) ?_;rintro _ h6 _ ⟨rfl,hR6⟩;have hR6:G0 k h6 b (s8 (U.1) [42]):=hR6;obtain⟨r6,e6⟩ :∃x,x=s8 (U.1) [42]:=⟨_,rfl⟩
       rw[<-e6] at hR6;apply hq';refine m9 λq' hq'=>?_;intro b7;apply hq';refine nQ [.hp c0,.hp h6,.box b1 [pQ rb] 151,.box b2 [zs,zl] 41,.box b3 [sv A.2,oo.v] 41,.box b4 [iQ last] 3,.hp oo.h,.box b7 [iQ (-1)] 3] λq' hq'=>?_;refine jN (i:=7) (j:=1) dc rfl rfl (λw0 w' hok=>gN (cap:=[pQ b1,pQ b7,pQ b4]) (chk:=jV names last) (fv:=kB names) w' (hok.inJ (i:=7) (j:=1) (c:=.box b7 [iQ (-1)] 3) (d:=.hp h6) rfl rfl) (hok.disj 7 1 _ _ dc rfl rfl) ((hd.to hR6).mono (hok.le2 (i:=7) (j:=1) (m:=0) dc dc rfl rfl rfl)) (λw2 hi2 hle s _=>by
        have hl0:=(hok.le2 (i:=7) (j:=1) (m:=0) dc dc rfl rfl rfl).trans hle;have hl1:=(hok.le2 (i:=7) (j:=1) (m:=2) dc dc rfl rfl rfl).trans hle;have hl4:=(hok.le2 (i:=7) (j:=1) (m:=5) dc dc rfl rfl rfl).trans hle;rw[hnames];exact gU (b1:=b1) (b7:=b7) (b4:=b4) (rb:=rb) (last:=last) (z:=-1) s w2 hi2 (hl1.cell (I0 b1 (cs:=[pQ rb]) _ rfl)) (hl0.cell hds) (hl4.cell (I0 b4 (cs:=[iQ last]) _ rfl)) (hD.mono (j7 _) hl0) hn)) ?_
       rintro _ _ h7 ⟨rfl,rfl,hR7⟩;have hT:hZ names last rr out.length=((L0 r6 (jV names last)).1,(UF names r6,X)):=by
        unfold hZ;dsimp only;rw[hN];dsimp only;rw[<-e6]
       have hlt:=zL names last hRend hio out.length;have hcn:=sZ names last hio hcnt;rw[hT] at hlt hcn;dsimp only at hlt hcn;obtain⟨at_,hat⟩ :∃x,x=UF names r6:=⟨_,rfl⟩
       have hat2:xI (-1) (kB names) r6=at_:=hat.symm;rw[<-hat] at hT;rw[hat2];obtain⟨r9,hr9⟩ :∃x,x=(L0 r6 (jV names last)).1:=⟨_,rfl⟩
       rw[<-hr9] at hR7 hT hlt hcn;apply hq';refine nQ [.hp c0,.hp h7,.box b1 [pQ rb] 151,.box b2 [zs,zl] 41,.box b3 [sv A.2,oo.v] 41,.box b4 [iQ last] 3,.hp oo.h,.box b7 [iQ at_] 3] λq' hq'=>?_;apply hq';refine nQ [.hp c0,.hp h7,.box b1 [pQ rb] 151,.box b2 [zs,zl] 41,.box b3 [sv A.2,oo.v] 41,.box b4 [iQ at_] 3,.hp oo.h,.box b7 [iQ at_] 3] λq' hq'=>?_;intro b8;refine gZ (f:=bO) (o:=oo) (L:=out) cQ (e:=80) rfl (i:=6) rfl hO (at_,X) (j:=8) rfl rfl rfl rfl om λo9 hO9=>?_;apply hq';refine⟨(r9,at_,out++[(at_,X)],h7,o9),⟨hR7,hO9,?_,?_⟩,hlt,y6.mk (pj [0,1,2,3,4,5,6]) rfl rfl⟩;focus
        skip
       rotate_left
       ·dsimp only;rw[d6];exact hcn
      all_goals
       cases f with
       | zero=>exact absurd hf (by have:=WB hRend hio;omega)
       | succ f=>
        refine⟨f,by dsimp only;omega,?_⟩;dsimp only;rw[<-htr];show _=eJ names (f+1) rr last out
        conv=>rhs;unfold eJ
        rw[if_pos hio,hT]
    rotate_left
    focus
     apply hq';refine dU rfl ?_;have hN:jS rr out.length=(U.1,X):=by
      unfold jS;dsimp only;rw[<-e3,<-hU,hX2];rw[if_neg s0',if_neg (λc=>by rw[s1] at c;cases c.1)]
     refine nQ [.hp c0,.hp h5,.box b1 [pQ rb] 151,.box b2 [zs,zl] 41,.box b3 [sv A.2,oo.v] 41,.box b4 [iQ last] 3,.hp oo.h] λq' hq'=>?_;refine lQ 0 hd.hB ?_;refine k6 (i:=1) rfl (λw0 w' hok=>l6 w' (hok.mem 1 _ rfl) (hok.kle rfl rfl hd.hk) hR5) ?_;rintro _ h6 _ ⟨rfl,hR6⟩;have hR6:G0 k h6 b (s8 (U.1) [42]):=hR6;obtain⟨r6,e6⟩ :∃x,x=s8 (U.1) [42]:=⟨_,rfl⟩
     rw[<-e6] at hR6;apply hq';refine m9 λq' hq'=>?_;intro b7;apply hq';refine nQ [.hp c0,.hp h6,.box b1 [pQ rb] 151,.box b2 [zs,zl] 41,.box b3 [sv A.2,oo.v] 41,.box b4 [iQ last] 3,.hp oo.h,.box b7 [iQ (-1)] 3] λq' hq'=>?_;refine jN (i:=7) (j:=1) dc rfl rfl (λw0 w' hok=>gN (cap:=[pQ b1,pQ b7,pQ b4]) (chk:=jV names last) (fv:=kB names) w' (hok.inJ (i:=7) (j:=1) (c:=.box b7 [iQ (-1)] 3) (d:=.hp h6) rfl rfl) (hok.disj 7 1 _ _ dc rfl rfl) ((hd.to hR6).mono (hok.le2 (i:=7) (j:=1) (m:=0) dc dc rfl rfl rfl)) (λw2 hi2 hle s _=>by
      have hl0:=(hok.le2 (i:=7) (j:=1) (m:=0) dc dc rfl rfl rfl).trans hle;have hl1:=(hok.le2 (i:=7) (j:=1) (m:=2) dc dc rfl rfl rfl).trans hle;have hl4:=(hok.le2 (i:=7) (j:=1) (m:=5) dc dc rfl rfl rfl).trans hle;rw[hnames];exact gU (b1:=b1) (b7:=b7) (b4:=b4) (rb:=rb) (last:=last) (z:=-1) s w2 hi2 (hl1.cell (I0 b1 (cs:=[pQ rb]) _ rfl)) (hl0.cell hds) (hl4.cell (I0 b4 (cs:=[iQ last]) _ rfl)) (hD.mono (j7 _) hl0) hn)) ?_
     rintro _ _ h7 ⟨rfl,rfl,hR7⟩;have hT:hZ names last rr out.length=((L0 r6 (jV names last)).1,(UF names r6,X)):=by
      unfold hZ;dsimp only;rw[hN];dsimp only;rw[<-e6]
     have hlt:=zL names last hRend hio out.length;have hcn:=sZ names last hio hcnt;rw[hT] at hlt hcn;dsimp only at hlt hcn;obtain⟨at_,hat⟩ :∃x,x=UF names r6:=⟨_,rfl⟩
     have hat2:xI (-1) (kB names) r6=at_:=hat.symm;rw[<-hat] at hT;rw[hat2];obtain⟨r9,hr9⟩ :∃x,x=(L0 r6 (jV names last)).1:=⟨_,rfl⟩
     rw[<-hr9] at hR7 hT hlt hcn;apply hq';refine nQ [.hp c0,.hp h7,.box b1 [pQ rb] 151,.box b2 [zs,zl] 41,.box b3 [sv A.2,oo.v] 41,.box b4 [iQ last] 3,.hp oo.h,.box b7 [iQ at_] 3] λq' hq'=>?_;apply hq';refine nQ [.hp c0,.hp h7,.box b1 [pQ rb] 151,.box b2 [zs,zl] 41,.box b3 [sv A.2,oo.v] 41,.box b4 [iQ at_] 3,.hp oo.h,.box b7 [iQ at_] 3] λq' hq'=>?_;intro b8;refine gZ (f:=bO) (o:=oo) (L:=out) cQ (e:=80) rfl (i:=6) rfl hO (at_,X) (j:=8) rfl rfl rfl rfl om λo9 hO9=>?_;apply hq';refine⟨(r9,at_,out++[(at_,X)],h7,o9),⟨hR7,hO9,?_,?_⟩,hlt,y6.mk (pj [0,1,2,3,4,5,6]) rfl rfl⟩;focus
      skip
     rotate_left
     ·dsimp only;rw[d6];exact hcn
    all_goals
     cases f with
     | zero=>exact absurd hf (by have:=WB hRend hio;omega)
     | succ f=>
      refine⟨f,by dsimp only;omega,?_⟩;dsimp only;rw[<-htr];show _=eJ names (f+1) rr last out
      conv=>rhs;unfold eJ
      rw[if_pos hio,hT]
end Go.Proofs.YtpjhmeicbjkcdaaGreatDoor
namespace Go.Proofs.YtpjhmeicbjkcdaaGreatDoor
open Go Go.RowKit Go.Dw
set_option maxHeartbeats 4000000 in
set_option maxRecDepth 10000 in
theorem uP {k h:Hp} {rb b:Nat} {r:RS} {a:Option Addr} {n c:Nat} {L:List kT} {ad:Option Addr} {nd cd:Nat} {DD:List O7} (w:World) (hin:h.In w) (hd:DR ((Hp.whole w).minus h) k h rb b r) (hL:Sl qF 3 ((Hp.whole w).minus h) a n c L) (hn:L.length < 1000000)
  (hds:((Hp.whole w).minus h).cell? ⟨rb,1,none⟩=some (.slice ad nd cd)) (hD:Sl (E0 P2) 4 ((Hp.whole w).minus h) ad nd cd DD) (hdn:DD.length < 1000000) :
  j2 Tryz.prog 83 #[pQ rb,.slice a n c] w (O3 w h λv h' cs=>∃o,cs = [.hp o.h]/\(v=.agg #[sv (iC (L.map λx:kT=>x.1) (DD.map λx:O7=>x.1) r).2.1,sv (iC (L.map λx:kT=>x.1) (DD.map λx:O7=>x.1) r).2.2.1,o.v]/\w5 bO 80 2 o (iC (L.map λx:kT=>x.1) (DD.map λx:O7=>x.1) r).2.2.2/\G0 k h' b (iC (L.map λx:kT=>x.1) (DD.map λx:O7=>x.1) r).1)):=by
 have hlen:=hL.len;refine enterMZ (cx 65) [pQ rb,.slice a n c] hin [.cell 4 96] Tryz.func83 ?_;obtain⟨c0,hc0⟩ :∃c0,c0=(Hp.whole w).minus h:=⟨_,rfl⟩
 rw[<-hc0] at hd hL hds hD ⊢;obtain⟨names,hnames⟩ :∃l,l=L.map λx:kT=>x.1:=⟨_,rfl⟩
 rw[<-hnames];have hnl:n=names.length:=by rw[hnames,j6];exact hlen
 obtain⟨dims,hdims⟩ :∃l,l=DD.map λx:O7=>x.1:=⟨_,rfl⟩
 rw[<-hdims];intro b3 b4;refine m9 λq' hq'=>?_;apply hq';refine nQ [.hp c0,.hp h,.box b3 [.slice a n c] 27,.box b4 [zs,zs,zl] 96] λq' hq'=>?_;refine k6 (i:=1) rfl (λw0 w' hok=>M6 (n:=names.length) (m:=64) (by rw[hnl]) rfl w' (hok.mem 1 _ rfl) (hd.mono (hok.le01 rfl rfl))) ?_;rintro _ h1 _ ⟨rfl,hR1⟩;have hR1:G0 k h1 b (H6 (r) names.length 64):=hR1;apply hq';refine nQ [.hp c0,.hp h1,.box b3 [.slice a n c] 27,.box b4 [zs,zs,zl] 96] λq' hq'=>?_;refine lQ 0 hd.hB ?_;refine k6 (i:=1) rfl (λw0 w' hok=>l6 w' (hok.mem 1 _ rfl) (hok.kle rfl rfl hd.hk) hR1) ?_;rintro _ h2 _ ⟨rfl,hR2⟩;have hR2:G0 k h2 b (s8 (H6 (r) names.length 64) Y8):=hR2;obtain⟨r2,e2⟩ :∃x,x=s8 (H6 (r) names.length 64) Y8:=⟨_,rfl⟩
 rw[<-e2] at hR2;apply hq';refine nQ [.hp c0,.hp h2,.box b3 [.slice a n c] 27,.box b4 [zs,zs,zl] 96] λq' hq'=>?_;refine call (λw' hm=>U4 _ _ _ w') ?_;rintro _ _ ⟨b5,b6,rfl,rfl⟩;refine k6 (i:=1) rfl (λw0 w' hok=>O6 (cap:=[pQ b5,pQ b6]) (chk:=Z6 names) w' (hok.mem 1 _ rfl) ((hd.to hR2).mono (hok.le01 rfl rfl)) (λw1 hi1 s _=>S2 (cap:=[pQ b3]) s w1 om (by rw[<-hnl];exact hi1.whole.cell (hok.bx1 (j:=4) (n:=0) rfl rfl dc rfl)) (hi1.whole.cell (hok.bx1 (j:=5) (n:=0) rfl rfl dc rfl)) (λw2 hi2 i hi=>by
  have hle:c0.le (Hp.whole w2):=((hok.le01 rfl rfl).trans hi1.whole).trans hi2.whole;subst hnames;exact LB (L:=L) i w2 ((hi1.whole.trans hi2.whole).cell (hok.bx1 (j:=2) (n:=0) rfl rfl dc rfl)) (hL.mono V5 hle) hi))) ?_
 rintro _ h3 _ ⟨rfl,rfl,hR3⟩;obtain⟨A,hA⟩ :∃x,x=L0 (r2) (Z6 names):=⟨_,rfl⟩
 rw[<-hA] at hR3 ⊢;intro b7;apply hq';refine nQ [.hp c0,.hp h3,.box b3 [.slice a n c] 27,.box b4 [zs,zs,zl] 96,.box b5 [iQ n] 3,.box b6 [.func (.func 170) #[] #[pQ b3]] 110,.box b7 [sv A.2,zs,zl] 96] λq' hq'=>?_;refine lQ 0 hd.hB ?_;refine k6 (i:=1) rfl (λw0 w' hok=>l6 w' (hok.mem 1 _ rfl) (hok.kle rfl rfl hd.hk) hR3) ?_;rintro _ h4 _ ⟨rfl,hR4⟩;have hR4:G0 k h4 b (s8 (A.1) [58]):=hR4;obtain⟨r4,e4⟩ :∃x,x=s8 (A.1) [58]:=⟨_,rfl⟩
 rw[<-e4] at hR4;apply hq';refine nQ [.hp c0,.hp h4,.box b3 [.slice a n c] 27,.box b4 [zs,zs,zl] 96,.box b5 [iQ n] 3,.box b6 [.func (.func 170) #[] #[pQ b3]] 110,.box b7 [sv A.2,zs,zl] 96] λq' hq'=>?_;refine k6 (i:=1) rfl (λw0 w' hok=>oG w' (hok.mem 1 _ rfl) ((hd.to hR4).mono (hok.le01 rfl rfl)) ((hok.le01 rfl rfl).cell hds) (hD.mono (j7 _) (hok.le01 rfl rfl)) hdn) ?_;rintro _ h5 _ ⟨o,rfl,rfl,hO,hR5⟩;rw[<-hdims] at hR5 hO;obtain⟨F,hF⟩ :∃x,x=qD dims (r4):=⟨_,rfl⟩
 have hF2:qD (DD.map λx:O7=>x.1) r4=F:=by rw[hF,hdims]
 rw[<-hF] at hR5 hO;rw[hF2];apply hq';refine nQ [.hp c0,.hp h5,.box b3 [.slice a n c] 27,.box b4 [zs,zs,zl] 96,.box b5 [iQ n] 3,.box b6 [.func (.func 170) #[] #[pQ b3]] 110,.box b7 [sv A.2,sv F.2.1,o.v] 96,.hp o.h] λq' hq'=>?_;refine lQ 0 hd.hB ?_;refine k6 (i:=1) rfl (λw0 w' hok=>l6 w' (hok.mem 1 _ rfl) (hok.kle rfl rfl hd.hk) hR5) ?_;rintro _ h6 _ ⟨rfl,hR6⟩;have hR6:G0 k h6 b (s8 (F.1) [60,61]):=hR6;obtain⟨r6,e6⟩ :∃x,x=s8 (F.1) [60,61]:=⟨_,rfl⟩
 rw[<-e6] at hR6;apply hq';refine nQ [.hp c0,.hp h6,.box b3 [.slice a n c] 27,.box b4 [zs,zs,zl] 96,.box b5 [iQ n] 3,.box b6 [.func (.func 170) #[] #[pQ b3]] 110,.box b7 [sv A.2,sv F.2.1,o.v] 96,.hp o.h] λq' hq'=>?_;refine lQ 0 hd.hB ?_;refine k7 _ (λw' hm=>R7 w' (hm 1 _ rfl) (hd.hk.trans (hm 0 _ rfl).whole) hR6) ?_;obtain⟨⟨K,T,ln,co⟩,hP⟩ :∃p,p=z8 r6:=⟨_,rfl⟩
 rw[<-hP];intro b8;apply hq';refine nQ [.hp c0,.hp h6,.box b3 [.slice a n c] 27,.box b4 [zs,zs,zl] 96,.box b5 [iQ n] 3,.box b6 [.func (.func 170) #[] #[pQ b3]] 110,.box b7 [sv A.2,sv F.2.1,o.v] 96,.hp o.h,.box b8 [iQ K,sv T,iQ ln,iQ co] 211] λq' hq'=>?_;have eF :∀R9,R9=(if (z8 r6).1≠2\/(z8 r6).2.1≠[48] then w9 r6 14 else r6)->iC names dims r=(s8 (C6 R9) [59],(A.2,F.2)):=by
  rintro _ rfl;unfold iC;dsimp only;rw[<-e2,<-hA,<-e4,<-hF,<-e6]
 refine d9 (λs1=>?_) λs1=>?_
 ·apply hq';refine TS rfl ?_;refine nQ [.hp c0,.hp h6,.box b3 [.slice a n c] 27,.box b4 [zs,zs,zl] 96,.box b5 [iQ n] 3,.box b6 [.func (.func 170) #[] #[pQ b3]] 110,.box b7 [sv A.2,sv F.2.1,o.v] 96,.hp o.h,.box b8 [iQ K,sv T,iQ ln,iQ co] 211] λq' hq'=>?_;refine lQ 0 hd.hB ?_;refine k6 (i:=1) rfl (λw0 w' hok=>F9 w' (hok.mem 1 _ rfl) (hok.kle rfl rfl hd.hk) hR6) ?_;rintro _ h7 _ ⟨rfl,hR7⟩;have hR7:G0 k h7 b (w9 (r6) 14):=hR7;apply hq';refine nQ [.hp c0,.hp h7,.box b3 [.slice a n c] 27,.box b4 [zs,zs,zl] 96,.box b5 [iQ n] 3,.box b6 [.func (.func 170) #[] #[pQ b3]] 110,.box b7 [sv A.2,sv F.2.1,o.v] 96,.hp o.h,.box b8 [iQ K,sv T,iQ ln,iQ co] 211] λq' hq'=>?_;refine lQ 0 hd.hB ?_;refine k6 (i:=1) rfl (λw0 w' hok=>cS w' (hok.mem 1 _ rfl) (hok.kle rfl rfl hd.hk) hR7) ?_;rintro _ h8 _ ⟨rfl,rfl,hR8⟩;have hR8:G0 k h8 b (C6 (w9 (r6) 14)):=hR8;apply hq';refine nQ [.hp c0,.hp h8,.box b3 [.slice a n c] 27,.box b4 [zs,zs,zl] 96,.box b5 [iQ n] 3,.box b6 [.func (.func 170) #[] #[pQ b3]] 110,.box b7 [sv A.2,sv F.2.1,o.v] 96,.hp o.h,.box b8 [iQ K,sv T,iQ ln,iQ co] 211] λq' hq'=>?_;refine lQ 0 hd.hB ?_;refine k6 (i:=1) rfl (λw0 w' hok=>l6 w' (hok.mem 1 _ rfl) (hok.kle rfl rfl hd.hk) hR8) ?_;rintro _ h9 _ ⟨rfl,hR9⟩;have hR9:G0 k h9 b (s8 (C6 (w9 (r6) 14)) [59]):=hR9;apply hq';rw[eF (w9 (r6) 14) (by rw[<-hP,if_pos (.inl s1)])];exact⟨h9,[.hp o.h],⟨o,rfl,rfl,hO,hR9⟩,pk [0,1,7]⟩
 ·refine pZ (b:=[48]) ?_;apply hq';refine d9 (λs2=>?_) λs2=>?_
  ·refine nQ [.hp c0,.hp h6,.box b3 [.slice a n c] 27,.box b4 [zs,zs,zl] 96,.box b5 [iQ n] 3,.box b6 [.func (.func 170) #[] #[pQ b3]] 110,.box b7 [sv A.2,sv F.2.1,o.v] 96,.hp o.h,.box b8 [iQ K,sv T,iQ ln,iQ co] 211] λq' hq'=>?_;refine lQ 0 hd.hB ?_;refine k6 (i:=1) rfl (λw0 w' hok=>F9 w' (hok.mem 1 _ rfl) (hok.kle rfl rfl hd.hk) hR6) ?_;rintro _ h7 _ ⟨rfl,hR7⟩;have hR7:G0 k h7 b (w9 (r6) 14):=hR7;apply hq';refine nQ [.hp c0,.hp h7,.box b3 [.slice a n c] 27,.box b4 [zs,zs,zl] 96,.box b5 [iQ n] 3,.box b6 [.func (.func 170) #[] #[pQ b3]] 110,.box b7 [sv A.2,sv F.2.1,o.v] 96,.hp o.h,.box b8 [iQ K,sv T,iQ ln,iQ co] 211] λq' hq'=>?_;refine lQ 0 hd.hB ?_;refine k6 (i:=1) rfl (λw0 w' hok=>cS w' (hok.mem 1 _ rfl) (hok.kle rfl rfl hd.hk) hR7) ?_;rintro _ h8 _ ⟨rfl,rfl,hR8⟩;have hR8:G0 k h8 b (C6 (w9 (r6) 14)):=hR8;apply hq';refine nQ [.hp c0,.hp h8,.box b3 [.slice a n c] 27,.box b4 [zs,zs,zl] 96,.box b5 [iQ n] 3,.box b6 [.func (.func 170) #[] #[pQ b3]] 110,.box b7 [sv A.2,sv F.2.1,o.v] 96,.hp o.h,.box b8 [iQ K,sv T,iQ ln,iQ co] 211] λq' hq'=>?_;refine lQ 0 hd.hB ?_;refine k6 (i:=1) rfl (λw0 w' hok=>l6 w' (hok.mem 1 _ rfl) (hok.kle rfl rfl hd.hk) hR8) ?_;rintro _ h9 _ ⟨rfl,hR9⟩;have hR9:G0 k h9 b (s8 (C6 (w9 (r6) 14)) [59]):=hR9;apply hq';rw[eF (w9 (r6) 14) (by rw[<-hP,if_pos (.inr s2)])];exact⟨h9,[.hp o.h],⟨o,rfl,rfl,hO,hR9⟩,pk [0,1,7]⟩
  ·refine nQ [.hp c0,.hp h6,.box b3 [.slice a n c] 27,.box b4 [zs,zs,zl] 96,.box b5 [iQ n] 3,.box b6 [.func (.func 170) #[] #[pQ b3]] 110,.box b7 [sv A.2,sv F.2.1,o.v] 96,.hp o.h,.box b8 [iQ K,sv T,iQ ln,iQ co] 211] λq' hq'=>?_;refine lQ 0 hd.hB ?_;refine k6 (i:=1) rfl (λw0 w' hok=>cS w' (hok.mem 1 _ rfl) (hok.kle rfl rfl hd.hk) hR6) ?_;rintro _ h7 _ ⟨rfl,rfl,hR7⟩;have hR7:G0 k h7 b (C6 (r6)):=hR7;apply hq';refine nQ [.hp c0,.hp h7,.box b3 [.slice a n c] 27,.box b4 [zs,zs,zl] 96,.box b5 [iQ n] 3,.box b6 [.func (.func 170) #[] #[pQ b3]] 110,.box b7 [sv A.2,sv F.2.1,o.v] 96,.hp o.h,.box b8 [iQ K,sv T,iQ ln,iQ co] 211] λq' hq'=>?_;refine lQ 0 hd.hB ?_;refine k6 (i:=1) rfl (λw0 w' hok=>l6 w' (hok.mem 1 _ rfl) (hok.kle rfl rfl hd.hk) hR7) ?_;rintro _ h8 _ ⟨rfl,hR8⟩;have hR8:G0 k h8 b (s8 (C6 (r6)) [59]):=hR8;apply hq';rw[eF (r6) (by rw[<-hP,if_neg (λc=>c.elim s1 s2)])];exact⟨h8,[.hp o.h],⟨o,rfl,rfl,hO,hR8⟩,pk [0,1,7]⟩
end Go.Proofs.YtpjhmeicbjkcdaaGreatDoor
namespace Go.Proofs.YtpjhmeicbjkcdaaGreatDoor
open Go Go.RowKit Go.Dw
set_option maxHeartbeats 4000000 in
set_option maxRecDepth 10000 in
theorem nT {α:Type} {tk:RS->RS×α} {cells:List α->List Value} {k h:Hp} {rb b bx T g:Nat} {r:RS} {n:Nat} {cap:List Value} (w:World) (hin:((Ch.box bx (cells []) T).h.join h).In w) (hdj:(Ch.box bx (cells []) T).h.dj h) (hd:DR ((Hp.whole w).minus ((Ch.box bx (cells []) T).h.join h)) k h rb b r) (hn:n < 1000000)
  (hc :∀w' (out:List α) (r':RS) (h':Hp),out.length < n->((Ch.box bx (cells out) T).h.join h').In w'->(Ch.box bx (cells out) T).h.dj h'->((Hp.whole w).minus ((Ch.box bx (cells []) T).h.join h)).le ((Hp.whole w').minus ((Ch.box bx (cells out) T).h.join h'))->G0 k h' b r'->
   j2 Tryz.prog g (iQ out.length::cap).toArray w' (O3 w' ((Ch.box bx (cells out) T).h.join h') λ_ h2 cs=>∃ys,cs = [.box bx ys T]/\(ys=cells (out++[(tk r').2])/\G0 k h2 b (tk r').1))) :
  j2 Tryz.prog 160 #[pQ rb,iQ n,.func (.func g) #[] cap.toArray] w (O3 w ((Ch.box bx (cells []) T).h.join h) λ_ h' cs=>∃ys,cs = [.box bx ys T]/\(ys=cells (lE tk n r).2/\G0 k h' b (lE tk n r).1)):=by
 have ok0:=Ok.startB hin hdj;refine enterMSZ (cx 32) [pQ rb,iQ n,.func (.func g) #[] cap.toArray] ok0 [] Tryz.func160 ?_;obtain⟨c0,hc0⟩ :∃c0,c0=(Hp.whole w).minus ((Ch.box bx (cells []) T).h.join h):=⟨_,rfl⟩
 rw[<-hc0] at hd hc ⊢;refine lQ 0 hd.hB ?_;refine k6 (i:=1) rfl (λw0 w' hok=>l6 w' (hok.mem 1 _ rfl) (hok.kle rfl rfl hd.hk) hd.hR) ?_;rintro _ h1 _ ⟨rfl,hR1⟩;obtain⟨r1,e1⟩ :∃x,x=s8 r [40]:=⟨_,rfl⟩
 have hR1:G0 k h1 b r1:=by rw[e1];exact hR1
 have hil :∀i,(aD tk i r1).2.length=i:=by
  intro i;induction i with
  | zero=>rfl
  | succ i ih=>show ((aD tk i r1).2++[_]).length=_;rw[d6,ih];rfl
 refine z6.mk (Nat×Hp) (λg'=>[(0,.v (pQ rb)),(2,.v (.func (.func g) #[] cap.toArray)),(12,.v (iQ n)),(13,.v (iQ g'.1))]) (λg'=>[.hp c0,.hp g'.2,.box bx (cells (aD tk g'.1 r1).2) T])
  (λg'=>g'.1<=n/\G0 k g'.2 b (aD tk g'.1 r1).1) (λg'=>n - g'.1) (0,h1) ⟨j0 _,hR1⟩ (y6.mk (λ_ _ h=>h) rfl rfl) ?_
 rintro⟨i,hh⟩ ⟨hi,hRi⟩;dsimp only at hi hRi ⊢;refine d9 (λg1=>?_) λg1=>?_
 ·have hin1:i < n:=om
  have key :∀h2,G0 k h2 b (if 0 < i then s8 (aD tk i r1).1 [44] else (aD tk i r1).1)->∀w0 w',Ok w0 [.hp c0,.hp h2,.box bx (cells (aD tk i r1).2) T] w'->
    j2 Tryz.prog g (iQ i::cap).toArray w' (O3 w' ((Ch.box bx (cells (aD tk i r1).2) T).h.join h2) λ_ h3 cs=>∃ys,cs = [.box bx ys T]/\(ys=cells (aD tk (i+1) r1).2/\G0 k h3 b (aD tk (i+1) r1).1)):=by
   intro h2 hR2 w0 w' hok;have:=hc w' (aD tk i r1).2 _ h2 (by rw[hil];exact hin1) (hok.inJ (i:=2) (j:=1) (c:=.box bx (cells (aD tk i r1).2) T) (d:=.hp h2) rfl rfl) (hok.disj 2 1 _ _ dc rfl rfl) (hok.le2 (i:=2) (j:=1) (m:=0) dc dc rfl rfl rfl) hR2;rw[hil] at this;exact this
  refine d9 (λg2=>?_) λg2=>?_;focus
   refine lQ 0 hd.hB ?_;refine k6 (i:=1) rfl (λw0 w' hok=>l6 w' (hok.mem 1 _ rfl) (hok.kle rfl rfl hd.hk) hRi) ?_;rintro _ h2 _ ⟨rfl,hR2⟩;refine cD [.hp c0,.hp h2,.box bx (cells (aD tk i r1).2) T] rfl ?_;refine oH ?_;refine jN (i:=2) (j:=1) dc rfl rfl (λw0 w' hok=>key h2 (by rw[if_pos om];exact hR2) w0 w' hok) ?_
  rotate_left
  focus
   refine cD [.hp c0,.hp hh,.box bx (cells (aD tk i r1).2) T] rfl ?_;refine oH ?_;refine jN (i:=2) (j:=1) dc rfl rfl (λw0 w' hok=>key hh (by rw[if_neg om];exact hRi) w0 w' hok) ?_
  all_goals
   rintro _ _ h3 ⟨rfl,hR3⟩;refine nwo ?_;exact⟨(i+1,h3),⟨hin1,hR3⟩,by dsimp only;omega,y6.mk (λ_ _ h=>h) rfl rfl⟩
 ·have e:i=n:=om
  subst e;refine lQ 0 hd.hB ?_;refine k6 (i:=1) rfl (λw0 w' hok=>l6 w' (hok.mem 1 _ rfl) (hok.kle rfl rfl hd.hk) hRi) ?_;rintro _ h2 _ ⟨rfl,hR2⟩;have eL:lE tk i r=(s8 (aD tk i r1).1 [41],(aD tk i r1).2):=by unfold lE;rw[<-e1]
  rw[eL];exact⟨h2,[.box bx (cells (aD tk i r1).2) T],⟨_,rfl,rfl,hR2⟩,pk [0,1,2]⟩
end Go.Proofs.YtpjhmeicbjkcdaaGreatDoor
namespace Go.Dw
open Go Go.RowKit
theorem ED {X:Q2} {s:List Ch} (hX:X.Good) {T e len:Nat} {te ti:TI} (ht:G9 X.tt T=some ti) (hk:ti.k=.ar len e) (hte:G9 X.tt e=some te) (h1:te.size=1) {b off:Nat} {k:IntKind} {x:Int} (m:Nat) (hx:x=m) (hm:m < len) {q:TV->Prop}
  (hq:q (.v (.pointer (some ⟨b,0+(off+m),none⟩)))):C9 X.P s (Instr.indexAt T (.pointer (some ⟨b,off,none⟩)) (.int k x)) q:=
 GS hX ht hk hte m hx (Nat.ble_eq_true_of_le hm) (by rw[h1,D7,<-w7 (off+m)];exact hq)
end Go.Dw
namespace Go.Proofs.YtpjhmeicbjkcdaaGreatDoor
open Go Go.RowKit Go.Dw
def tR {α:Type} (f:α->Value) (z:Value) (n:Nat) (out:List α):List Value:=out.map f++m6 (n - out.length) z
theorem jU {α:Type} (f:α->Value) (z:Value) {n:Nat} {out:List α} (h:out.length<=n):(tR f z n out).length=n:=by
 unfold tR;rw[d6,j6,O1];omega
theorem AJ {α:Type} (f:α->Value) (z:Value) {n:Nat} {out:List α} (x:α) (h:out.length < n):(tR f z n out).set out.length (f x)=tR f z n (out++[x]):=by
 unfold tR;obtain⟨m,hm⟩ :∃m,n - out.length=m+1:=⟨n - out.length - 1,om⟩
 rw[hm,sM,LP _ _ (by rw[j6];exact j8 _),j6,bX,List.set_cons_zero,E1,f8,d6];have:n - (out.length+[x].length)=m:=by simp only[d7,i6];omega
 rw[this];rfl
theorem IL {α:Type} (a b c:List α) (i:Nat) (x:α) (h:i < b.length):(a++(b++c)).set (a.length+i) x=a++(b.set i x++c):=by
 rw[LP _ _ (aN _ _),CY,List.set_append_left _ _ h]
section
variable {k h:Hp} {rb b b1 bx:Nat} {r:RS} {xs:List Value}
theorem NB (i:Nat) (w:World) (hin:((Ch.box bx xs 122).h.join h).In w) (hdj:(Ch.box bx xs 122).h.dj h) (hb1:((Hp.whole w).minus ((Ch.box bx xs 122).h.join h)).cell? ⟨b1,0,none⟩=some (pQ rb)) (hd:DR ((Hp.whole w).minus ((Ch.box bx xs 122).h.join h)) k h rb b r) (hi:i < 3) (hx:xs.length=3) :
  j2 Tryz.prog 161 #[iQ i,pQ b1,pQ bx] w (O3 w ((Ch.box bx xs 122).h.join h) λ_ h2 cs=>∃ys,cs = [.box bx ys 122]/\(ys=xs.set (i) (iQ (U2 r (-4096) 4096).2)/\G0 k h2 b (U2 r (-4096) 4096).1)):=by
 have ok0:=Ok.startB hin hdj;refine enterMSZ (cx 11) [iQ i,pQ b1,pQ bx] ok0 [] Tryz.func161 ?_;obtain⟨c0,hc0⟩ :∃c0,c0=(Hp.whole w).minus ((Ch.box bx xs 122).h.join h):=⟨_,rfl⟩
 rw[<-hc0] at hb1 hd ⊢;refine lQ 0 hb1 ?_;refine lQ 0 hd.hB ?_;refine k6 (i:=1) rfl (λw0 w' hok=>uY w' (hok.mem 1 _ rfl) (hok.kle rfl rfl hd.hk) hd.hR) ?_;rintro _ h2 _ ⟨rfl,rfl,hR2⟩;refine ED cQ (T:=122) (e:=3) (len:=3) rfl rfl rfl rfl i rfl hi ?_;refine iW cQ (i:=2) (j:=0+i) rfl rfl rfl om rfl rfl ?_;have ei:0+i=i:=om
 rw[ei];exact⟨h2,[.box bx (xs.set (i) (iQ (U2 r (-4096) 4096).2)) 122],⟨_,rfl,rfl,hR2⟩,pk [0,1,2]⟩
theorem TA (i:Nat) (w:World) (hin:((Ch.box bx xs 93).h.join h).In w) (hdj:(Ch.box bx xs 93).h.dj h) (hb1:((Hp.whole w).minus ((Ch.box bx xs 93).h.join h)).cell? ⟨b1,0,none⟩=some (pQ rb)) (hd:DR ((Hp.whole w).minus ((Ch.box bx xs 93).h.join h)) k h rb b r) (hi:i < 4) (hx:xs.length=9) :
  j2 Tryz.prog 165 #[iQ i,pQ b1,pQ bx] w (O3 w ((Ch.box bx xs 93).h.join h) λ_ h2 cs=>∃ys,cs = [.box bx ys 93]/\(ys=xs.set (2+i) (iQ (U2 r (-12) 12).2)/\G0 k h2 b (U2 r (-12) 12).1)):=by
 have ok0:=Ok.startB hin hdj;refine enterMSZ (cx 13) [iQ i,pQ b1,pQ bx] ok0 [] Tryz.func165 ?_;obtain⟨c0,hc0⟩ :∃c0,c0=(Hp.whole w).minus ((Ch.box bx xs 93).h.join h):=⟨_,rfl⟩
 rw[<-hc0] at hb1 hd ⊢;refine lQ 0 hb1 ?_;refine lQ 0 hd.hB ?_;refine k6 (i:=1) rfl (λw0 w' hok=>uY w' (hok.mem 1 _ rfl) (hok.kle rfl rfl hd.hk) hd.hR) ?_;rintro _ h2 _ ⟨rfl,rfl,hR2⟩;refine ED cQ (T:=87) (e:=3) (len:=4) rfl rfl rfl rfl i rfl hi ?_;refine iW cQ (i:=2) (j:=0+2+0+i) rfl rfl rfl om rfl rfl ?_;have ei:0+2+0+i=2+i:=om
 rw[ei];exact⟨h2,[.box bx (xs.set (2+i) (iQ (U2 r (-12) 12).2)) 93],⟨_,rfl,rfl,hR2⟩,pk [0,1,2]⟩
theorem SZ (i:Nat) (w:World) (hin:((Ch.box bx xs 93).h.join h).In w) (hdj:(Ch.box bx xs 93).h.dj h) (hb1:((Hp.whole w).minus ((Ch.box bx xs 93).h.join h)).cell? ⟨b1,0,none⟩=some (pQ rb)) (hd:DR ((Hp.whole w).minus ((Ch.box bx xs 93).h.join h)) k h rb b r) (hi:i < 3) (hx:xs.length=9) :
  j2 Tryz.prog 166 #[iQ i,pQ b1,pQ bx] w (O3 w ((Ch.box bx xs 93).h.join h) λ_ h2 cs=>∃ys,cs = [.box bx ys 93]/\(ys=xs.set (6+i) (sv (L9 r).2)/\G0 k h2 b (L9 r).1)):=by
 have ok0:=Ok.startB hin hdj;refine enterMSZ (cx 10) [iQ i,pQ b1,pQ bx] ok0 [] Tryz.func166 ?_;obtain⟨c0,hc0⟩ :∃c0,c0=(Hp.whole w).minus ((Ch.box bx xs 93).h.join h):=⟨_,rfl⟩
 rw[<-hc0] at hb1 hd ⊢;refine lQ 0 hb1 ?_;refine k6 (i:=1) rfl (λw0 w' hok=>V0 w' (hok.mem 1 _ rfl) (hd.mono (hok.le01 rfl rfl))) ?_;rintro _ h2 _ ⟨rfl,rfl,hR2⟩;refine ED cQ (T:=89) (e:=38) (len:=3) rfl rfl rfl rfl i rfl hi ?_;refine iW cQ (i:=2) (j:=0+2+4+i) rfl rfl rfl om rfl rfl ?_;have ei:0+2+4+i=6+i:=om
 rw[ei];exact⟨h2,[.box bx (xs.set (6+i) (sv (L9 r).2)) 93],⟨_,rfl,rfl,hR2⟩,pk [0,1,2]⟩
end
end Go.Proofs.YtpjhmeicbjkcdaaGreatDoor
namespace Go.Proofs.YtpjhmeicbjkcdaaGreatDoor
open Go Go.RowKit Go.Dw
theorem NK {b:Nat} {s:d8} (p:V9) (a:Option Addr) (n c:Nat) (w:World) (hc:(Hp.whole w).cell? ⟨b,0,none⟩=some (sv s)):j2 Tryz.prog 164 #[.agg #[sv p.1,iQ p.2.1,.slice a n c],pQ b] w (v8 w (.bool (decide (p.1=s)))):=by
 refine enterZ (cx 8) [.agg #[sv p.1,iQ p.2.1,.slice a n c],pQ b] [.tmp 3] Tryz.func164 ?_;intro b2;refine lQ 0 hc ?_;refine dL ?_;exact⟨[],⟨rfl,rfl⟩,pk [0]⟩
theorem ZU (P:List V9) (s:d8):(P.any λp:V9=>decide (p.1=s))=decide (s∈P.map λp:V9=>p.1):=by
 induction P with
 | nil=>rfl
 | cons y r ih=>
  rw[UX,ih,<-Bool.decide_or,decide_eq_decide,M2,p9];exact⟨λh=>h.imp_left Eq.symm,λh=>h.imp_left Eq.symm⟩
theorem SX {b3:Nat} {a:Option Addr} {n c:Nat} {P:List V9} (s:d8) (w:World) (hc:(Hp.whole w).cell? ⟨b3,0,none⟩=some (.slice a n c)) (hP:Sl cN 3 (Hp.whole w) a n c P) (hn:P.length < 1000000) :
  j2 Tryz.prog 163 #[sv s,pQ b3] w (v8 w (iQ (RF (P.map λp:V9=>p.1) s))):=by
 have hpl:=hP.len;refine enterZ (cx 9) [sv s,pQ b3] [.tmp 3] Tryz.func163 ?_;intro b2;refine lQ 0 hc ?_;refine k7 _ (λw' hm=>cE 164 (pQ b2) (λp:V9=>decide (p.1=s)) w' (hP.mono J0 (hm 0 _ rfl).whole) om (λw2 hi2 p _ cs _ hcs=>by
  obtain⟨a3,n3,c3,rfl⟩:=hcs;exact NK p a3 n3 c3 w2 ((hi2.le (hm 1 _ rfl).whole).whole.cell (bT b2 _ _)))) ?_
 rw[ZU];unfold RF;refine v7 (λg1=>?_) λg1=>?_
 ·rw[if_neg (by simpa using g1)];exact⟨[],⟨rfl,rfl⟩,pk [0]⟩
 ·rw[if_pos (by simpa using g1)];exact⟨[],⟨rfl,rfl⟩,pk [0]⟩
end Go.Proofs.YtpjhmeicbjkcdaaGreatDoor
namespace Go.Proofs.YtpjhmeicbjkcdaaGreatDoor
open Go Go.RowKit Go.Dw
theorem JV {α:Type} (tk:RS->RS×α) :∀n r,(aD tk n r).2.length=n
 | 0,_=>rfl
 | n+1,r=>by show ((aD tk n r).2++[_]).length=_;rw[d6,JV tk n r];rfl
theorem AS {α:Type} (tk:RS->RS×α) (n:Nat) (r:RS):(lE tk n r).2.length=n:=JV tk n _
abbrev vI (x:Int):Value:=iQ x
abbrev vS (x:d8):Value:=sv x
def mI (A B:d8) (C:List Int) (D:List d8):List Value:=[vS A,vS B]++(tR vI (vI 0) 4 C++tR vS (vS []) 3 D)
theorem KC {A B:d8} {C:List Int} {D:List d8} (h1:C.length<=4) (h2:D.length<=3):(mI A B C D).length=9:=by
 unfold mI;rw[d6,d6,jU _ _ h1,jU _ _ h2];rfl
theorem SY {A B:d8} {C:List Int} {D:List d8} (x:Int) (h:C.length < 4):(mI A B C D).set (2+C.length) (vI x)=mI A B (C++[x]) D:=by
 unfold mI;rw[<-AJ vI (vI 0) x h];exact IL [vS A,vS B] _ _ C.length (vI x) (by rw[jU _ _ (lU h)];exact h)
theorem NN {A B:d8} {C:List Int} {D:List d8} (x:d8) (hC:C.length=4) (h:D.length < 3):(mI A B C D).set (6+D.length) (vS x)=mI A B C (D++[x]):=by
 unfold mI;rw[<-AJ vS (vS []) x h];have e:=IL ([vS A,vS B]++tR vI (vI 0) 4 C) (tR vS (vS []) 3 D) [] D.length (vS x) (by rw[jU _ _ (lU h)];exact h);rw[k8,k8,d6,jU _ _ (Nat.le_of_eq hC),f8,f8] at e;exact e
theorem XL {A B:d8} {C:List Int} {D:List d8} (hC:C.length=4) (hD:D.length=3):mI A B C D=fF (A,B,(C.getD 0 0,C.getD 1 0,C.getD 2 0,C.getD 3 0),(D.getD 0 [],D.getD 1 [],D.getD 2 [])):=by
 match C,hC with
 | [a,b,c,d],_=>
  match D,hD with
  | [x,y,z],_=>rfl
set_option maxHeartbeats 4000000 in
set_option maxRecDepth 10000 in
theorem xV {k h:Hp} {rb b:Nat} {r:RS} {a ap:Option Addr} {n c np cp:Nat} {L:List lW} {P:List V9} (w:World) (hin:h.In w) (hd:DR ((Hp.whole w).minus h) k h rb b r) (hL:Sl (E0 fF) 9 ((Hp.whole w).minus h) a n c L) (hn:L.length < 1000000)
  (hP:Sl cN 3 ((Hp.whole w).minus h) ap np cp P) (hpn:P.length < 1000000) :
  j2 Tryz.prog 81 #[pQ rb,.agg #[.slice ap np cp,.slice a n c]] w (UP w k h b (.agg (fF (kA (P.map λp:V9=>p.1) (L.map λx:lW=>x.1) r).2).toArray) (kA (P.map λp:V9=>p.1) (L.map λx:lW=>x.1) r).1):=by
 have hlen:=hL.len;refine enterMZ (cx 56) [pQ rb,.agg #[.slice ap np cp,.slice a n c]] hin [.cell 4 93] Tryz.func81 ?_;obtain⟨c0,hc0⟩ :∃c0,c0=(Hp.whole w).minus h:=⟨_,rfl⟩
 rw[<-hc0] at hd hL hP ⊢;obtain⟨names,hnames⟩ :∃l,l=L.map λx:lW=>x.1:=⟨_,rfl⟩
 rw[<-hnames];have hnl:n=names.length:=by rw[hnames,j6];exact hlen
 obtain⟨parts,hparts⟩ :∃l,l=P.map λp:V9=>p.1:=⟨_,rfl⟩
 rw[<-hparts];intro b2 b3 b4;intro b5;refine m9 λq' hq'=>?_;apply hq';refine nQ [.hp c0,.hp h,.box b2 [pQ rb] 151,.box b3 [.slice ap np cp,.slice a n c] 25,.box b4 [zs,zs,iQ 0,iQ 0,iQ 0,iQ 0,zs,zs,zs] 93,.box b5 [.slice a n c] 23] λq' hq'=>?_;refine k6 (i:=1) rfl (λw0 w' hok=>M6 (n:=names.length) (m:=12) (by rw[hnl]) rfl w' (hok.mem 1 _ rfl) (hd.mono (hok.le01 rfl rfl))) ?_;rintro _ h1 _ ⟨rfl,hR1⟩;have hR1:G0 k h1 b (H6 (r) names.length 12):=hR1;apply hq';refine nQ [.hp c0,.hp h1,.box b2 [pQ rb] 151,.box b3 [.slice ap np cp,.slice a n c] 25,.box b4 [zs,zs,iQ 0,iQ 0,iQ 0,iQ 0,zs,zs,zs] 93,.box b5 [.slice a n c] 23] λq' hq'=>?_;refine lQ 0 hd.hB ?_;refine k6 (i:=1) rfl (λw0 w' hok=>l6 w' (hok.mem 1 _ rfl) (hok.kle rfl rfl hd.hk) hR1) ?_;rintro _ h2 _ ⟨rfl,hR2⟩;have hR2:G0 k h2 b (s8 (H6 (r) names.length 12) dE):=hR2;obtain⟨r2,e2⟩ :∃x,x=s8 (H6 (r) names.length 12) dE:=⟨_,rfl⟩
 rw[<-e2] at hR2;apply hq';obtain⟨A,hA⟩ :∃x,x=L0 (r2) (Z6 names):=⟨_,rfl⟩
 refine u6.cut (Hp×Nat) (λ_=>[(2,.bx 2 0),(3,.bx 3 0),(4,.bx 4 0),(5,.bx 5 0),(6,.bx 6 0)]) (λg=>[.hp c0,.hp g.1,.box b2 [pQ rb] 151,.box b3 [.slice ap np cp,.slice a n c] 25,.box b4 [zs,zs,iQ 0,iQ 0,iQ 0,iQ 0,zs,zs,zs] 93,.box b5 [.slice a n c] 23,.box g.2 [sv A.2,zs,iQ 0,iQ 0,iQ 0,iQ 0,zs,zs,zs] 93]) (λg=>G0 k g.1 b A.1) (u6.by_order0 cQ (.take 0 <| .take 1 <| .take 2 <| .take 3 <| .two 4 (.two 5 (.take 6 <| .run 7 <| .run 8 <| .done) 7 (.run 5 <| .take 6 <| .run 8 <| .done)) 7 (.run 4 <| .run 5 <| .take 6 <| .run 8 <| .done)) kr (J5 _ 1) ?_) ?_
 ·refine⟨?_,?_⟩
  ·refine call (λw' hm=>U4 _ _ _ w') ?_;rintro _ _ ⟨b7,b8,rfl,rfl⟩;refine⟨sK,?_⟩;refine⟨?_,?_⟩
   ·refine k6 (i:=1) rfl (λw0 w' hok=>O6 (cap:=[pQ b7,pQ b8]) (chk:=Z6 names) w' (hok.mem 1 _ rfl) ((hd.to hR2).mono (hok.le01 rfl rfl)) (λw1 hi1 s _=>S2 (cap:=[pQ b5]) s w1 om (by rw[<-hnl];exact hi1.whole.cell (hok.bx1 (j:=6) (n:=0) rfl rfl dc rfl)) (hi1.whole.cell (hok.bx1 (j:=7) (n:=0) rfl rfl dc rfl)) (λw2 hi2 i hi=>by
     have hle:c0.le (Hp.whole w2):=((hok.le01 rfl rfl).trans hi1.whole).trans hi2.whole;subst hnames;exact oB (L:=L) i w2 ((hi1.whole.trans hi2.whole).cell (hok.bx1 (j:=5) (n:=0) rfl rfl dc rfl)) (hL.mono (j7 _) hle) hi))) ?_
    rintro _ h9 _ ⟨rfl,rfl,hR9⟩;rw[<-hA] at hR9 ⊢;refine⟨sK,?_⟩;intro b9;refine⟨sK,?_⟩;exact⟨(h9,b9),hR9,y6.mk (pj [0,1,2,3,4,5,8]) rfl rfl⟩
   ·intro b9;refine⟨sK,?_⟩;refine k6 (i:=1) rfl (λw0 w' hok=>O6 (cap:=[pQ b7,pQ b8]) (chk:=Z6 names) w' (hok.mem 1 _ rfl) ((hd.to hR2).mono (hok.le01 rfl rfl)) (λw1 hi1 s _=>S2 (cap:=[pQ b5]) s w1 om (by rw[<-hnl];exact hi1.whole.cell (hok.bx1 (j:=6) (n:=0) rfl rfl dc rfl)) (hi1.whole.cell (hok.bx1 (j:=7) (n:=0) rfl rfl dc rfl)) (λw2 hi2 i hi=>by
     have hle:c0.le (Hp.whole w2):=((hok.le01 rfl rfl).trans hi1.whole).trans hi2.whole;subst hnames;exact oB (L:=L) i w2 ((hi1.whole.trans hi2.whole).cell (hok.bx1 (j:=5) (n:=0) rfl rfl dc rfl)) (hL.mono (j7 _) hle) hi))) ?_
    rintro _ h9 _ ⟨rfl,rfl,hR9⟩;rw[<-hA] at hR9 ⊢;refine⟨sK,?_⟩;exact⟨(h9,b9),hR9,y6.mk (pj [0,1,2,3,4,5,8]) rfl rfl⟩
  ·intro b9;refine⟨sK,?_⟩;refine call (λw' hm=>U4 _ _ _ w') ?_;rintro _ _ ⟨b7,b8,rfl,rfl⟩;refine⟨sK,?_⟩;refine k6 (i:=1) rfl (λw0 w' hok=>O6 (cap:=[pQ b7,pQ b8]) (chk:=Z6 names) w' (hok.mem 1 _ rfl) ((hd.to hR2).mono (hok.le01 rfl rfl)) (λw1 hi1 s _=>S2 (cap:=[pQ b5]) s w1 om (by rw[<-hnl];exact hi1.whole.cell (hok.bx1 (j:=7) (n:=0) rfl rfl dc rfl)) (hi1.whole.cell (hok.bx1 (j:=8) (n:=0) rfl rfl dc rfl)) (λw2 hi2 i hi=>by
    have hle:c0.le (Hp.whole w2):=((hok.le01 rfl rfl).trans hi1.whole).trans hi2.whole;subst hnames;exact oB (L:=L) i w2 ((hi1.whole.trans hi2.whole).cell (hok.bx1 (j:=5) (n:=0) rfl rfl dc rfl)) (hL.mono (j7 _) hle) hi))) ?_
   rintro _ h9 _ ⟨rfl,rfl,hR9⟩;rw[<-hA] at hR9 ⊢;refine⟨sK,?_⟩;exact⟨(h9,b9),hR9,y6.mk (pj [0,1,2,3,4,5,6]) rfl rfl⟩
 rintro⟨h9,b6⟩ hR9 _;dsimp only at hR9 ⊢;refine nQ [.hp c0,.hp h9,.box b2 [pQ rb] 151,.box b3 [.slice ap np cp,.slice a n c] 25,.box b4 [zs,zs,iQ 0,iQ 0,iQ 0,iQ 0,zs,zs,zs] 93,.box b5 [.slice a n c] 23,.box b6 [sv A.2,zs,iQ 0,iQ 0,iQ 0,iQ 0,zs,zs,zs] 93] λq' hq'=>?_;refine lQ 0 hd.hB ?_;refine k6 (i:=1) rfl (λw0 w' hok=>l6 w' (hok.mem 1 _ rfl) (hok.kle rfl rfl hd.hk) hR9) ?_;rintro _ h10 _ ⟨rfl,hR10⟩;have hR10:G0 k h10 b (s8 (A.1) Fw):=hR10;obtain⟨r10,e10⟩ :∃x,x=s8 (A.1) Fw:=⟨_,rfl⟩
 rw[<-e10] at hR10;apply hq';refine nQ [.hp c0,.hp h10,.box b2 [pQ rb] 151,.box b3 [.slice ap np cp,.slice a n c] 25,.box b4 [zs,zs,iQ 0,iQ 0,iQ 0,iQ 0,zs,zs,zs] 93,.box b5 [.slice a n c] 23,.box b6 [sv A.2,zs,iQ 0,iQ 0,iQ 0,iQ 0,zs,zs,zs] 93] λq' hq'=>?_;refine k6 (i:=1) rfl (λw0 w' hok=>O6 (cap:=[pQ b3]) (chk:=RF parts) w' (hok.mem 1 _ rfl) ((hd.to hR10).mono (hok.le01 rfl rfl)) (λw1 hi1 s _=>by
  rw[hparts];exact SX s w1 (hi1.whole.cell (hok.bx1 (j:=3) (n:=0) rfl rfl dc rfl)) (hP.mono J0 ((hok.le01 rfl rfl).trans hi1.whole)) hpn)) ?_
 rintro _ h11 _ ⟨rfl,rfl,hR11⟩;obtain⟨B,hB⟩ :∃x,x=L0 (r10) (RF parts):=⟨_,rfl⟩
 rw[<-hB] at hR11 ⊢;apply hq';refine nQ [.hp c0,.hp h11,.box b2 [pQ rb] 151,.box b3 [.slice ap np cp,.slice a n c] 25,.box b4 [zs,zs,iQ 0,iQ 0,iQ 0,iQ 0,zs,zs,zs] 93,.box b5 [.slice a n c] 23,.box b6 (mI A.2 B.2 [] []) 93] λq' hq'=>?_;refine lQ 0 hd.hB ?_;refine k6 (i:=1) rfl (λw0 w' hok=>l6 w' (hok.mem 1 _ rfl) (hok.kle rfl rfl hd.hk) hR11) ?_;rintro _ h12 _ ⟨rfl,hR12⟩;have hR12:G0 k h12 b (s8 (B.1) zE):=hR12;obtain⟨r12,e12⟩ :∃x,x=s8 (B.1) zE:=⟨_,rfl⟩
 rw[<-e12] at hR12;apply hq';refine nQ [.hp c0,.hp h12,.box b2 [pQ rb] 151,.box b3 [.slice ap np cp,.slice a n c] 25,.box b4 [zs,zs,iQ 0,iQ 0,iQ 0,iQ 0,zs,zs,zs] 93,.box b5 [.slice a n c] 23,.box b6 (mI A.2 B.2 [] []) 93] λq' hq'=>?_;refine jN (i:=6) (j:=1) dc rfl rfl (λw0 w' hok=>nT (tk:=λr=>U2 r (-12) 12) (cells:=λo=>mI A.2 B.2 o []) (n:=4) (cap:=[pQ b2,pQ b6]) w' (hok.inJ (i:=6) (j:=1) (c:=.box b6 (mI A.2 B.2 [] []) 93) (d:=.hp h12) rfl rfl) (hok.disj 6 1 _ _ dc rfl rfl) ((hd.to hR12).mono (hok.le2 (i:=6) (j:=1) (m:=0) dc dc rfl rfl rfl)) dc (λw1 out r' h' ho hi1 hd1 hle hR'=>by
  have hl0:=(hok.le2 (i:=6) (j:=1) (m:=0) dc dc rfl rfl rfl).trans hle;have hl2:=(hok.le2 (i:=6) (j:=1) (m:=2) dc dc rfl rfl rfl).trans hle;have:=TA (b1:=b2) out.length w1 hi1 hd1 (hl2.cell (I0 b2 (cs:=[pQ rb]) _ rfl)) ((hd.to hR').mono hl0) ho (KC (lU ho) (j0 _));rw[SY _ ho] at this;exact this)) ?_
 rintro _ _ h13 ⟨rfl,hR13⟩;obtain⟨C,hC⟩ :∃x,x=lE (λr=>U2 r (-12) 12) 4 (r12):=⟨_,rfl⟩
 have lC:C.2.length=4:=by rw[hC];exact AS _ _ _
 rw[<-hC] at hR13 ⊢;apply hq';refine nQ [.hp c0,.hp h13,.box b2 [pQ rb] 151,.box b3 [.slice ap np cp,.slice a n c] 25,.box b4 [zs,zs,iQ 0,iQ 0,iQ 0,iQ 0,zs,zs,zs] 93,.box b5 [.slice a n c] 23,.box b6 (mI A.2 B.2 C.2 []) 93] λq' hq'=>?_;refine lQ 0 hd.hB ?_;refine k6 (i:=1) rfl (λw0 w' hok=>l6 w' (hok.mem 1 _ rfl) (hok.kle rfl rfl hd.hk) hR13) ?_;rintro _ h14 _ ⟨rfl,hR14⟩;have hR14:G0 k h14 b (s8 (C.1) wO):=hR14;obtain⟨r14,e14⟩ :∃x,x=s8 (C.1) wO:=⟨_,rfl⟩
 rw[<-e14] at hR14;apply hq';refine nQ [.hp c0,.hp h14,.box b2 [pQ rb] 151,.box b3 [.slice ap np cp,.slice a n c] 25,.box b4 [zs,zs,iQ 0,iQ 0,iQ 0,iQ 0,zs,zs,zs] 93,.box b5 [.slice a n c] 23,.box b6 (mI A.2 B.2 C.2 []) 93] λq' hq'=>?_;refine jN (i:=6) (j:=1) dc rfl rfl (λw0 w' hok=>nT (tk:=L9) (cells:=λo=>mI A.2 B.2 C.2 o) (n:=3) (cap:=[pQ b2,pQ b6]) w' (hok.inJ (i:=6) (j:=1) (c:=.box b6 (mI A.2 B.2 C.2 []) 93) (d:=.hp h14) rfl rfl) (hok.disj 6 1 _ _ dc rfl rfl) ((hd.to hR14).mono (hok.le2 (i:=6) (j:=1) (m:=0) dc dc rfl rfl rfl)) dc (λw1 out r' h' ho hi1 hd1 hle hR'=>by
  have hl0:=(hok.le2 (i:=6) (j:=1) (m:=0) dc dc rfl rfl rfl).trans hle;have hl2:=(hok.le2 (i:=6) (j:=1) (m:=2) dc dc rfl rfl rfl).trans hle;have:=SZ (b1:=b2) out.length w1 hi1 hd1 (hl2.cell (I0 b2 (cs:=[pQ rb]) _ rfl)) ((hd.to hR').mono hl0) ho (KC (Nat.le_of_eq lC) (lU ho));rw[NN _ lC ho] at this;exact this)) ?_
 rintro _ _ h15 ⟨rfl,hR15⟩;obtain⟨D,hD⟩ :∃x,x=lE (L9) 3 (r14):=⟨_,rfl⟩
 have lD:D.2.length=3:=by rw[hD];exact AS _ _ _
 rw[<-hD] at hR15 ⊢;apply hq';refine nQ [.hp c0,.hp h15,.box b2 [pQ rb] 151,.box b3 [.slice ap np cp,.slice a n c] 25,.box b4 [zs,zs,iQ 0,iQ 0,iQ 0,iQ 0,zs,zs,zs] 93,.box b5 [.slice a n c] 23,.box b6 (mI A.2 B.2 C.2 D.2) 93] λq' hq'=>?_;rw[XL lC lD];have eI:kA parts names r=(s8 D.1 [59],(A.2,B.2,(C.2.getD 0 0,C.2.getD 1 0,C.2.getD 2 0,C.2.getD 3 0),(D.2.getD 0 [],D.2.getD 1 [],D.2.getD 2 []))):=by
  unfold kA;dsimp only;rw[<-e2,<-hA,<-e10,<-hB,<-e12,<-hC,<-e14,<-hD]
 refine lQ 0 hd.hB ?_;refine k6 (i:=1) rfl (λw0 w' hok=>l6 w' (hok.mem 1 _ rfl) (hok.kle rfl rfl hd.hk) hR15) ?_;rintro _ h16 _ ⟨rfl,hR16⟩;have hR16:G0 k h16 b (s8 (D.1) [59]):=hR16;apply hq';rw[eI];exact⟨h16,[],⟨rfl,rfl,hR16⟩,pk [0,1]⟩
end Go.Proofs.YtpjhmeicbjkcdaaGreatDoor
namespace Go.Dw
open Go Go.RowKit
abbrev Jd (sz:Nat):={ l:List Value // l.length=sz/\Z7 l=true }
def aR {α:Type} (R:yV α) (T sz:Nat) (H:Hp) (o:Os) (L:List α):Prop:=
 ∃C:List (Jd sz),w5 (λc:Jd sz=>c.1) T sz o C/\C.length=L.length/\∀i (h1:i < L.length) (h2:i < C.length),R H L[i] C[i].1
section
variable {α:Type} {R:yV α} {T sz:Nat} {H K:Hp} {o:Os} {L:List α}
theorem aR.nil:aR R T sz H Os.nil []:=⟨[],w5.nil _ _ _,rfl,λ_ h1=>absurd h1 (M1 _)⟩
theorem aR.mono (hR:CA R) (hl:H.le K):aR R T sz H o L->aR R T sz K o L
 | ⟨C,h1,h2,h3⟩=>⟨C,h1,h2,λi a b=>hR _ _ _ _ hl (h3 i a b)⟩
theorem aR.len:aR R T sz H o L->o.n=L.length
 | ⟨_,h1,h2,_⟩=>h1.len.trans h2
theorem aR.sl (hR:CA R) (h0:0 < sz) (hl:H.le K) (ho:o.h.le K):aR R T sz H o L->Sl R sz K o.a o.n o.c L
 | ⟨C,h1,h2,h3⟩=>by
  have hs:=h1.sl (λc=>c.2.1) h0;refine⟨hs.len.trans h2,hs.cap,λi hi=>?_⟩;obtain⟨b,off,cs,e1,e2,e3,e4⟩:=hs.cells i (by rw[h2];exact hi);have e3:cs=(C[i]'(by rw[h2];exact hi)).1:=e3;subst e3;exact⟨b,off,_,e1,e2,hR _ _ _ _ hl (h3 i hi _),λj v hj=>ho.cell (e4 j v hj)⟩
end
theorem qM {X:Q2} {s:List Ch} {α:Type} {R:yV α} (hX:X.Good) {T e ty:Nat} {te:TI} (hT:bQ X T=some (e,te)) {i:Nat} {o:Os} (hi:l7 s i=some (.hp o.h)) {H:Hp} {L:List α}
  (hg:HG s->aR R e te.size H o L) {j b e':Nat} (x:α) (cs:List Value) (hj:l7 s j=some (.box b cs e')) (hf:cs.length=te.size) (h1:Z7 cs=true)
  (hby:P9 te.bytes 140=true) (hn:L.length < 1000000000000) {q:TV->List Ch->Prop}
  (hx:HG s->R H x cs)
  (hq :∀o',HG s->aR R e te.size H o' (L++[x])->q (.v o'.v) (w8 s i (.hp o'.h))) :
  uV X.P s #[T,T] ty o.v (.bs j 1) q:=by
 by_cases hs:HG s
 ·obtain⟨C,c1,c2,c3⟩:=hg hs;refine gZ (f:=λc:Jd te.size=>c.1) hX hT hi c1 ⟨cs,hf,h1⟩ hj hf h1 hby om λo' ho'=>hq o' hs ⟨C++[⟨cs,hf,h1⟩],ho',by simp[c2],λk k1 k2=>?_⟩;by_cases hk:k < L.length
  ·rw[List.getElem_append_left hk,List.getElem_append_left om];exact c3 k hk om
  ·have e1:k=L.length:=by rw[d6] at k1;simp only[d7,i6] at k1;omega
   subst e1;rw[List.getElem_concat_length rfl];have e2:(C++[(⟨cs,hf,h1⟩:Jd te.size)])[L.length]=⟨cs,hf,h1⟩:=List.getElem_concat_length c2.symm _;rw[e2];exact hx hs
 ·exact⟨.slice (some ⟨b,0,none⟩) 1 1,by simp[TV.val,hj],⟨λw0 w hok=>absurd ⟨w0,w,hok⟩ hs⟩⟩
end Go.Dw
namespace Go.Proofs.YtpjhmeicbjkcdaaGreatDoor
open Go Go.RowKit Go.Dw
theorem PU {r:RS} {c m:Nat} (h:m<=c):(H6 r c m).e≠0:=by
 unfold H6;rw[if_pos h];exact aK r dc
section
variable {r:RS} {cnt:Nat}
theorem Fx (he:r.e=0->cU r.ts) (h:S7 r [40]=true) (cnt:Nat):G2 (HY (H6 r cnt 16)).1 < G2 r:=by
 refine p8 ?_ (rK (c:=cnt) (m:=16) he h);exact ((o7.itm (λr=>o7.int r (-4096) 4096) 3 (s8 (H6 r cnt 16) [40])).trans (o7.exp _ _)).rem
theorem ZT (h:S7 r [40]=true) (hc:cnt<=16\/(cnt<=17/\r.e≠0)):cnt+1<=16\/(cnt+1<=17/\(HY (H6 r cnt 16)).1.e≠0):=by
 have h0:r.e=0:=(P5 h).1;have hc:cnt<=16:=hc.elim id (λc=>absurd h0 c.2);by_cases h6:cnt=16
 ·exact .inr ⟨om,(o7.ver _).bad (PU om)⟩
 ·exact .inl om
theorem If (he:r.e=0->cU r.ts) (h:S7 r eH=true) (cnt:Nat):G2 (s8 (celV r cnt).1 [59]) < G2 r:=by
 refine p8 ?_ (rK (c:=cnt) (m:=6) he h);exact ((o7.vrs _ (s8 (H6 r cnt 6) eH) []).trans (o7.exp _ _)).rem
theorem Ds (h:S7 r eH=true) (hc:cnt<=6\/(cnt<=7/\r.e≠0)):cnt+1<=6\/(cnt+1<=7/\(s8 (celV r cnt).1 [59]).e≠0):=by
 have h0:r.e=0:=(P5 h).1;have hc:cnt<=6:=hc.elim id (λc=>absurd h0 c.2);by_cases h6:cnt=6
 ·refine .inr ⟨om,?_⟩;have a:o7 (H6 r cnt 6) (s8 (celV r cnt).1 [59]):=((o7.exp _ eH).trans (o7.vrs _ _ [])).trans (o7.exp _ _);exact a.bad (PU om)
 ·exact .inl om
end
theorem Mk {C:List Int} (h:C.length=3):tR vI (vI 0) 3 C=ZK (C.getD 0 0,C.getD 1 0,C.getD 2 0):=by
 match C,h with
 | [a,b,c],_=>rfl
set_option maxHeartbeats 4000000 in
set_option maxRecDepth 10000 in
theorem JB {k h:Hp} {rb b:Nat} {r:RS} {a:Option Addr} {n c:Nat} {L:List V9} (w:World) (hin:h.In w) (hd:DR ((Hp.whole w).minus h) k h rb b r) (hL:Sl cN 3 ((Hp.whole w).minus h) a n c L) (hn:L.length < 1000000) :
  j2 Tryz.prog 80 #[pQ rb,.slice a n c] w (O3 w h λv h' cs=>∃o H,cs = [.hp H,.hp o.h]/\(v=.agg #[sv (dM (L.map λx:V9=>x.1) r).2.1,iQ (dM (L.map λx:V9=>x.1) r).2.2.1,o.v]/\aR GW 86 1 H o (dM (L.map λx:V9=>x.1) r).2.2.2/\G0 k h' b (dM (L.map λx:V9=>x.1) r).1)):=by
 have hlen:=hL.len;refine enterMZ (cx 91) [pQ rb,.slice a n c] hin [.cell 4 83] Tryz.func80 ?_;obtain⟨c0,hc0⟩ :∃c0,c0=(Hp.whole w).minus h:=⟨_,rfl⟩
 rw[<-hc0] at hd hL ⊢;obtain⟨names,hnames⟩ :∃l,l=L.map λx:V9=>x.1:=⟨_,rfl⟩
 rw[<-hnames];have hnl:n=names.length:=by rw[hnames,j6];exact hlen
 intro b2 b3 b4;refine m9 λq' hq'=>?_;apply hq';refine nQ [.hp c0,.hp h,.box b2 [pQ rb] 151,.box b3 [.slice a n c] 22,.box b4 [zs,iQ 0,zl] 83] λq' hq'=>?_;refine k6 (i:=1) rfl (λw0 w' hok=>M6 (n:=names.length) (m:=64) (by rw[hnl]) rfl w' (hok.mem 1 _ rfl) (hd.mono (hok.le01 rfl rfl))) ?_;rintro _ h1 _ ⟨rfl,hR1⟩;have hR1:G0 k h1 b (H6 (r) names.length 64):=hR1;apply hq';refine nQ [.hp c0,.hp h1,.box b2 [pQ rb] 151,.box b3 [.slice a n c] 22,.box b4 [zs,iQ 0,zl] 83] λq' hq'=>?_;refine lQ 0 hd.hB ?_;refine k6 (i:=1) rfl (λw0 w' hok=>l6 w' (hok.mem 1 _ rfl) (hok.kle rfl rfl hd.hk) hR1) ?_;rintro _ h2 _ ⟨rfl,hR2⟩;have hR2:G0 k h2 b (s8 (H6 (r) names.length 64) S9):=hR2;obtain⟨r2,e2⟩ :∃x,x=s8 (H6 (r) names.length 64) S9:=⟨_,rfl⟩
 rw[<-e2] at hR2;apply hq';obtain⟨A,hA⟩ :∃x,x=L0 (r2) (Z6 names):=⟨_,rfl⟩
 refine u6.cut (Hp×Nat) (λ_=>[(2,.bx 2 0),(3,.bx 3 0),(4,.bx 4 0),(5,.bx 5 0)]) (λg=>[.hp c0,.hp g.1,.box b2 [pQ rb] 151,.box b3 [.slice a n c] 22,.box b4 [zs,iQ 0,zl] 83,.box g.2 [sv A.2,iQ 0,zl] 83]) (λg=>G0 k g.1 b A.1) (u6.by_order0 cQ (.take 0 <| .take 1 <| .take 2 <| .take 3 <| .two 4 (.two 5 (.take 6 <| .run 7 <| .run 8 <| .done) 7 (.run 5 <| .take 6 <| .run 8 <| .done)) 7 (.run 4 <| .run 5 <| .take 6 <| .run 8 <| .done)) kr (J5 _ 1) ?_) ?_
 ·refine⟨?_,?_⟩
  ·refine call (λw' hm=>U4 _ _ _ w') ?_;rintro _ _ ⟨b7,b8,rfl,rfl⟩;refine⟨sK,?_⟩;refine⟨?_,?_⟩
   ·refine k6 (i:=1) rfl (λw0 w' hok=>O6 (cap:=[pQ b7,pQ b8]) (chk:=Z6 names) w' (hok.mem 1 _ rfl) ((hd.to hR2).mono (hok.le01 rfl rfl)) (λw1 hi1 s _=>S2 (cap:=[pQ b3]) s w1 om (by rw[<-hnl];exact hi1.whole.cell (hok.bx1 (j:=5) (n:=0) rfl rfl dc rfl)) (hi1.whole.cell (hok.bx1 (j:=6) (n:=0) rfl rfl dc rfl)) (λw2 hi2 i hi=>by
     have hle:c0.le (Hp.whole w2):=((hok.le01 rfl rfl).trans hi1.whole).trans hi2.whole;subst hnames;exact nP (L:=L) i w2 ((hi1.whole.trans hi2.whole).cell (hok.bx1 (j:=3) (n:=0) rfl rfl dc rfl)) (hL.mono J0 hle) hi))) ?_
    rintro _ h9 _ ⟨rfl,rfl,hR9⟩;rw[<-hA] at hR9 ⊢;refine⟨sK,?_⟩;intro b9;refine⟨sK,?_⟩;exact⟨(h9,b9),hR9,y6.mk (pj [0,1,2,3,4,7]) rfl rfl⟩
   ·intro b9;refine⟨sK,?_⟩;refine k6 (i:=1) rfl (λw0 w' hok=>O6 (cap:=[pQ b7,pQ b8]) (chk:=Z6 names) w' (hok.mem 1 _ rfl) ((hd.to hR2).mono (hok.le01 rfl rfl)) (λw1 hi1 s _=>S2 (cap:=[pQ b3]) s w1 om (by rw[<-hnl];exact hi1.whole.cell (hok.bx1 (j:=5) (n:=0) rfl rfl dc rfl)) (hi1.whole.cell (hok.bx1 (j:=6) (n:=0) rfl rfl dc rfl)) (λw2 hi2 i hi=>by
     have hle:c0.le (Hp.whole w2):=((hok.le01 rfl rfl).trans hi1.whole).trans hi2.whole;subst hnames;exact nP (L:=L) i w2 ((hi1.whole.trans hi2.whole).cell (hok.bx1 (j:=3) (n:=0) rfl rfl dc rfl)) (hL.mono J0 hle) hi))) ?_
    rintro _ h9 _ ⟨rfl,rfl,hR9⟩;rw[<-hA] at hR9 ⊢;refine⟨sK,?_⟩;exact⟨(h9,b9),hR9,y6.mk (pj [0,1,2,3,4,7]) rfl rfl⟩
  ·intro b9;refine⟨sK,?_⟩;refine call (λw' hm=>U4 _ _ _ w') ?_;rintro _ _ ⟨b7,b8,rfl,rfl⟩;refine⟨sK,?_⟩;refine k6 (i:=1) rfl (λw0 w' hok=>O6 (cap:=[pQ b7,pQ b8]) (chk:=Z6 names) w' (hok.mem 1 _ rfl) ((hd.to hR2).mono (hok.le01 rfl rfl)) (λw1 hi1 s _=>S2 (cap:=[pQ b3]) s w1 om (by rw[<-hnl];exact hi1.whole.cell (hok.bx1 (j:=6) (n:=0) rfl rfl dc rfl)) (hi1.whole.cell (hok.bx1 (j:=7) (n:=0) rfl rfl dc rfl)) (λw2 hi2 i hi=>by
    have hle:c0.le (Hp.whole w2):=((hok.le01 rfl rfl).trans hi1.whole).trans hi2.whole;subst hnames;exact nP (L:=L) i w2 ((hi1.whole.trans hi2.whole).cell (hok.bx1 (j:=3) (n:=0) rfl rfl dc rfl)) (hL.mono J0 hle) hi))) ?_
   rintro _ h9 _ ⟨rfl,rfl,hR9⟩;rw[<-hA] at hR9 ⊢;refine⟨sK,?_⟩;exact⟨(h9,b9),hR9,y6.mk (pj [0,1,2,3,4,5]) rfl rfl⟩
 rintro⟨h9,b5⟩ hR9 _;dsimp only at hR9 ⊢;refine nQ [.hp c0,.hp h9,.box b2 [pQ rb] 151,.box b3 [.slice a n c] 22,.box b4 [zs,iQ 0,zl] 83,.box b5 [sv A.2,iQ 0,zl] 83] λq' hq'=>?_;refine lQ 0 hd.hB ?_;refine k6 (i:=1) rfl (λw0 w' hok=>l6 w' (hok.mem 1 _ rfl) (hok.kle rfl rfl hd.hk) hR9) ?_;rintro _ h10 _ ⟨rfl,hR10⟩;have hR10:G0 k h10 b (s8 (A.1) zF):=hR10;obtain⟨r10,e10⟩ :∃x,x=s8 (A.1) zF:=⟨_,rfl⟩
 rw[<-e10] at hR10;apply hq';refine nQ [.hp c0,.hp h10,.box b2 [pQ rb] 151,.box b3 [.slice a n c] 22,.box b4 [zs,iQ 0,zl] 83,.box b5 [sv A.2,iQ 0,zl] 83] λq' hq'=>?_;refine lQ 0 hd.hB ?_;refine k6 (i:=1) rfl (λw0 w' hok=>uY (lo:=1) (hi:=1048576) w' (hok.mem 1 _ rfl) (hok.kle rfl rfl hd.hk) hR10) ?_;rintro _ h11 _ ⟨rfl,rfl,hR11⟩;have hR11:G0 k h11 b ((U2 (r10) 1 1048576).1):=hR11;obtain⟨B,hB⟩ :∃x,x=U2 (r10) 1 1048576:=⟨_,rfl⟩
 rw[<-hB] at hR11 ⊢;apply hq';refine nQ [.hp c0,.hp h11,.box b2 [pQ rb] 151,.box b3 [.slice a n c] 22,.box b4 [zs,iQ 0,zl] 83,.box b5 [sv A.2,iQ B.2,zl] 83] λq' hq'=>?_;refine lQ 0 hd.hB ?_;refine k6 (i:=1) rfl (λw0 w' hok=>l6 w' (hok.mem 1 _ rfl) (hok.kle rfl rfl hd.hk) hR11) ?_;rintro _ h12 _ ⟨rfl,hR12⟩;have hR12:G0 k h12 b (s8 (B.1) [123]):=hR12;obtain⟨r12,e12⟩ :∃x,x=s8 (B.1) [123]:=⟨_,rfl⟩
 rw[<-e12] at hR12;apply hq';obtain⟨tot,htot⟩ :∃x,x=kL (G2 r12) r12 []:=⟨_,rfl⟩
 refine z6.mk (RS×List (List V3)×Hp×Dw.Os×Hp) (λ_=>[(2,.bx 2 0),(3,.bx 3 0),(4,.bx 4 0),(5,.bx 5 0)]) (λg=>[.hp c0,.hp g.2.2.1,.box b2 [pQ rb] 151,.box b3 [.slice a n c] 22,.box b4 [zs,iQ 0,zl] 83,.box b5 [sv A.2,iQ B.2,g.2.2.2.1.v] 83,.hp g.2.2.2.2,.hp g.2.2.2.1.h])
  (λg=>G0 k g.2.2.1 b g.1/\aR GW 86 1 g.2.2.2.2 g.2.2.2.1 g.2.1/\(∃f,G2 g.1<=f/\kL f g.1 g.2.1=tot)/\(g.2.1.length<=6\/(g.2.1.length<=7/\g.1.e≠0))) (λg=>G2 g.1) (r12,[],h12,Dw.Os.nil,Hp.emp)
  ⟨hR12,aR.nil,⟨G2 r12,j8 _,htot.symm⟩,.inl (j0 _)⟩ (y6.mk (λ_ _ h=>h.emp.emp) rfl rfl) ?_
 rintro⟨rr,out,hh,oo,H⟩ ⟨hRr,hG,⟨f,hf,htr⟩,hcnt⟩;dsimp only at hRr hG hf htr hcnt ⊢;have hRend:rr.e=0->cU rr.ts:=by obtain⟨_,_,_,_,_,hE,_⟩:=hRr;exact hE
 refine nQ [.hp c0,.hp hh,.box b2 [pQ rb] 151,.box b3 [.slice a n c] 22,.box b4 [zs,iQ 0,zl] 83,.box b5 [sv A.2,iQ B.2,oo.v] 83,.hp H,.hp oo.h] λq' hq'=>?_;refine lQ 0 hd.hB ?_;refine k7 _ (λw' hm=>R1 w' (hm 1 _ rfl) (hd.hk.trans (hm 0 _ rfl).whole) hRr) ?_;apply hq';refine v7 (λg1=>?_) λg1=>?_
 ·have g1:S7 rr eH=true:=g1;refine nQ [.hp c0,.hp hh,.box b2 [pQ rb] 151,.box b3 [.slice a n c] 22,.box b4 [zs,iQ 0,zl] 83,.box b5 [sv A.2,iQ B.2,oo.v] 83,.hp H,.hp oo.h] λq' hq'=>?_;refine k6 (i:=1) rfl (λw0 w' hok=>M6 (n:=out.length) (m:=6) (by rw[hG.len]) rfl w' (hok.mem 1 _ rfl) ((hd.to hRr).mono (hok.le01 rfl rfl))) ?_;rintro _ h21 _ ⟨rfl,hR21⟩;have hR21:G0 k h21 b (H6 (rr) out.length 6):=hR21;apply hq';refine nQ [.hp c0,.hp h21,.box b2 [pQ rb] 151,.box b3 [.slice a n c] 22,.box b4 [zs,iQ 0,zl] 83,.box b5 [sv A.2,iQ B.2,oo.v] 83,.hp H,.hp oo.h] λq' hq'=>?_;refine lQ 0 hd.hB ?_;refine k6 (i:=1) rfl (λw0 w' hok=>l6 w' (hok.mem 1 _ rfl) (hok.kle rfl rfl hd.hk) hR21) ?_;rintro _ h22 _ ⟨rfl,hR22⟩;have hR22:G0 k h22 b (s8 (H6 (rr) out.length 6) eH):=hR22;obtain⟨r22,e22⟩ :∃x,x=s8 (H6 (rr) out.length 6) eH:=⟨_,rfl⟩
  rw[<-e22] at hR22;apply hq';refine m9 λq' hq'=>?_;intro b6;apply hq';obtain⟨tt,htt⟩ :∃x,x=vD (G2 r22) r22 []:=⟨_,rfl⟩
  refine z6.mk (RS×List V3×Hp×Dw.Os) (λ_=>[(2,.bx 2 0),(3,.bx 3 0),(4,.bx 4 0),(5,.bx 5 0),(6,.bx 8 0)]) (λg=>[.hp c0,.hp g.2.2.1,.box b2 [pQ rb] 151,.box b3 [.slice a n c] 22,.box b4 [zs,iQ 0,zl] 83,.box b5 [sv A.2,iQ B.2,oo.v] 83,.hp H,.hp oo.h,.box b6 [g.2.2.2.v] 86,.hp g.2.2.2.h])
   (λg=>G0 k g.2.2.1 b g.1/\w5 ZK 122 3 g.2.2.2 g.2.1/\(∃f,G2 g.1<=f/\vD f g.1 g.2.1=tt)/\(g.2.1.length<=16\/(g.2.1.length<=17/\g.1.e≠0))) (λg=>G2 g.1) (r22,[],h22,Dw.Os.nil)
   ⟨hR22,w5.nil _ _ _,⟨G2 r22,j8 _,htt.symm⟩,.inl (j0 _)⟩ (y6.mk (λ_ _ h=>h.emp) rfl rfl) ?_
  rintro⟨rv,vs,hv,oi⟩ ⟨hRv,hO,⟨fv,hfv,htv⟩,hcv⟩;dsimp only at hRv hO hfv htv hcv ⊢;have hVend:rv.e=0->cU rv.ts:=by obtain⟨_,_,_,_,_,hE,_⟩:=hRv;exact hE
  refine nQ [.hp c0,.hp hv,.box b2 [pQ rb] 151,.box b3 [.slice a n c] 22,.box b4 [zs,iQ 0,zl] 83,.box b5 [sv A.2,iQ B.2,oo.v] 83,.hp H,.hp oo.h,.box b6 [oi.v] 86,.hp oi.h] λq' hq'=>?_;refine lQ 0 hd.hB ?_;refine k7 _ (λw' hm=>R1 w' (hm 1 _ rfl) (hd.hk.trans (hm 0 _ rfl).whole) hRv) ?_;apply hq';refine v7 (λg2=>?_) λg2=>?_
  ·refine nQ [.hp c0,.hp hv,.box b2 [pQ rb] 151,.box b3 [.slice a n c] 22,.box b4 [zs,iQ 0,zl] 83,.box b5 [sv A.2,iQ B.2,oo.v] 83,.hp H,.hp oo.h,.box b6 [oi.v] 86,.hp oi.h] λq' hq'=>?_;refine k6 (i:=1) rfl (λw0 w' hok=>M6 (n:=vs.length) (m:=16) (by rw[hO.len]) rfl w' (hok.mem 1 _ rfl) ((hd.to hRv).mono (hok.le01 rfl rfl))) ?_;rintro _ h31 _ ⟨rfl,hR31⟩;have hR31:G0 k h31 b (H6 (rv) vs.length 16):=hR31;obtain⟨r31,e31⟩ :∃x,x=H6 (rv) vs.length 16:=⟨_,rfl⟩
   rw[<-e31] at hR31;apply hq';refine nQ [.hp c0,.hp h31,.box b2 [pQ rb] 151,.box b3 [.slice a n c] 22,.box b4 [zs,iQ 0,zl] 83,.box b5 [sv A.2,iQ B.2,oo.v] 83,.hp H,.hp oo.h,.box b6 [oi.v] 86,.hp oi.h] λq' hq'=>?_;intro b7;apply hq';refine nQ [.hp c0,.hp h31,.box b2 [pQ rb] 151,.box b3 [.slice a n c] 22,.box b4 [zs,iQ 0,zl] 83,.box b5 [sv A.2,iQ B.2,oo.v] 83,.hp H,.hp oo.h,.box b6 [oi.v] 86,.hp oi.h,.box b7 (tR vI (vI 0) 3 []) 122] λq' hq'=>?_;refine jN (i:=10) (j:=1) dc rfl rfl (λw0 w' hok=>nT (tk:=λr=>U2 r (-4096) 4096) (cells:=tR vI (vI 0) 3) (n:=3) (cap:=[pQ b2,pQ b7]) w' (hok.inJ (i:=10) (j:=1) (c:=.box b7 (tR vI (vI 0) 3 []) 122) (d:=.hp h31) rfl rfl) (hok.disj 10 1 _ _ dc rfl rfl) ((hd.to hR31).mono (hok.le2 (i:=10) (j:=1) (m:=0) dc dc rfl rfl rfl)) dc (λw1 out r' h' ho hi1 hd1 hle hR'=>by
    have hl0:=(hok.le2 (i:=10) (j:=1) (m:=0) dc dc rfl rfl rfl).trans hle;have hl2:=(hok.le2 (i:=10) (j:=1) (m:=2) dc dc rfl rfl rfl).trans hle;have:=NB (b1:=b2) out.length w1 hi1 hd1 (hl2.cell (I0 b2 (cs:=[pQ rb]) _ rfl)) ((hd.to hR').mono hl0) ho (jU _ _ (lU ho));rw[AJ vI (vI 0) _ ho] at this;exact this)) ?_
   rintro _ _ h32 ⟨rfl,hR32⟩;have lV:(lE (λr=>U2 r (-4096) 4096) 3 r31).2.length=3:=AS _ _ _;obtain⟨V,hV⟩ :∃x,x=HY r31:=⟨_,rfl⟩
   have hV1:(lE (λr=>U2 r (-4096) 4096) 3 r31).1=V.1:=by rw[hV];rfl
   have hV2:tR vI (vI 0) 3 (lE (λr=>U2 r (-4096) 4096) 3 r31).2=ZK V.2:=by rw[Mk lV,hV];rfl
   have hlt:=Fx hVend g2 vs.length;have hcn:=ZT g2 hcv;rw[<-e31,<-hV] at hlt hcn;rw[hV1] at hR32;rw[hV2];apply hq';refine nQ [.hp c0,.hp h32,.box b2 [pQ rb] 151,.box b3 [.slice a n c] 22,.box b4 [zs,iQ 0,zl] 83,.box b5 [sv A.2,iQ B.2,oo.v] 83,.hp H,.hp oo.h,.box b6 [oi.v] 86,.hp oi.h,.box b7 (ZK V.2) 122] λq' hq'=>?_;intro b8;refine gZ (f:=ZK) (o:=oi) (L:=vs) cQ (e:=122) rfl (i:=9) rfl hO V.2 (j:=11) rfl rfl rfl rfl om λo9 hO9=>?_;apply hq';refine⟨(V.1,vs++[V.2],h32,o9),⟨hR32,hO9,?_,?_⟩,hlt,y6.mk (pj [0,1,2,3,4,5,6,7,8,9]) rfl rfl⟩
   ·cases fv with
    | zero=>exact absurd hfv (by have:=kX hVend g2;omega)
    | succ fv=>
     refine⟨fv,by dsimp only;omega,?_⟩;dsimp only;rw[<-htv];show _=vD (fv+1) rv vs
     conv=>rhs;unfold vD
     rw[if_pos g2,<-e31,<-hV]
   ·dsimp only;rw[d6];exact hcn
  ·have eT:tt=(rv,vs):=by
    rw[<-htv];cases fv with
    | zero=>rfl
    | succ fv=>unfold vD;rw[if_neg (λc=>by rw[g2] at c;cases c)]
   have eC:celV rr out.length=(rv,vs):=by
    unfold celV;rw[<-e22,<-htt,eT]
   have hlt:=If hRend g1 out.length;have hcn:=Ds g1 hcnt;rw[eC] at hlt hcn;dsimp only at hlt hcn;refine nQ [.hp c0,.hp hv,.box b2 [pQ rb] 151,.box b3 [.slice a n c] 22,.box b4 [zs,iQ 0,zl] 83,.box b5 [sv A.2,iQ B.2,oo.v] 83,.hp H,.hp oo.h,.box b6 [oi.v] 86,.hp oi.h] λq' hq'=>?_;refine lQ 0 hd.hB ?_;refine k6 (i:=1) rfl (λw0 w' hok=>l6 w' (hok.mem 1 _ rfl) (hok.kle rfl rfl hd.hk) hRv) ?_;rintro _ h41 _ ⟨rfl,hR41⟩;have hR41:G0 k h41 b (s8 (rv) [59]):=hR41;apply hq';refine nQ [.hp c0,.hp h41,.box b2 [pQ rb] 151,.box b3 [.slice a n c] 22,.box b4 [zs,iQ 0,zl] 83,.box b5 [sv A.2,iQ B.2,oo.v] 83,.hp H,.hp oo.h,.box b6 [oi.v] 86,.hp oi.h] λq' hq'=>?_;intro b9;refine qM (R:=GW) (o:=oo) (L:=out) (H:=H.join oi.h) cQ (e:=86) rfl (i:=7) rfl (λhs=>?_) vs [oi.v] (j:=10) rfl rfl rfl rfl om (λhs=>?_) λo9 _ hG9=>?_
   ·exact hG.mono fN (Hp.le_join_l _ _)
   ·obtain⟨w0,w',hok⟩:=hs;exact⟨oi.a,oi.n,oi.c,rfl,(w5.sl (f:=ZK) (sz:=3) (λ_=>rfl) dc hO).mono (j7 _) (Hp.le_join_r (hok.disj 6 9 _ _ dc rfl rfl))⟩
   apply hq';refine⟨(s8 rv [59],out++[vs],h41,o9,H.join oi.h),⟨hR41,hG9,?_,?_⟩,hlt,y6.mk (λ_ _ h=>(Ok.join (h.pick [0,6,9,1,2,3,4,5,7] rfl rfl)).pick [0,2,3,4,5,6,1,7] rfl rfl) rfl rfl⟩
   ·cases f with
    | zero=>exact absurd hf (by have:=kX hRend g1;omega)
    | succ f=>
     refine⟨f,by dsimp only;omega,?_⟩;dsimp only;rw[<-htr];show _=kL (f+1) rr out
     conv=>rhs;unfold kL
     rw[if_pos g1,eC]
   ·dsimp only;rw[d6];exact hcn
 ·have g1:S7 rr eH=false:=g1;have eT:tot=(rr,out):=by
   rw[<-htr];cases f with
   | zero=>rfl
   | succ f=>unfold kL;rw[if_neg (λc=>by rw[g1] at c;cases c)]
  have eP:dM names r=(s8 rr [125],(A.2,B.2,out)):=by
   unfold dM;dsimp only;rw[<-e2,<-hA,<-e10,<-hB,<-e12,<-htot,eT]
  refine nQ [.hp c0,.hp hh,.box b2 [pQ rb] 151,.box b3 [.slice a n c] 22,.box b4 [zs,iQ 0,zl] 83,.box b5 [sv A.2,iQ B.2,oo.v] 83,.hp H,.hp oo.h] λq' hq'=>?_;refine lQ 0 hd.hB ?_;refine k6 (i:=1) rfl (λw0 w' hok=>l6 w' (hok.mem 1 _ rfl) (hok.kle rfl rfl hd.hk) hRr) ?_;rintro _ h51 _ ⟨rfl,hR51⟩;have hR51:G0 k h51 b (s8 (rr) [125]):=hR51;apply hq';rw[eP];exact⟨h51,[.hp H,.hp oo.h],⟨oo,H,rfl,rfl,hG,hR51⟩,pk [0,1,6,7]⟩
end Go.Proofs.YtpjhmeicbjkcdaaGreatDoor
namespace Go.Dw
open Go Go.RowKit
theorem pC {s:List Ch} {c x:Ch} {k:Nat} (h:l7 s k=some x):l7 (s++[c]) k=some x:=by
 have:k < s.length:=by rw[I7] at h;exact (p6.1 h).1
 rw[G3,if_pos this];exact h
theorem DE {s:List Ch} {c x d:Ch} {k:Nat} (h:l7 s k=some x):w8 (s++[c]) k d=w8 s k d++[c]:=by
 have:k < s.length:=by rw[I7] at h;exact (p6.1 h).1
 rw[S0,S0,List.set_append_left _ _ this]
theorem pS {P:Program} {s:List Ch} {i j b f T:Nat} {xs:List Value} {k:Hp} {args:List Value} {R:Value->List Value->Hp->Hp->Prop} {q:TV->List Ch->Prop} (hij:i≠j) (hi:l7 s i=some (.box b xs T)) (hj:l7 s j=some (.hp k))
  (hc :∀w0 w,Ok w0 s w->j2 P f args.toArray w (O3 w ((Ch.box b xs T).h.join k) λv h' cs=>∃ys H,cs = [.box b ys T,.hp H]/\R v ys h' H))
  (hq :∀v ys k' H,R v ys k' H->q (.v v) (w8 (w8 s i (.box b ys T)) j (.hp k')++[.hp H])):P4 P s f args q:=by
 refine⟨λw0 w hok=>⟨(hc w0 w hok).1,(hc w0 w hok).2.mono λe w' he=>?_⟩⟩;obtain⟨v,k',cs,rfl,h0,ys,H,rfl,hR⟩:=he;have hdj:(Ch.box b ys T).h.dj k':=h0.disj 2 1 _ _ dc rfl rfl;have h1:Ok w [.hp ((Hp.whole w).minus ((Ch.box b xs T).h.join k)),.hp ((Ch.box b ys T).h.join k'),.hp H] w':=Ok.join (d:=.box b ys T) (e:=.hp k') (s:=[.hp H]) (h0.pick [0,2,1,3] rfl rfl);have a1:=hok.exch (c':=.hp ((Ch.box b xs T).h.join k)) (d':=.hp Hp.emp) hij hi hj (λn x hx=>by
  have hx:((Ch.box b xs T).h.join k) n=some x:=hx;unfold Hp.join at hx;split at hx
  ·rename_i y hy;rw[hy];exact .inl hx
  ·exact .inr hx) (λk x hx=>by cases hx) (λk=>.inr rfl)
 have g1:l7 (w8 (w8 s i (.hp ((Ch.box b xs T).h.join k))) j (.hp Hp.emp)) i=some (.hp ((Ch.box b xs T).h.join k)):=by
  rw[E6,if_neg hij.symm,E6,if_pos rfl,hi];rfl
 have a2:=a1.callM g1 h1;have g2:l7 (w8 (w8 (w8 s i (.hp ((Ch.box b xs T).h.join k))) j (.hp Hp.emp)) i (.hp ((Ch.box b ys T).h.join k'))) i=some (.hp ((Ch.box b ys T).h.join k')):=by
  rw[E6,if_pos rfl,g1];rfl
 have g3:l7 (w8 (w8 (w8 s i (.hp ((Ch.box b xs T).h.join k))) j (.hp Hp.emp)) i (.hp ((Ch.box b ys T).h.join k'))) j=some (.hp Hp.emp):=by
  rw[E6,if_neg hij,E6,if_pos rfl,E6,if_neg hij,hj];rfl
 have a3:=a2.exch (c':=.box b ys T) (d':=.hp k') hij (pC g2) (pC g3) (λn x hx=>.inl (Hp.le_join_l _ _ n x hx)) (λn x hx=>.inl (Hp.le_join_r hdj n x hx)) hdj;have g4:l7 (w8 (w8 (w8 (w8 s i (.hp ((Ch.box b xs T).h.join k))) j (.hp Hp.emp)) i (.hp ((Ch.box b ys T).h.join k'))) i (.box b ys T)) j=some (.hp Hp.emp):=by
  rw[E6,if_neg hij];exact g3
 rw[DE g2,DE g4] at a3;have e :∀(a c:Ch) (d e f:Ch),w8 (w8 (w8 (w8 (w8 s i a) j c) i d) i e) j f=w8 (w8 s i e) j f:=by
  intro a c d e f;simp only[S0];refine O0 λn=>?_;simp only[N9,M3];by_cases hj':j=n
  ·subst hj';simp
  ·simp only[hj',if_false];by_cases hi':i=n
   ·subst hi';simp
   ·simp[hi']
 rw[e] at a3;refine⟨v,_,rfl,a3,?_,hq v ys k' H hR⟩;refine ((I5.set hi (c':=.box b ys T) (λb' cs T e=>by cases e;exact⟨_,_,rfl⟩)).trans ?_).trans (I5.app _ _);exact I5.set (i:=j) (c:=.hp k) (by rw[E6,if_neg hij,hj]) (λb' cs T e=>by cases e)
end Go.Dw
namespace Go.Proofs.YtpjhmeicbjkcdaaGreatDoor
open Go Go.RowKit Go.Dw
def Bh (D:List O7) (x:Ex):d8×Int:=if Bt D≠0 then ([],Bt D) else if AZ D.length x≠0 then ([],AZ D.length x) else FA (H7 (H3 D) 8 x)
theorem Gz {op:Int} (h:1<=op/\op<=5):jQ op≠[]:=by
 have:op=1\/op=2\/op=3\/op=4\/op=5:=om
 rcases this with rfl | rfl | rfl | rfl | rfl <;> decide
theorem Cx {n:Int} {nm:Int->d8} :∀{d:Nat} {x:Ex},UY n d x->H7 nm d x≠[]
 | 0,_,h=>h.elim
 | d+1,.mk op f fac args,h=>by
  show (if op=0 then fD nm f else _)≠[]
  by_cases h0:op=0
  ·rw[if_pos h0];unfold fD;simp
  ·rw[if_neg h0];intro c;exact Gz (AM h0 h.1).1 (List.append_eq_nil_iff.1 c).1
set_option maxRecDepth 10000 in
theorem BX {ad:Option Addr} {nd cd e:Nat} {D:List O7} {x:Ex} {cs:List Value} (w:World) (hD:Sl (E0 P2) 4 (Hp.whole w) ad nd cd D) (hx:bE e (Hp.whole w) x cs) (hs:RA x) (hn:D.length < 1000000) (hdn :∀d∈D,d.1.length < 1000000) (hlen:(H7 (H3 D) 8 x).length < 1000000000) :
  j2 Tryz.prog 19 #[.slice ad nd cd,.agg cs.toArray] w (v8 w (.tuple #[sv (Bh D x).1,iQ (Bh D x).2])):=by
 match e,hx with
 | e+1,hx=>
 obtain⟨op,f,fac,args⟩:=x;have hx':=hx;obtain⟨a,n,c,a1,n1,c1,rfl,hf,ha⟩:=hx;have hdl:=hD.len;refine enterZ (cx 30) [.slice ad nd cd,.agg #[iQ op,sv f.1,.slice a n c,sv fac,.slice a1 n1 c1]] [.tmp 4,.tmp 5] Tryz.func19 ?_;intro b3;refine k7 _ (λw' hm=>yA w' (hD.mono (j7 _) (hm 0 _ rfl).whole) hn) ?_;unfold Bh;refine d9 (λh1=>?_) λh1=>?_
 ·rw[if_pos h1];exact⟨[],⟨rfl,rfl⟩,pk [0]⟩
 rw[if_neg h1];refine k7 _ (λw' hm=>CC w' om hs (D6 _ _ _ _ _ (hm 0 _ rfl).whole hx')) ?_;rw[<-hdl];refine d9 (λh2=>?_) λh2=>?_
 ·rw[if_pos h2];exact⟨[],⟨rfl,rfl⟩,pk [0]⟩
 rw[if_neg h2];have hg:UY D.length 8 (.mk op f fac args):=uH 8 0 _ (by rw[<-hdl];exact B9.1 h2);have hne:=Cx (nm:=H3 D) hg;intro b22;refine P4.emp (Kn (i:=2) (j:=3) (c:=0) (d:=8) (o:=Dw.Os.nil) (t:=[]) dc rfl rfl rfl dc dc (.inl rfl) (w5.nil _ _ _) hx' hD hg hs hdn (by rw[i6];omega) (λv fl' o' hfl ho=>?_));rw[I4] at ho;refine Jo (i:=2) (j:=3) dc rfl rfl hfl ho hne λys k'=>?_;exact⟨[],⟨rfl,rfl⟩,pk [0]⟩
end Go.Proofs.YtpjhmeicbjkcdaaGreatDoor
namespace Go.Proofs.YtpjhmeicbjkcdaaGreatDoor
open Go
def Mb (z:Int):Prop:=z.natAbs < 10 ^ 200
theorem pA {z:Int} (h:z.natAbs < 18446744073709551616):Mb z:=Nat.lt_trans h dc
structure ZC (p:V9):Prop where
 n:D8 p.1=true
 d:1<=p.2.1/\p.2.1<=1048576
 c:p.2.2.length<=6
 v :∀c∈p.2.2,c.length<=16/\∀v∈c,(-4096<=v.1/\v.1<=4096)/\(-4096<=v.2.1/\v.2.1<=4096)/\(-4096<=v.2.2/\v.2.2<=4096)
theorem ZL {n m:Int} (h:aF n m=false) : -m<=n/\n<=m:=by
 unfold aF at h;rw[O9,decide_eq_false_iff_not,decide_eq_false_iff_not] at h;omega
theorem Bu {names:List d8} {s:d8} (h:xT names s=0):D8 s=true/\s∉names:=by
 unfold xT at h;split at h
 ·exact absurd h dc
 ·rename_i h1
  split at h
  ·exact absurd h dc
  ·rename_i h2
   exact⟨by cases hh:D8 s with | true=>rfl | false=>exact absurd hh h1,h2⟩
theorem cY {a b:Int} (h:qB a b=0):a=0/\b=0:=by
 unfold qB at h;split at h
 ·rename_i h1;exact absurd h h1
 ·rename_i h1;exact⟨B9.1 h1,h⟩
theorem WH {p:V9} (hn:D8 p.1=true) (h:xR p=0):ZC p:=by
 unfold xR at h;split at h
 ·exact absurd h dc
 ·rename_i h1
  split at h
  ·exact absurd h dc
  ·rename_i h2
   refine⟨hn,om,om,λc hc=>?_⟩;obtain⟨i,hi,rfl⟩:=qQ.1 hc;have:=Y4.1 h i hi;rw[e8,i7 hi] at this;have this:LE p.2.2[i]=0:=this;unfold LE at this;split at this
   ·exact absurd this dc
   ·rename_i h3
    split at this
    ·exact absurd this dc
    ·rename_i h4
     refine⟨om,λv hv=>?_⟩;have h5:vE v=false:=by
      cases hh:vE v with
      | false=>rfl
      | true=>exact absurd (E5.2 ⟨v,hv,hh⟩) h4
     unfold vE at h5;rw[O9,O9] at h5;exact⟨ZL h5.1,ZL h5.2.1,ZL h5.2.2⟩
structure ZE (parts:List d8) (x:lW):Prop where
 n:D8 x.1=true
 p:x.2.1∈parts
 t:(-12<=x.2.2.1.1/\x.2.2.1.1<=12)/\(-12<=x.2.2.1.2.1/\x.2.2.1.2.1<=12)/\(-12<=x.2.2.1.2.2.1/\x.2.2.1.2.2.1<=12)/\(-12<=x.2.2.1.2.2.2/\x.2.2.1.2.2.2<=12)
 s:H5 x.2.2.2.1=0/\H5 x.2.2.2.2.1=0/\H5 x.2.2.2.2.2=0
theorem XK {parts:List d8} {x:lW} (hn:D8 x.1=true) (h:xX parts x=0):ZE parts x:=by
 unfold xX at h;split at h
 ·exact absurd h dc
 ·rename_i h1
  split at h
  ·exact absurd h dc
  ·rename_i h2
   have h2:=Bool.not_eq_true _ ▸ h2;rw[O9,O9,O9] at h2;obtain⟨a,b⟩:=cY h;obtain⟨b,c⟩:=cY b;exact⟨hn,B9.1 h1,⟨ZL h2.1,ZL h2.2.1,ZL h2.2.2.1,ZL h2.2.2.2⟩,a,b,c⟩
structure ZG (d:O7):Prop where
 n:D8 d.1=true
 r:(-1073741824<=d.2.1/\d.2.1<=1073741824)/\(-1073741824<=d.2.2.1/\d.2.2.1<=1073741824)/\(-1073741824<=d.2.2.2/\d.2.2.2<=1073741824)
 o:d.2.2.1<=d.2.2.2
theorem YL {d:O7} (hn:D8 d.1=true) (h:xZ d=0):ZG d:=by
 unfold xZ at h;split at h
 ·exact absurd h dc
 ·rename_i h2
  split at h
  ·exact absurd h dc
  ·rename_i h3
   have h2:=Bool.not_eq_true _ ▸ h2;rw[O9,O9] at h2;exact⟨hn,⟨ZL h2.1,ZL h2.2.1,ZL h2.2.2⟩,om⟩
structure ZB (n:Int) (r:kP):Prop where
 nm:D8 r.1=true
 g:AZ n r.2.1=0
 l:r.2.2.1 = []\/H5 r.2.2.1=0
 h:r.2.2.2 = []\/H5 r.2.2.2=0
 o:r.2.2.1≠[]->r.2.2.2≠[]->¬ dI r.2.2.2*dJ r.2.2.1 < dI r.2.2.1*dJ r.2.2.2
theorem VZ {n:Int} {r:kP} (hn:D8 r.1=true) (h:xP n r=0):ZB n r:=by
 unfold xP at h;obtain⟨a,b⟩:=cY h;obtain⟨b,c⟩:=cY b;obtain⟨c,d⟩:=cY c;refine⟨hn,a,?_,?_,λh1 h2 h3=>?_⟩
 ·by_cases e:r.2.2.1 = []
  ·exact .inl e
  ·rw[if_neg e] at b;exact .inr b
 ·by_cases e:r.2.2.2 = []
  ·exact .inl e
  ·rw[if_neg e] at c;exact .inr c
 ·rw[if_pos ⟨⟨h1,h2⟩,h3⟩] at d;exact absurd d dc
structure vY (p:kR):Prop where
 gn:D8 p.nm=true
 gp:p.parts.length<=64/\∀i (h:i < p.parts.length),ZC p.parts[i]/\p.parts[i].1∉(p.parts.take i).map (·.1)
 gi:p.insts.length<=12/\∀i (h:i < p.insts.length),ZE (p.parts.map (·.1)) p.insts[i]/\p.insts[i].1∉(p.insts.take i).map (·.1)
 gd:p.dims.length<=64/\∀i (h:i < p.dims.length),ZG p.dims[i]/\p.dims[i].1∉(p.dims.take i).map (·.1)
 gc:p.cons.length<=64/\∀i (h:i < p.cons.length),(D8 p.cons[i].1=true/\mT p.dims.length p.cons[i].2)/\p.cons[i].1∉(p.cons.take i).map (·.1)
 gr:p.reqs.length<=64/\∀i (h:i < p.reqs.length),ZB p.dims.length p.reqs[i]/\p.reqs[i].1∉(p.reqs.take i).map (·.1)
theorem nV {α:Type} {most:Nat} {l:List α} {nm:α->d8} {f:α->Int} {Q:α->Prop} (hQ :∀x,D8 (nm x)=true->f x=0->Q x) (h:bA most l nm f=0):l.length<=most/\∀i (h:i < l.length),Q l[i]/\nm l[i]∉(l.take i).map nm:=by
 unfold bA at h;split at h
 ·exact absurd h dc
 ·rename_i h1
  refine⟨om,λi hi=>?_⟩;have:=Y4.1 h i hi;rw[i7 hi] at this;obtain⟨a,b⟩:=cY this;obtain⟨a,c⟩:=Bu a;exact⟨hQ _ a b,c⟩
theorem AH {p:kR} (h:LD p=0):vY p:=by
 unfold LD at h;split at h
 ·exact absurd h dc
 ·rename_i h1
  obtain⟨a,h⟩:=cY h;obtain⟨b,h⟩:=cY h;obtain⟨c,h⟩:=cY h;obtain⟨d,e⟩:=cY h;exact⟨by cases hh:D8 p.nm with | true=>rfl | false=>exact absurd hh h1,nV (λx=>WH) a,nV (λx=>XK) b,nV (λx=>YL) c,nV (Q:=λx:kT=>D8 x.1=true/\mT p.dims.length x.2) (λx h1 h2=>⟨h1,KK h2⟩) d,nV (λx=>VZ) e⟩
theorem L6 {α:Type} {l:List α} {Q:α->Prop} {R :∀i,i < l.length->Prop} (h :∀i (h:i < l.length),Q l[i]/\R i h) :∀x∈l,Q x:=λx hx=>by
 obtain⟨i,hi,rfl⟩:=qQ.1 hx;exact (h i hi).1
theorem lG {α:Type} {g:α->List R0} {t:α->d8} {l:List α} (h :∀x∈l,U6 (g x)=t x):U6 (l.flatMap g)=l.flatMap t:=by
 rw[XH,oU,oU,aG h]
theorem Ce (v:V3):U6 (HZ v)=mZ v:=by
 unfold HZ mZ;rw[B0,JX,GT];rfl
theorem Co (c:List V3):U6 (CR c)=lM c:=by
 unfold CR lM;rw[B0,B0,B0,M7,lG (λv _=>Ce v),xY];rfl
theorem Ci {p:V9} (g:ZC p):U6 (tN p)=iZ p:=by
 unfold tN iZ;rw[B0,B0,B0,B0,B0,B0,M7,XG,B0,B0,B0,M7,lG (λc _=>Co c),xA g.n,xY,xY,rU];rfl
theorem Ec {p:V9} (g:ZC p) (r:d8):Z1 (tN p) r:=by
 refine⟨xW dc (aS.sp _ _),mD,Er g.n (aS.sp _ _),mD,xW dc (aS.sp _ _),mD,Z1.app (LI (pA (by have:=g.d;omega)) (aS.sp _ _)) ⟨mD,vC dc _,Fm,Z1.app (dX λc hc r=>?_) ⟨vC dc _,Fm,trivial⟩⟩⟩;refine⟨mD,mD,xW dc ?_,Z1.app (dX λv hv r=>⟨mD,LJ λz hz=>?_⟩) ⟨vC dc _,Fm,trivial⟩⟩
 ·cases c with
  | nil=>exact aS.sy dc _ _
  | cons v c=>exact aS.sp _ _
 ·obtain⟨h1,h2,h3⟩:=(g.v c hc).2 v hv;refine pA ?_;simp only[p9,G4,or_false] at hz;rcases hz with rfl | rfl | rfl <;> omega
theorem Cl {parts:List d8} (hp :∀s∈parts,D8 s=true) {x:lW} (g:ZE parts x):U6 (rO x)=jI x:=by
 unfold rO jI;simp only[B0,M7,JX,PZ,W0,xY,rU,GT,xA g.n,xA (hp _ g.p)];simp[dE,Fw,zE,wO]
theorem Ee {parts:List d8} (hp :∀s∈parts,D8 s=true) {x:lW} (g:ZE parts x) (r:d8):Z1 (rO x) r:=by
 refine⟨xW dc (aS.sp _ _),mD,Er g.n (aS.sp _ _),mD,xW dc (aS.sp _ _),mD,Er (hp _ g.p) (aS.sp _ _),mD,xW dc (aS.sp _ _),mD,Z1.app (LJ λz hz=>?_) ⟨mD,xW dc (aS.sp _ _),mD,vC dc _,
  Z1.app (EQ g.s.1 (aS.sy dc _ _)) ⟨vC dc _,mD,Z1.app (EQ g.s.2.1 (aS.sy dc _ _)) ⟨vC dc _,mD,Z1.app (EQ g.s.2.2 (aS.sy dc _ _)) ⟨vC dc _,vC dc _,Fm,trivial⟩⟩⟩⟩⟩
 obtain⟨h1,h2,h3,h4⟩:=g.t;refine pA ?_;simp only[p9,G4,or_false] at hz;rcases hz with rfl | rfl | rfl | rfl <;> omega
theorem Cm {d:O7} (g:ZG d):U6 (qI d)=lK d:=by
 unfold qI lK;simp only[B0,M7,XG,W0,xY,rU,GT,xA g.n];simp[Z8]
theorem Ef {d:O7} (g:ZG d) (r:d8):Z1 (qI d) r:=by
 obtain⟨h1,h2,h3⟩:=g.r;exact⟨xW dc (aS.sp _ _),mD,Er g.n (aS.sp _ _),mD,vC dc _,mD,Z1.app (LI (pA om) (aS.sp _ _)) ⟨mD,vC dc _,Z1.app (LI (pA om) (aS.sy dc _ _)) ⟨vC dc _,mD,Z1.app (LI (pA om) (aS.sy dc _ _)) ⟨vC dc _,vC dc _,Fm,trivial⟩⟩⟩⟩
theorem NS {dims:List O7} (hd :∀d∈dims,D8 d.1=true) {i:Int} (h0:0<=i) (h1:i < dims.length):D8 (dims.getD i.toNat ([],0,0,0)).1=true:=by
 have:i.toNat < dims.length:=om
 rw[e8,i7 this];exact hd _ (j5 this)
theorem YJ {dims:List O7} (hd :∀d∈dims,D8 d.1=true) {i:Int} (h0:0<=i) (h1:i < dims.length):rM (qH dims i)=H3 dims i:=xA (NS hd h0 h1)
theorem YK {dims:List O7} (hd :∀d∈dims,D8 d.1=true) {i:Int} (h0:0<=i) (h1:i < dims.length) (r:d8) (hr:aS r):cB (qH dims i) r:=Er (NS hd h0 h1) hr
theorem Cn {dims:List O7} (hd :∀d∈dims,D8 d.1=true) {c:kT} (hn:D8 c.1=true) (g:mT dims.length c.2):U6 (oM dims c)=mP dims c:=by
 unfold oM mP;have e:=QA (nm:=qH dims) (nt:=H3 dims) (f:=c.2) λt ht=>YJ hd (g.all t ht).1.1 (g.all t ht).1.2;simp only[B0,M7,e,W0,xY,Kk,NP,GT,xA hn];simp[Y8]
theorem Eg {dims:List O7} (hd :∀d∈dims,D8 d.1=true) {c:kT} (hn:D8 c.1=true) (g:mT dims.length c.2) (r:d8):Z1 (oM dims c) r:=
 ⟨xW dc (aS.sp _ _),mD,Er hn (aS.sy dc _ _),vC dc _,mD,Z1.app (QW g.c (λt ht=>YK hd (g.all t ht).1.1 (g.all t ht).1.2) λt ht=>(g.all t ht).2)
  ⟨mD,.sym2 _ dc,mD,Ft ⟨1,⟨dc,[48],[],dc,dc,rfl,.inl rfl⟩,dc⟩ (aS.sy dc _ _),vC dc _,Fm,trivial⟩⟩
theorem Ck (w x:d8):U6 (mH w x)=if x = [] then [] else 32::(w++32::x):=by
 unfold mH;split
 ·rfl
 ·rw[B0,B0,B0,PZ,xY];rfl
theorem QV {w x r:d8} (hw:OR w=true) (hx:x = []\/H5 x=0) (hr:aS r):Z1 (mH w x) r:=by
 unfold mH;by_cases h:x = []
 ·rw[if_pos h];exact trivial
 ·rw[if_neg h];exact⟨mD,xW hw (aS.sp _ _),mD,EQ (hx.resolve_left h) hr⟩
theorem Cg {dims:List O7} (hd :∀d∈dims,D8 d.1=true) {q:kP} (g:ZB dims.length q):U6 (mF dims q)=iY dims q:=by
 unfold mF iY;have e:=QB (n:=dims.length) (nm:=qH dims) (nt:=H3 dims) (λi h0 h1=>YJ hd h0 h1) 8 q.2.1 (uH 8 0 _ g.g);simp only[B0,M7,e,Ck,W0,xY,rU,GT,xA g.nm];have e1:(if q.2.2.1 = [] then ([]:d8) else 32::(iG++32::q.2.2.1))=if q.2.2.1 = [] then [] else [32,102,114,111,109,32]++q.2.2.1:=by split <;> rfl
 have e2:(if q.2.2.2 = [] then ([]:d8) else 32::(HW++32::q.2.2.2))=if q.2.2.2 = [] then [] else [32,116,111,32]++q.2.2.2:=by split <;> rfl
 rw[e1,e2];simp[W7]
theorem Eb {dims:List O7} (hd :∀d∈dims,D8 d.1=true) {q:kP} (g:ZB dims.length q) (r:d8):Z1 (mF dims q) r:=by
 have hdel :∀r,aS (U6 (mH HW q.2.2.2++[kS 59,jJ])++r):=λr=>by
  unfold mH;split
  ·exact aS.sy dc _ _
  ·exact aS.sp _ _
 exact⟨xW dc (aS.sp _ _),mD,Er g.nm (aS.sy dc _ _),vC dc _,mD,Z1.app (QX (λi h0 h1=>YK hd h0 h1) 8 q.2.1 _ (uH 8 0 _ g.g))
  (Z1.app (QV dc g.l (hdel r)) (Z1.app (QV dc g.h (aS.sy dc _ _)) ⟨vC dc _,Fm,trivial⟩))⟩
theorem Cj {p:kR} (g:vY p):U6 (SC p)=gH p:=by
 have hp :∀s∈p.parts.map (·.1),D8 s=true:=λs hs=>by
  obtain⟨x,hx,rfl⟩:=y7.1 hs;exact (L6 g.gp.2 x hx).n
 have hd :∀d∈p.dims,D8 d.1=true:=λd h=>(L6 g.gd.2 d h).n;have hc:=L6 (Q:=λx:kT=>D8 x.1=true/\mT p.dims.length x.2) g.gc.2;unfold SC gH Cs;rw[M7,M7,M7,M7,M7,lG (λx hx=>Ci (L6 g.gp.2 x hx)),lG (λx hx=>Cl hp (L6 g.gi.2 x hx)),lG (λx hx=>Cm (L6 g.gd.2 x hx)),
  lG (λx hx=>Cn hd (hc x hx).1 (hc x hx).2),lG (λx hx=>Cg hd (L6 g.gr.2 x hx))]
 simp only[B0,W0,xY,rU,GT,xA g.gn];simp[fY]
theorem Ed {p:kR} (g:vY p) (r:d8):Z1 (SC p) r:=by
 have hp :∀s∈p.parts.map (·.1),D8 s=true:=λs hs=>by
  obtain⟨x,hx,rfl⟩:=y7.1 hs;exact (L6 g.gp.2 x hx).n
 have hd :∀d∈p.dims,D8 d.1=true:=λd h=>(L6 g.gd.2 d h).n;have hc:=L6 (Q:=λx:kT=>D8 x.1=true/\mT p.dims.length x.2) g.gc.2;exact Z1.app (A:=Cs p.nm) ⟨xW dc (aS.sp _ _),mD,Er g.gn (aS.sy dc _ _),vC dc _,Fm,trivial⟩ (Z1.app (dX λx hx=>Ec (L6 g.gp.2 x hx)) (Z1.app (dX λx hx=>Ee hp (L6 g.gi.2 x hx)) (Z1.app (dX λx hx=>Ef (L6 g.gd.2 x hx))
  (Z1.app (dX λx hx=>Eg hd (hc x hx).1 (hc x hx).2) (dX λx hx=>Eb hd (L6 g.gr.2 x hx))))))
end Go.Proofs.YtpjhmeicbjkcdaaGreatDoor
namespace Go.Proofs.YtpjhmeicbjkcdaaGreatDoor
open Go
def M8 (a:Int) (b:Nat):d8:=
 if b / G8 a.natAbs b=1 then zT (a / (G8 a.natAbs b:Nat)) else zT (a / (G8 a.natAbs b:Nat))++47::Lib.decDigits (b / G8 a.natAbs b)
abbrev Q5:=Int×Int×Int×Int×Int
abbrev Q4:=Int×Int×Int×Int
abbrev Q6:=Int×Int×Int×Int×Int×Int
structure UI where
 nm:Nat
 parts:List Q5
 insts:List Q6
 dims:List (Int×Int×Int)
 cons:List Q4
 gaps:List (List Nat)
def u8 (x:Int):Nat:=(x % 256).toNat
def gP (kind:UInt8) (i how:Nat):d8:=([[],[65],[57],[45]]:List d8).getD (how % 4) []++(kind::UInt8.ofNat (97+i % 26)::([[],[34],[95,49],[92]]:List d8).getD (how / 4 % 4) [])
def xH (x:Q5) (c v:Nat):V3:=(x.2.2.2.1+v,x.2.2.2.2*16,(c:Int) - v)
def dV (x:Q5) (c:Nat):List V3:=(x8 (u8 x.2.2.1 % 4)).map (xH x c)
def dF (how i:Nat) (x:Q5):V9:=(gP 113 i (how / 2),1+(u8 x.1:Int),(x8 (u8 x.2.1 % 3)).map (dV x))
def VT (how:Nat) (l:List Q5):List V9:=(l.take 3).zipIdx.map λp=>dF how p.2 p.1
def bG (how:Nat) (parts:List V9) (i:Nat) (x:Q6):lW:=
 (gP 105 i (how / 4),(parts.getD (u8 x.1 % parts.length) ([],0,[])).1,(x.2.1.tmod 13,x.2.2.1.tmod 13,x.2.2.2.1.tmod 13,x.2.2.2.2.1.tmod 13),(M8 x.2.2.2.2.2 1,M8 (x.2.2.2.2.2+1) 2,M8 (x.2.2.2.2.2+2) 3))
def U0 (how:Nat) (parts:List V9) (l:List Q6):List lW:=if parts = [] then [] else (l.take 3).zipIdx.map λp=>bG how parts p.2 p.1
def eM (how i:Nat) (x:Int×Int×Int):O7:=(gP 100 i (how / 8),x.1*1000,min x.2.1 x.2.2,max x.2.1 x.2.2)
def MK (how:Nat) (l:List (Int×Int×Int)):List O7:=(l.take 4).zipIdx.map λp=>eM how p.2 p.1
def q4 (l:Q4) (i:Nat):Int:=match i with | 0=>l.1 | 1=>l.2.1 | 2=>l.2.2.1 | _=>l.2.2.2
def Z5 (n:Nat) (l:Q4):uZ:=(zT (l.1 - l.2.1),((x8 (min n 4)).filter λi=>decide (q4 l i≠0)).map λi:Nat=>((i:Int),M8 (q4 l i) (1+i)))
def lZ (how n i:Nat) (l:Q4):kT:=(gP 99 i (how / 16),Z5 n l)
def Gj (how n:Nat) (l:List Q4):List kT:=(l.take 2).zipIdx.map λp=>lZ how n p.2 p.1
def kF (l:List Nat) (i:Nat):Int:=if i < l.length then ((l.getD i 0 % 7:Nat):Int) - 3 else 0
def R5 (n:Nat):Nat->List Nat->Ex×List Nat
 | 0,l=>(.mk 0 (Z5 n (kF l 0,kF l 1,kF l 2,kF l 3)) [] [],l.drop 1)
 | d+1,l=>
  if l = []\/l.getD 0 0 % 6=0 then (.mk 0 (Z5 n (kF l 0,kF l 1,kF l 2,kF l 3)) [] [],l.drop 1)
  else
   let op:=l.getD 0 0 % 6
   let a:=R5 n d (l.drop 1)
   if op=2\/op=5\/l.getD 0 0 / 6 % 2=0 then (.mk op ([],[]) (if op=2 then zT ((l.getD 0 0:Int) - 100) else []) [a.1],a.2)
   else (.mk op ([],[]) [] [a.1,(R5 n d a.2).1],(R5 n d a.2).2)
def gC (how n i:Nat) (l:List Nat):kP:=(gP 114 i (how / 32),(R5 n 3 l).1,if l.length % 2=0 then [45,55,47,50] else [],if l.length % 3=0 then [49,49] else [])
def Gi (how n:Nat) (l:List (List Nat)):List kP:=(l.take 2).zipIdx.map λp=>gC how n p.2 p.1
def D4 (k:UI):kR:=⟨gP 112 (k.nm % 5) k.nm,VT k.nm k.parts,U0 k.nm (VT k.nm k.parts) k.insts,MK k.nm k.dims,Gj k.nm (MK k.nm k.dims).length k.cons,Gi k.nm (MK k.nm k.dims).length k.gaps⟩
def i8 (x:Int):Prop:=-128<=x/\x<=127
structure HF (k:UI):Prop where
 n:k.nm < 256
 p :∀x∈k.parts,i8 x.1/\i8 x.2.1/\i8 x.2.2.1/\i8 x.2.2.2.1/\i8 x.2.2.2.2
 i :∀x∈k.insts,i8 x.1/\i8 x.2.1/\i8 x.2.2.1/\i8 x.2.2.2.1/\i8 x.2.2.2.2.1/\i8 x.2.2.2.2.2
 d :∀x∈k.dims,i8 x.1/\i8 x.2.1/\i8 x.2.2
 c :∀x∈k.cons,i8 x.1/\i8 x.2.1/\i8 x.2.2.1/\i8 x.2.2.2
 g :∀l∈k.gaps,∀x∈l,x < 256
theorem dO {kind:UInt8} (hk:kind∈([112,113,105,100,99,114]:d8)) {i:Nat} (hi:i < 26) (how:Nat):D8 (gP kind i how)=true/\(gP kind i how).length<=6:=by
 have key :∀kind∈([112,113,105,100,99,114]:d8),∀i:Fin 26,∀a:Fin 4,∀b:Fin 4,D8 (([[],[65],[57],[45]]:List d8).getD a []++(kind::UInt8.ofNat (97+i % 26)::([[],[34],[95,49],[92]]:List d8).getD b []))=true/\
   (([[],[65],[57],[45]]:List d8).getD a []++(kind::UInt8.ofNat (97+i % 26)::([[],[34],[95,49],[92]]:List d8).getD b [])).length<=6:=by decide +kernel
 exact key kind hk ⟨i,hi⟩ ⟨how % 4,A6 _ dc⟩ ⟨how / 4 % 4,A6 _ dc⟩
theorem Ca {kind:UInt8} {i j how:Nat} (hi:i < 26) (hj:j < 26) (h:gP kind i how=gP kind j how):i=j:=by
 unfold gP at h;have h:=(E8 (E8 (List.append_cancel_left h)).2).1;have e:=congrArg UInt8.toNat h;rw[UInt8.toNat_ofNat',UInt8.toNat_ofNat'] at e;omega
theorem wI {α β:Type} (f:Nat->α->β) (l:List α) {i:Nat} (h:i < (l.zipIdx.map λp=>f p.2 p.1).length) :∃h':i < l.length,(l.zipIdx.map λp=>f p.2 p.1)[i]=f i l[i]:=by
 rw[j6,List.length_zipIdx] at h;refine⟨h,?_⟩;rw[aO,List.getElem_zipIdx];simp
theorem Z2 {α β:Type} (f:Nat->α->β) (l:List α) (m:Nat):((l.take m).zipIdx.map λp=>f p.2 p.1).length<=m:=by
 rw[j6,List.length_zipIdx,j1];omega
theorem yX {α β:Type} {f:Nat->α->β} {nm:β->d8} {kind:UInt8} {how:Nat} (hf :∀i x,nm (f i x)=gP kind i how) {l:List α} {m:Nat} (hm:m<=26) {i:Nat} (h:i < ((l.take m).zipIdx.map λp=>f p.2 p.1).length) :
  nm ((l.take m).zipIdx.map λp=>f p.2 p.1)[i]∉(((l.take m).zipIdx.map λp=>f p.2 p.1).take i).map nm:=by
 intro hm';obtain⟨x,hx,e⟩:=y7.1 hm';obtain⟨j,hj,rfl⟩:=Ou.1 hx;have hl:=Z2 f l m;obtain⟨_,e1⟩:=wI f (l.take m) h;obtain⟨_,e2⟩:=wI f (l.take m) (i:=j) om;rw[e1,e2,hf,hf] at e;have:=Ca om om e;omega
end Go.Proofs.YtpjhmeicbjkcdaaGreatDoor
namespace Go.Proofs.YtpjhmeicbjkcdaaGreatDoor
open Go
def P7 (r:RS) (L:List KT):Prop:=r.e=0/\r.ts.map XC=L++[(5,[])]
theorem P7.peek {r:RS} {x:KT} {L:List KT} (h:P7 r (x::L)):(z8 r).1=x.1/\(z8 r).2.1=x.2:=by
 obtain⟨h0,h1⟩:=h;unfold z8;rw[if_neg (λc=>c h0)];cases hts:r.ts with
 | nil=>rw[hts] at h1;cases h1
 | cons t l=>
  rw[hts] at h1;have:=(E8 h1).1;exact⟨congrArg Prod.fst this,congrArg Prod.snd this⟩
theorem P7.peekE {r:RS} (h:P7 r []):(z8 r).1=5/\(z8 r).2.1 = []:=by
 obtain⟨h0,h1⟩:=h;unfold z8;rw[if_neg (λc=>c h0)];cases hts:r.ts with
 | nil=>rw[hts] at h1;cases h1
 | cons t l=>
  rw[hts] at h1;have:=(E8 h1).1;exact⟨congrArg Prod.fst this,congrArg Prod.snd this⟩
theorem P7.next {r:RS} {x:KT} {L:List KT} (h:P7 r (x::L)) (h5:x.1≠5):P7 (C6 r) L:=by
 have hp:=h.peek.1;obtain⟨h0,h1⟩:=h;unfold C6;rw[if_pos ⟨h0,by rw[hp];exact h5⟩];refine⟨h0,?_⟩;show r.ts.tail.map XC=_
 rw[List.map_tail,h1];rfl
theorem P7.is {r:RS} {x:KT} {L:List KT} (h:P7 r (x::L)) (s:d8):S7 r s=((decide (x.1=1) || decide (x.1=4)) && decide (x.2=s)):=by
 unfold S7;rw[h.peek.1,h.peek.2]
theorem P7.isE {r:RS} (h:P7 r []) (s:d8):S7 r s=false:=by
 unfold S7;rw[h.peekE.1];rfl
theorem P7.isW {r:RS} {w:d8} {L:List KT} (h:P7 r ((1,w)::L)):S7 r w=true:=by rw[h.is];simp
theorem P7.isS {r:RS} {w:d8} {L:List KT} (h:P7 r ((4,w)::L)):S7 r w=true:=by rw[h.is];simp
theorem P7.expW {r:RS} {w:d8} {L:List KT} (h:P7 r ((1,w)::L)):P7 (s8 r w) L:=by
 unfold s8;rw[if_pos h.isW];exact h.next (by decide:(1:Int)≠5)
theorem P7.expS {r:RS} {w:d8} {L:List KT} (h:P7 r ((4,w)::L)):P7 (s8 r w) L:=by
 unfold s8;rw[if_pos h.isS];exact h.next (by decide:(4:Int)≠5)
theorem Hy (r:RS):w9 r 0=r:=by
 unfold w9;split
 ·rfl
 ·exact if_neg (λc=>c rfl)
theorem jF {r:RS} {c m:Nat} (h:c < m):H6 r c m=r:=if_neg om
theorem P7.rem {r:RS} {L:List KT} (h:P7 r L):G2 r=L.length+1:=by
 unfold G2;rw[if_neg (λc=>c h.1)];have:=congrArg H4 h.2;rw[j6,d6] at this;exact this
def P3 {α:Type} (f:RS->RS×α) (I:List KT) (x:α):Prop:=∀r L,P7 r (I++L)->P7 (f r).1 L/\(f r).2=x
theorem yK (s:d8):((rJ s).1=1\/(rJ s).1=3)/\(rJ s).2=s:=by
 unfold rJ;split
 ·exact⟨.inl rfl,rfl⟩
 ·exact⟨.inr rfl,rfl⟩
theorem P3.nam {s:d8} {chk:d8->Int} (hn:D8 s=true) (hc:chk s=0):P3 (λr=>L0 r chk) [rJ s] s:=by
 intro r L h;have h:P7 r (rJ s::L):=h;obtain⟨p1,p2⟩:=h.peek;obtain⟨k1,k2⟩:=yK s;have hC:namC r chk=r:=by
  unfold namC;rw[if_pos (show rN (z8 r) by unfold rN;rw[p1];exact k1),p2,k2,if_neg (by rw[hn];decide),hc,Hy]
 dsimp only;unfold L0;rw[hC];have hk :∀z,z=(rJ s).1->z≠5->P7 (J9 r z).1 L/\(J9 r z).2=s:=by
  intro z hz h5;unfold J9;rw[if_neg (by rw[p1,hz];exact λc=>c rfl)];exact⟨h.next (Bv s),by rw[p2,k2]⟩
 rw[p1];by_cases h3:(rJ s).1=3
 ·rw[if_pos h3];exact hk 3 h3.symm dc
 ·rw[if_neg h3];exact hk 1 (k1.resolve_right h3).symm dc
theorem Cd {x:d8} {sg:Bool} {t:d8} (h:HK x sg t):N6 (nI x)=if sg=true then [(4,[45]),(2,t)] else [(2,t)]:=by
 rw[h.at];split <;> rfl
theorem N8 {x:d8} (h:H5 x=0):x.length<=400:=by
 unfold H5 X9 at h;split at h
 ·exact absurd h dc
 ·omega
theorem P3.numS {x:d8} {sg:Bool} {t:d8} (hs:HK x sg t):P3 X0 (if sg=true then [(4,[45]),(2,t)] else [(2,t)]) x:=by
 intro r L h;have h0:t≠[]:=D1.1 (jW hs.d).1;have key :∀r',P7 r' ((2,t)::L)->J9 r' 2=(C6 r',t)/\P7 (C6 r') L:=by
  intro r' h';obtain⟨p1,p2⟩:=h'.peek;unfold J9;rw[if_neg (by rw[p1];exact λc=>c rfl),p2];exact⟨rfl,h'.next (by decide:(2:Int)≠5)⟩
 unfold X0;cases sg with
 | false=>
  have h:P7 r ((2,t)::L):=h;have hi:S7 r [45]=false:=by rw[h.is];rfl
  obtain⟨k1,k2⟩:=key r h;have e:qU r=r:=by unfold qU R3;simp[hi]
  rw[e,hi,k1];dsimp only;rw[if_neg h0];exact⟨k2,hs.e.symm⟩
 | true=>
  have h:P7 r ((4,[45])::(2,t)::L):=h;have hn:=h.next (by decide:(4:Int)≠5);obtain⟨k1,k2⟩:=key _ hn;have e:qU r=C6 r:=by
   unfold qU R3;rw[if_pos h.isS,if_neg (λc=>hs.z rfl (by rw[<-c.2.2];exact hn.peek.2.symm))]
  rw[e,h.isS,k1];dsimp only;rw[if_neg h0];exact⟨k2,hs.e.symm⟩
theorem P3.num {x:d8} (h:H5 x=0):P3 X0 (N6 (nI x)) x:=by
 obtain⟨sg,t,hs⟩:=pH h;rw[Cd hs];exact P3.numS hs
theorem P3.numb {x:d8} (h:H5 x=0):P3 L9 (N6 (nI x)) x:=by
 intro r L hr;obtain⟨h1,h2⟩:=P3.num h r L hr;unfold L9;rw[h2,if_neg (by have:=N8 h;omega)];exact⟨h1,rfl⟩
theorem ET {z:Int} (hz:z.natAbs < 9223372036854775808):HK (zT z) (decide (z < 0)) (Lib.decDigits z.natAbs):=by
 refine⟨?_,QP (Nat.lt_trans hz dc),λh c=>?_⟩
 ·unfold zT;by_cases h:z < 0
  ·rw[if_pos h,decide_eq_true h];rfl
  ·rw[if_neg h,decide_eq_false h];rfl
 ·have h:=of_decide_eq_true h;have:=(bS z.natAbs).2.1;rw[c] at this;have:(0:Nat)=z.natAbs:=this;omega
theorem Jw {z:Int} (hz:z.natAbs < 9223372036854775808):qA (zT z)=some z:=by
 have hs:=ET hz;obtain⟨d1,d2,d3,d4,d5⟩:=bS z.natAbs;have hl:(Lib.decDigits z.natAbs).length<=20:=d5 20 dc om;obtain⟨k,hk,hc⟩:=hs.d;have hcd:aM (Lib.decDigits z.natAbs)=true:=by
  unfold aM;rw[decide_eq_true d3,D9];rcases u9 z.natAbs with h | h
  ·rw[h,Lib.decDigits_one dc];decide
  ·rw[decide_eq_false (d4 h)];simp
 have ht:NE (Lib.decDigits z.natAbs):=⟨om,_,[],d1,d3,.inl ⟨rfl,hcd⟩⟩
 rw[hs.e,Bi ht hs.z];unfold IB;by_cases h:z < 0
 ·rw[decide_eq_true h];obtain⟨e1,e2,e3⟩:=tQ d1 hcd (hs.z (decide_eq_true h)) om;show (if R4 (45::Lib.decDigits z.natAbs)=0 then _ else _)=_
  rw[if_pos e1];show DF (fB (bH (45::Lib.decDigits z.natAbs)) (P6 (M4 (45::Lib.decDigits z.natAbs))))=_
  rw[e2,e3,d2];have e4:fB true z.natAbs=(-(z.natAbs:Int),true):=by unfold fB;rw[if_pos rfl,if_pos om]
  rw[e4];show some (-(z.natAbs:Int))=_
  congr 1;omega
 ·rw[decide_eq_false h];show (if R4 (Lib.decDigits z.natAbs)=0 then _ else _)=_
  rw[if_pos ((jT d1 d3 om).2 hcd)];show DF (fB (bH (Lib.decDigits z.natAbs)) (P6 (M4 (Lib.decDigits z.natAbs))))=_
  rw[(iJ d1).1,(iJ d1).2,d2];have e4:fB false z.natAbs=((z.natAbs:Int),true):=by unfold fB;rw[if_neg dc,if_pos om]
  rw[e4];show some ((z.natAbs:Int))=_
  congr 1;omega
theorem Ki (z:Int):N6 (zI z)=if decide (z < 0)=true then [(4,[45]),(2,Lib.decDigits z.natAbs)] else [(2,Lib.decDigits z.natAbs)]:=by
 unfold zI;by_cases h:z < 0
 ·rw[if_pos h,decide_eq_true h];rfl
 ·rw[if_neg h,decide_eq_false h];rfl
theorem P3.int {z lo hi:Int} (hz:lo<=z/\z<=hi) (h1 : -9223372036854775807<=lo) (h2:hi<=9223372036854775807):P3 (λr=>U2 r lo hi) (N6 (zI z)) z:=by
 have hz2:z.natAbs < 9223372036854775808:=om
 intro r L h;rw[Ki] at h;obtain⟨n1,n2⟩:=P3.numS (ET hz2) r L h;dsimp only;unfold U2;rw[if_neg (λc=>c n1.1),n2,Jw hz2];dsimp only;rw[if_neg om];exact⟨n1,rfl⟩
theorem EL (x:List R0) :∀(L:List (List R0)),gW (L++[x])=if L = [] then x else gW L++(kS 44::Q1::x)
 | []=>rfl
 | [y]=>rfl
 | y::z::L=>by
  have ih:=EL x (z::L);rw[if_neg sQ] at ih;rw[if_neg sQ];show y++kS 44::Q1::gW ((z::L)++[x])=(y++kS 44::Q1::gW (z::L))++_
  rw[ih,f8];rfl
theorem P3.itm {α:Type} {tk:RS->RS×α} {I:α->List R0} :∀(n:Nat) (xs:List α),xs.length=n->(∀x∈xs,P3 tk (N6 (I x)) x)->P3 (aD tk n) (N6 (gW (xs.map I))) xs
 | 0,xs,hl,_=>by
  have:xs = []:=F7.1 hl;subst this;exact λr L h=>⟨h,rfl⟩
 | n+1,xs,hl,h=>by
  obtain⟨ys,x,rfl⟩ :∃ys x,xs=ys++[x]:=⟨xs.dropLast,xs.getLast (by intro c;rw[c] at hl;cases hl),(List.dropLast_concat_getLast _).symm⟩
  have hyl:ys.length=n:=by rw[d6] at hl;simpa using hl
  have ih:=P3.itm n ys hyl λy hy=>h y (by simp[hy]);have hx:=h x sQ;intro r L hr;rw[E1,List.map_singleton,EL] at hr;unfold aD;by_cases h0:0 < n
  ·have hne:ys.map I≠[]:=by intro c;have:=congrArg H4 c;rw[j6,i6] at this;omega
   rw[if_neg hne,G1,f8] at hr;obtain⟨i1,i2⟩:=ih r _ hr;have i1:P7 (aD tk n r).1 ((4,[44])::(N6 (I x)++L)):=i1;obtain⟨x1,x2⟩:=hx _ L i1.expS;rw[if_pos h0,i2];exact⟨x1,by rw[x2]⟩
  ·have hn:n=0:=om
   subst hn;have hy:ys = []:=F7.1 hyl;subst hy;have hr:P7 r (N6 (I x)++L):=hr;obtain⟨x1,x2⟩:=hx r L hr;rw[if_neg h0];exact⟨x1,by show []++[(tk r).2]=_;rw[x2]⟩
theorem P3.lst {α:Type} {tk:RS->RS×α} {I:α->List R0} {n:Nat} {xs:List α} (hl:xs.length=n) (h :∀x∈xs,P3 tk (N6 (I x)) x):P3 (lE tk n) (N6 (kS 40::(gW (xs.map I)++[kS 41]))) xs:=by
 intro r L hr;have hr:P7 r ((4,[40])::(N6 (gW (xs.map I)++[kS 41])++L)):=hr;have h1:=hr.expS;rw[G1,f8] at h1;obtain⟨i1,i2⟩:=P3.itm n xs hl h _ _ h1;have i1:P7 (aD tk n (s8 r [40])).1 ((4,[41])::L):=i1;exact⟨i1.expS,i2⟩
theorem P3.ver {v:V3} (h:(-4096<=v.1/\v.1<=4096)/\(-4096<=v.2.1/\v.2.1<=4096)/\(-4096<=v.2.2/\v.2.2<=4096)):P3 HY (N6 (HZ v)) v:=by
 intro r L hr;have:=P3.lst (tk:=λr=>U2 r (-4096) 4096) (I:=zI) (n:=3) (xs:=[v.1,v.2.1,v.2.2]) rfl (λx hx=>by
  simp only[p9,G4,or_false] at hx;rcases hx with rfl | rfl | rfl
  ·exact P3.int h.1 dc dc
  ·exact P3.int h.2.1 dc dc
  ·exact P3.int h.2.2 dc dc) r L hr
 unfold HY;rw[this.2];exact⟨this.1,rfl⟩
def vZ (w:d8) (L:List KT):Prop:=∀x∈L.head?,¬ ((x.1=1\/x.1=4)/\x.2=w)
theorem P7.notB {r:RS} {w:d8} {L:List KT} (h:P7 r L) (hn:vZ w L):S7 r w=false:=by
 cases L with
 | nil=>exact h.isE w
 | cons x L=>
  have:=hn x rfl;rw[h.is];cases hh:(decide (x.1=1) || decide (x.1=4)) && decide (x.2=w) with
  | false=>rfl
  | true=>
   rw[j4,Q3,decide_eq_true_eq,decide_eq_true_eq,decide_eq_true_eq] at hh;exact absurd hh this
theorem P3.vrs :∀(c:List V3) (f:Nat) (out:List V3) (r:RS) (L:List KT),c.length<=f->out.length+c.length<=16->(∀v∈c,(-4096<=v.1/\v.1<=4096)/\(-4096<=v.2.1/\v.2.1<=4096)/\(-4096<=v.2.2/\v.2.2<=4096))->vZ [40] L->
  P7 r (N6 (c.flatMap HZ)++L)->P7 (vD f r out).1 L/\(vD f r out).2=out++c
 | [],0,out,r,L,_,_,_,_,hr=>⟨hr,by show out=_;rw[k8]⟩
 | [],f+1,out,r,L,_,_,_,hn,hr=>by
  have hr:P7 r L:=hr;unfold vD;rw[if_neg (by rw[hr.notB hn];decide)];exact⟨hr,by rw[k8]⟩
 | v::c,0,_,_,_,hf,_,_,_,_=>absurd hf sQ
 | v::c,f+1,out,r,L,hf,hl,hv,hn,hr=>by
  rw[d7] at hf hl;rw[u7,G1,f8] at hr;have h4:P7 r ((4,[40])::(N6 (gW ([v.1,v.2.1,v.2.2].map zI)++[kS 41])++(N6 (c.flatMap HZ)++L))):=hr;unfold vD;rw[if_pos h4.isS,jF om];obtain⟨v1,v2⟩:=P3.ver (hv v sQ) r _ hr;have:=P3.vrs c f (out++[v]) _ L om (by rw[d6,p7];omega) (λw hw=>hv w (by simp[hw])) hn v1;rw[v2];exact⟨this.1,by rw[this.2,f8];rfl⟩
theorem pJ {α:Type} {g:α->List R0} (h :∀x,0 < (N6 (g x)).length) :∀l:List α,l.length<=(N6 (l.flatMap g)).length
 | []=>j8 _
 | x::l=>by
  rw[u7,G1,d6,d7];have:=pJ h l;have:=h x;omega
theorem P3.cels :∀(cs:List (List V3)) (f:Nat) (out:List (List V3)) (r:RS) (L:List KT),cs.length<=f->out.length+cs.length<=6->(∀c∈cs,c.length<=16/\∀v∈c,(-4096<=v.1/\v.1<=4096)/\(-4096<=v.2.1/\v.2.1<=4096)/\(-4096<=v.2.2/\v.2.2<=4096))->vZ eH L->
  P7 r (N6 (cs.flatMap CR)++L)->P7 (kL f r out).1 L/\(kL f r out).2=out++cs
 | [],0,out,r,L,_,_,_,_,hr=>⟨hr,by show out=_;rw[k8]⟩
 | [],f+1,out,r,L,_,_,_,hn,hr=>by
  have hr:P7 r L:=hr;unfold kL;rw[if_neg (by rw[hr.notB hn];decide)];exact⟨hr,by rw[k8]⟩
 | v::c,0,_,_,_,hf,_,_,_,_=>absurd hf sQ
 | v::c,f+1,out,r,L,hf,hl,hv,hn,hr=>by
  rw[d7] at hf hl;rw[u7,G1,f8] at hr;have h1:P7 r ((1,eH)::(N6 (v.flatMap HZ++[kS 59,jJ])++(N6 (c.flatMap CR)++L))):=hr;have h2:=h1.expW;unfold kL celV;rw[if_pos h1.isW,jF om];rw[G1,f8] at h2;have hle:v.length<=G2 (s8 r eH):=by
   rw[h2.rem,d6];have:=pJ (g:=HZ) (λv=>E3 _) v;omega
  obtain⟨v1,v2⟩:=P3.vrs v (G2 (s8 r eH)) [] _ _ hle (by have:=(hv v sQ).1;simpa using this) (hv v sQ).2 (λx hx=>by
   have e:x=((4:Int),([59]:d8)):=(M0 hx).symm;subst e;exact λc=>absurd c.2 dc) h2
  have v1:P7 _ ((4,[59])::(N6 (c.flatMap CR)++L)):=v1;have:=P3.cels c f (out++[v]) _ L om (by rw[d6,p7];omega) (λw hw=>hv w (by simp[hw])) hn v1.expS;rw[v2];exact⟨this.1,by rw[I4,this.2,f8];rfl⟩
end Go.Proofs.YtpjhmeicbjkcdaaGreatDoor
namespace Go.Proofs.YtpjhmeicbjkcdaaGreatDoor
open Go
theorem AL {x:d8} {sg:Bool} {t:d8} (h:HK x sg t) (hl:x.length<=400):H5 x=0:=by
 obtain⟨e,⟨k,⟨_,a,b,ha,h0,rfl,ht⟩,hc⟩,hz⟩:=h;unfold H5;cases sg with
 | false=>
  have e:x=t:=e;subst e;rcases ht with rfl | ⟨rfl,hb,hb0⟩
  ·exact (AB ha h0 hl).2 hc
  ·exact (IU ha hb h0 hb0 hl).2 hc
 | true=>
  have e:x=45::t:=e;subst e;rcases ht with rfl | ⟨rfl,hb,hb0⟩
  ·have hcd:aM t=true:=by unfold V8 at hc;rw[if_pos rfl] at hc;exact hc
   obtain⟨p1,p2,p3⟩:=tQ ha hcd (hz rfl) (by rw[d7] at hl;omega);have hd:bR t=true:=by unfold bR;rw[ha,decide_eq_true (D1.1 h0)];rfl
   unfold X9;rw[vL ha,if_neg om];dsimp only;rw[p3,hd,p1,if_neg dc,if_neg sQ,if_neg dc,if_pos rfl]
  ·rw[BP,j4,j4,j4,decide_eq_true_eq,decide_eq_true_eq] at hc;obtain⟨ca,cb,h1,hg⟩:=hc;have ha48:a≠[48]:=λc=>by
    rw[c,show P6 [48]=0 from rfl,Nat.gcd_zero_left] at hg;omega
   rw[d7,d6,d7] at hl;obtain⟨p1,p2,p3⟩:=tQ ha ca ha48 om;have hd:bR a=true:=by unfold bR;rw[ha,decide_eq_true (D1.1 h0)];rfl
   have hdb:bR b=true:=by unfold bR;rw[hb,decide_eq_true (D1.1 hb0)];rfl
   have hzb:b.all (λc=>decide (c=48))=false:=by
    cases hh:b.all λc=>decide (c=48) with
    | false=>rfl
    | true=>have:=(BG hb).2 hh;omega
   have hpb:R4 b=0:=(jT hb hb0 om).2 cb;have hda:P6 (M4 (45::a))=P6 a:=by rw[p3]
   unfold X9;rw[zS ha,if_neg (by rw[d7,d6,d7];omega)];dsimp only;rw[p3,hd,hdb,hzb,p1,hpb,if_neg dc,if_neg dc,if_neg dc,if_neg dc,if_neg];intro c;rcases c with c | c | c
   ·exact c rfl
   ·omega
   ·exact c hg
theorem KX (n:Nat):aM (Lib.decDigits n)=true:=by
 obtain⟨d1,d2,d3,d4,d5⟩:=bS n;unfold aM;rw[decide_eq_true d3,D9];rcases u9 n with h | h
 ·rw[h,Lib.decDigits_one dc];decide
 ·rw[decide_eq_false (d4 h)];simp
theorem yS {n k:Nat} (hk:0 < k) (h:n < 10 ^ k):(Lib.decDigits n).length<=k:=(bS n).2.2.2.2 k hk h
theorem mW {z:Int} {k:Nat} (hk:0 < k) (h:z.natAbs < 10 ^ k):(zT z).length<=k+1:=by
 have:=yS hk h;unfold zT;split
 ·rw[d7];omega
 ·omega
theorem WS {z:Int} (hz:z.natAbs < 1000000000000):H5 (zT z)=0:=AL (ET om) (by have:=mW (z:=z) (k:=12) dc hz;omega)
theorem ZO {z:Int} (h:zT z = [48]):z=0:=by
 unfold zT at h;split at h
 ·exact absurd (E8 h).1 dc
 ·have:=(bS z.natAbs).2.1;rw[h] at this;have:(0:Nat)=z.natAbs:=this;omega
theorem iO {a:Int} {b:Nat} (hb:0 < b) (hb2:b < 10) (ha:a.natAbs < 10000):H5 (M8 a b)=0/\(a≠0->M8 a b≠[48])/\(M8 a b).length<=8:=by
 obtain⟨g,hg⟩ :∃g,g=G8 a.natAbs b:=⟨_,rfl⟩
 have hg0:0 < g:=by rw[hg];exact iD _ hb
 have hga:g∣a.natAbs:=by rw[hg];exact CX _ _
 have hgb:g∣b:=by rw[hg];exact Nat.gcd_dvd_right _ _
 have hn:(a / (g:Int)).natAbs=a.natAbs / g:=by
  obtain⟨c,hc⟩:=hga;rw[hc,Po _ hg0];have h2:a=(g:Int)*c\/a=(g:Int) * -(c:Int):=by
   rcases Int.natAbs_eq a with h | h
   ·left;rw[h,hc];push_cast;rfl
   ·right;rw[h,hc];push_cast;rw[Int.mul_neg]
  rcases h2 with h2 | h2 <;> rw[h2,Pm _ om] <;> omega
 have hlt:(a / (g:Int)).natAbs < 10000:=by
  rw[hn];exact p8 (D0 _ _) ha
 have hz0:a≠0->a / (g:Int)≠0:=λh0 c=>by
  rw[c] at hn;have h1:a.natAbs / g=0:=hn.symm;have:=Nat.div_eq_zero_iff.1 h1;have h3:=UV om hga;omega
 have hl:=mW (z:=a / (g:Int)) (k:=4) dc hlt;unfold M8;rw[<-hg];by_cases h1:b / g=1
 ·rw[if_pos h1];exact⟨WS om,λh0 c=>hz0 h0 (ZO c),om⟩
 ·rw[if_neg h1];have hbg:1 < b / g:=by
   have:0 < b / g:=Nat.div_pos (UV hb hgb) hg0;omega
  have hbl:b / g < 10:=p8 (D0 _ _) hb2;obtain⟨d1,d2,d3,d4,d5⟩:=bS (a / (g:Int)).natAbs;obtain⟨b1,b2,b3,b4,b5⟩:=bS (b / g);have hdl:=yS (n:=b / g) (k:=1) dc om;have hnl:=yS (n:=(a / (g:Int)).natAbs) (k:=4) dc om;have hcop:G8 (a / (g:Int)).natAbs (b / g)=1:=by
   rw[hn,Nat.gcd_div hga hgb,<-hg,Nat.div_self hg0]
  have hS:HK (zT (a / (g:Int))++47::Lib.decDigits (b / g)) (decide (a / (g:Int) < 0)) (Lib.decDigits (a / (g:Int)).natAbs++47::Lib.decDigits (b / g)):=by
   refine⟨?_,⟨_,⟨by rw[d6,d7];omega,_,_,d1,d3,rfl,.inr ⟨rfl,b1,b3⟩⟩,?_⟩,λ_ c=>?_⟩
   ·rw[<-f8];congr 1
    exact (ET (z:=a / (g:Int)) om).e
   ·rw[BP,KX,KX,d2,b2,decide_eq_true hbg,decide_eq_true hcop];rfl
   ·have:=congrArg H4 c;rw[d6,d7] at this;have e:([48]:d8).length=1:=rfl;omega
  have hll:(zT (a / (g:Int))++47::Lib.decDigits (b / g)).length<=8:=by
   rw[d6,d7];omega
  refine⟨AL hS om,λ_ c=>?_,hll⟩;have:=congrArg H4 c;rw[d6,d7] at this;have h2:0 < (zT (a / (g:Int))).length:=by
   unfold zT;split
   ·simp
   ·exact d3
  have e:([48]:d8).length=1:=rfl;omega
theorem Fd {l:Q4} {m:Nat} (h:l.1.natAbs < m/\l.2.1.natAbs < m/\l.2.2.1.natAbs < m/\l.2.2.2.natAbs < m) (i:Nat):(q4 l i).natAbs < m:=by
 unfold q4;split
 ·exact h.1
 ·exact h.2.1
 ·exact h.2.2.1
 ·exact h.2.2.2
theorem GN {n:Nat} {l:Q4} (h:l.1.natAbs < 1000/\l.2.1.natAbs < 1000/\l.2.2.1.natAbs < 1000/\l.2.2.2.natAbs < 1000):oE n (Z5 n l)=0/\(Z5 n l).1.length<=5/\(Z5 n l).2.length<=4/\∀t∈(Z5 n l).2,t.2.length<=8/\0<=t.1/\t.1 < n:=by
 have hq:=Fd h;have hc:H5 (Z5 n l).1=0:=WS om;obtain⟨F,hF⟩ :∃F,F=(x8 (min n 4)).filter λi=>decide (q4 l i≠0):=⟨_,rfl⟩
 have hlin:(Z5 n l).2=F.map λi:Nat=>((i:Int),M8 (q4 l i) (1+i)):=by rw[hF];rfl
 have hFl:F.length<=4:=by
  rw[hF];refine q9 (List.length_filter_le _ _) ?_;rw[K7];omega
 have hFm :∀i∈F,i < n/\i < 4/\q4 l i≠0:=λi hi=>by
  rw[hF] at hi;obtain⟨h1,h2⟩:=List.mem_filter.1 hi;have h1:=S6.1 h1;exact⟨om,om,of_decide_eq_true h2⟩
 have hFs:F.Pairwise (· < ·):=by
  rw[hF];exact List.Pairwise.filter _ List.pairwise_lt_range
 refine⟨?_,?_,by rw[hlin,j6];exact hFl,λt ht=>?_⟩
 ·unfold oE;rw[if_neg (λc=>c hc),if_neg (by rw[hlin,j6];omega),Y4];intro j hj;rw[hlin,j6] at hj;have hat :∀j (hj:j < F.length),(Z5 n l).2.getD j (0,[])=((F[j]:Int),M8 (q4 l F[j]) (1+F[j])):=λj hj=>by
   rw[hlin,e8,E2,i7 hj];rfl
  obtain⟨f1,f2,f3⟩:=hFm F[j] (j5 hj);obtain⟨g1,g2,_⟩:=iO (a:=q4 l F[j]) (b:=1+F[j]) om om (by have:=hq F[j];omega);unfold zN;rw[hat j hj];dsimp only;rw[if_neg om,if_neg,if_neg (λc=>c g1),if_neg (g2 f3)];rintro⟨c1,c2⟩;rw[hat (j - 1) om] at c2;have:=List.pairwise_iff_getElem.1 hFs (j - 1) j om hj om;dsimp only at c2;omega
 ·have:=mW (z:=l.1 - l.2.1) (k:=4) dc om;exact this
 ·rw[hlin] at ht;obtain⟨i,hi,rfl⟩:=y7.1 ht;obtain⟨f1,f2,f3⟩:=hFm i hi;obtain⟨_,_,g3⟩:=iO (a:=q4 l i) (b:=1+i) om om (by have:=hq i;omega);exact⟨g3,by dsimp only;omega,by dsimp only;omega⟩
end Go.Proofs.YtpjhmeicbjkcdaaGreatDoor
namespace Go.Proofs.YtpjhmeicbjkcdaaGreatDoor
open Go
theorem mC (l:List Nat) (i:Nat):(kF l i).natAbs < 1000:=by
 unfold kF;have h:l.getD i 0 % 7 < 7:=A6 _ dc;generalize l.getD i 0 % 7=m at h;split <;> omega
theorem By (n:Nat) (l:List Nat):oE n (Z5 n (kF l 0,kF l 1,kF l 2,kF l 3))=0:=(GN ⟨mC l 0,mC l 1,mC l 2,mC l 3⟩).1
theorem QK {g:Nat->Ex->Int×Nat} {k k1:Nat} {a:Ex} (h:g k a=(0,k1)):W5 g k [a]=(0,k1):=by
 unfold W5;rw[h,if_neg (λc=>c rfl)];unfold W5;rfl
theorem Cw {g:Nat->Ex->Int×Nat} {k k1 k2:Nat} {a b:Ex} (h:g k a=(0,k1)) (h2:g k1 b=(0,k2)):W5 g k [a,b]=(0,k2):=by
 unfold W5;rw[h,if_neg (λc=>c rfl)];exact QK h2
theorem Gw (n:Nat) :∀(d:Nat) (l:List Nat) (k e:Nat),d+1<=e->k+2 ^ (d+1)<=65->(∀x∈l,x < 256)->∃k',M5 n e k (R5 n d l).1=(0,k')/\k'+1<=k+2 ^ (d+1)/\∀x∈(R5 n d l).2,x < 256:=by
 have leaf :∀(l:List Nat) (k e:Nat),1<=e->k < 64->M5 n e k (.mk 0 (Z5 n (kF l 0,kF l 1,kF l 2,kF l 3)) [] [])=(0,k+1):=λl k e he hk=>by
  obtain⟨e,rfl⟩ :∃e',e=e'+1:=⟨e - 1,om⟩
  have hn:jC n 0 (Z5 n (kF l 0,kF l 1,kF l 2,kF l 3)) [] ([]:List Ex).length=0:=by
   unfold jC;rw[if_neg dc,if_pos rfl,if_neg]
   ·exact By n l
   ·rintro (c | c)
    ·exact absurd c dc
    ·exact c rfl
  unfold M5;rw[if_neg om,if_neg (λc=>c hn)];unfold W5;rfl
 intro d;induction d with
 | zero=>
  intro l k e he hk hx;have h2:2 ^ (0+1)=2:=rfl;rw[h2] at hk;refine⟨k+1,leaf l k e he om,by rw[h2];omega,λx hm=>hx x (A8 hm)⟩
 | succ d ih=>
  intro l k e he hk hx;have hp:2 ^ (d+1+1)=2 ^ (d+1)+2 ^ (d+1):=by rw[K6];omega
  have hp1:2<=2 ^ (d+1):=by rw[K6];have:=qN (n:=d) (show 0 < 2 by decide);omega
  rw[hp] at hk;by_cases h0:l = []\/l.getD 0 0 % 6=0
  ·unfold R5;rw[if_pos h0];exact⟨k+1,leaf l k e om om,by rw[hp];omega,λx hm=>hx x (A8 hm)⟩
  ·obtain⟨e,rfl⟩ :∃e',e=e'+1:=⟨e - 1,om⟩
   obtain⟨k1,a1,a2,a3⟩:=ih (l.drop 1) (k+1) e om om (λx hm=>hx x (A8 hm));have hop:1<=((l.getD 0 0 % 6:Nat):Int)/\((l.getD 0 0 % 6:Nat):Int)<=5:=by
    have h1:l.getD 0 0 % 6 < 6:=A6 _ dc;have h2:l.getD 0 0 % 6≠0:=λc=>h0 (.inr c);omega
   have hl0:l.getD 0 0 < 256:=by
    cases l with
    | nil=>exact absurd (.inl rfl) h0
    | cons x l=>exact hx x sQ
   unfold R5;rw[if_neg h0];dsimp only;by_cases h5:l.getD 0 0 % 6=2\/l.getD 0 0 % 6=5\/l.getD 0 0 / 6 % 2=0
   ·rw[if_pos h5];have hn:jC n ((l.getD 0 0 % 6:Nat):Int) ([],[]) (if l.getD 0 0 % 6=2 then zT ((l.getD 0 0:Int) - 100) else []) [(R5 n d (l.drop 1)).1].length=0:=by
     unfold jC;rw[if_neg om,if_neg om,if_neg,if_neg]
     ·by_cases h2:l.getD 0 0 % 6=2
      ·rw[if_pos om,if_pos h2];exact WS om
      ·rw[if_neg om]
     ·rintro (c | ⟨_,c⟩)
      ·exact absurd c sQ
      ·exact absurd c sQ
     ·rintro ((c | c) | ⟨c1,c2⟩)
      ·exact c rfl
      ·exact absurd c sQ
      ·rw[if_neg om] at c1;exact c1 rfl
    refine⟨k1,?_,by rw[hp];omega,a3⟩;unfold M5;rw[if_neg om,if_neg (λc=>c hn)];exact QK a1
   ·rw[if_neg h5];obtain⟨k2,b1,b2,b3⟩:=ih (R5 n d (l.drop 1)).2 k1 e om om a3;have hn:jC n ((l.getD 0 0 % 6:Nat):Int) ([],[]) [] [(R5 n d (l.drop 1)).1,(R5 n d (R5 n d (l.drop 1)).2).1].length=0:=by
     unfold jC;rw[if_neg om,if_neg om,if_neg,if_neg,if_neg om]
     ·rintro (c | ⟨c,_⟩)
      ·exact absurd c sQ
      ·omega
     ·rintro ((c | c) | ⟨c,_⟩)
      ·exact c rfl
      ·exact absurd c sQ
      ·exact c rfl
    refine⟨k2,?_,by rw[hp];omega,b3⟩;unfold M5;rw[if_neg om,if_neg (λc=>c hn)];exact Cw a1 b1
theorem nU {α:Type} {most:Nat} {l:List α} {nm:α->d8} {f:α->Int} (hl:l.length<=most) (h :∀i (h:i < l.length),D8 (nm l[i])=true/\nm l[i]∉(l.take i).map nm/\f l[i]=0):bA most l nm f=0:=by
 unfold bA;rw[if_neg om,Y4];intro i hi;rw[i7 hi];obtain⟨h1,h2,h3⟩:=h i hi;have hn:xT ((l.take i).map nm) (nm l[i])=0:=by
  unfold xT;rw[if_neg (by rw[h1];decide),if_neg h2]
 show qB (xT ((l.take i).map nm) (nm l[i])) (f l[i])=0
 rw[hn,O5,h3]
theorem dB {n m:Int} (h : -m<=n/\n<=m):aF n m=false:=by
 unfold aF;rw[decide_eq_false om,decide_eq_false om];rfl
theorem OU (x:Int):u8 x < 256:=by unfold u8;omega
theorem WG {how i:Nat} {x:Q5} (h:i8 x.1/\i8 x.2.1/\i8 x.2.2.1/\i8 x.2.2.2.1/\i8 x.2.2.2.2):xR (dF how i x)=0:=by
 obtain⟨h1,h2,h3,h4,h5⟩:=h;unfold i8 at h4 h5;have hu:=OU x.1;have hm:u8 x.2.1 % 3 < 3:=A6 _ dc;have hv:u8 x.2.2.1 % 4 < 4:=A6 _ dc;unfold xR dF;dsimp only;rw[if_neg om,if_neg (by rw[j6,K7];omega),Y4];intro j hj;rw[j6,K7] at hj;rw[e8,E2,UN hj];show LE (dV x j)=0
 unfold LE dV;rw[if_neg (by rw[j6,K7];omega),if_neg];intro c;obtain⟨v,hv1,hv2⟩:=E5.1 c;obtain⟨w,hw,rfl⟩:=y7.1 hv1;have hw:=S6.1 hw;unfold vE xH at hv2;dsimp only at hv2;rw[dB om,dB om,dB om] at hv2;exact absurd hv2 dc
theorem iI (x:Int) : -12<=x.tmod 13/\x.tmod 13<=12:=by
 have h1:x.tmod 13 < 13:=Int.tmod_lt_of_pos x dc;have h2 : -13 < x.tmod 13:=by
  have h:=Int.tmod_lt_of_pos (-x) (b:=13) dc;rw[Int.neg_tmod] at h;omega
 omega
theorem XJ {how i:Nat} {parts:List V9} (hp:parts≠[]) {x:Q6} (h:i8 x.2.2.2.2.2):xX (parts.map (·.1)) (bG how parts i x)=0:=by
 unfold i8 at h;have hpl:0 < parts.length:=D1.2 hp;have hm:(bG how parts i x).2.1∈parts.map (·.1):=by
  have hlt:u8 x.1 % parts.length < parts.length:=A6 _ hpl;show (parts.getD (u8 x.1 % parts.length) ([],0,[])).1∈_
  rw[e8,i7 hlt];exact y7.2 ⟨_,j5 hlt,rfl⟩
 obtain⟨a,_,_⟩:=iO (a:=x.2.2.2.2.2) (b:=1) dc dc om;obtain⟨b,_,_⟩:=iO (a:=x.2.2.2.2.2+1) (b:=2) dc dc om;obtain⟨c,_,_⟩:=iO (a:=x.2.2.2.2.2+2) (b:=3) dc dc om;unfold xX;rw[if_neg (λc=>c hm),if_neg]
 ·show qB (H5 (M8 x.2.2.2.2.2 1)) (qB (H5 (M8 (x.2.2.2.2.2+1) 2)) (H5 (M8 (x.2.2.2.2.2+2) 3)))=0
  rw[a,b,c];rfl
 ·show ¬ (aF (x.2.1.tmod 13) 12 || (aF (x.2.2.1.tmod 13) 12 || (aF (x.2.2.2.1.tmod 13) 12 || aF (x.2.2.2.2.1.tmod 13) 12)))=true
  rw[dB (iI _),dB (iI _),dB (iI _),dB (iI _)];decide
theorem YI {how i:Nat} {x:Int×Int×Int} (h:i8 x.1/\i8 x.2.1/\i8 x.2.2):xZ (eM how i x)=0:=by
 unfold i8 at h;unfold xZ eM;dsimp only;rw[dB om,dB om,dB om,if_neg dc,if_neg om]
theorem VY {how n i:Nat} {l:List Nat} (h :∀x∈l,x < 256):xP n (gC how n i l)=0:=by
 obtain⟨k',h1,_⟩:=Gw n 3 l 0 8 dc dc h;have hg:AZ n (gC how n i l).2.1=0:=congrArg Prod.fst h1;have n1:H5 [45,55,47,50]=0:=by decide +kernel
 have n2:H5 [49,49]=0:=by decide +kernel
 unfold xP;rw[hg,O5];unfold gC;dsimp only;have c1 : ¬ (([45,55,47,50]:d8) = []):=dc
 have c2 : ¬ (([49,49]:d8) = []):=dc
 have c3 : ¬ dI [49,49]*dJ [45,55,47,50] < dI [45,55,47,50]*dJ [49,49]:=by decide +kernel
 by_cases h2:l.length % 2=0 <;> by_cases h3:l.length % 3=0 <;> simp[h2,h3,n1,n2,c3,qB]
theorem FI {k:UI} (g:HF k):LD (D4 k)=0:=by
 have hname:D8 (D4 k).nm=true:=(dO dc (by have:=A6 k.nm (show 0 < 5 by decide);omega) k.nm).1;have hp:bA 64 (D4 k).parts (·.1) xR=0:=nU (q9 (Z2 (dF k.nm) k.parts 3) dc) λi hi=>by
  have hl:=Z2 (dF k.nm) k.parts 3;obtain⟨h',e⟩:=wI (dF k.nm) (k.parts.take 3) (i:=i) hi;have hx:=g.p _ (A7 (j5 h'));have e:(D4 k).parts[i]=dF k.nm i (k.parts.take 3)[i]:=e;have hi3:i < 3:=J1 hi hl;rw[e];exact⟨(dO dc om _).1,by rw[<-e];exact yX (nm:=λx:V9=>x.1) (f:=dF k.nm) (kind:=113) (how:=k.nm / 2) (λ_ _=>rfl) dc hi,WG hx⟩
 have hi:bA 12 (D4 k).insts (·.1) (xX ((D4 k).parts.map (·.1)))=0:=by
  have e:(D4 k).insts=U0 k.nm (D4 k).parts k.insts:=rfl;rw[e];unfold U0;by_cases hne:(D4 k).parts = []
  ·rw[if_pos hne];rfl
  ·rw[if_neg hne];refine nU (q9 (Z2 (bG k.nm (D4 k).parts) k.insts 3) dc) λi hi=>?_;have hl:=Z2 (bG k.nm (D4 k).parts) k.insts 3;obtain⟨h',e⟩:=wI (bG k.nm (D4 k).parts) (k.insts.take 3) (i:=i) hi;have hx:=g.i _ (A7 (j5 h'));have hi3:i < 3:=J1 hi hl;refine⟨?_,yX (nm:=λx:lW=>x.1) (f:=bG k.nm (D4 k).parts) (kind:=105) (how:=k.nm / 4) (λ_ _=>rfl) dc hi,?_⟩
   ·rw[e];exact (dO dc om _).1
   ·rw[e];exact XJ hne hx.2.2.2.2.2
 have hd:bA 64 (D4 k).dims (·.1) xZ=0:=nU (q9 (Z2 (eM k.nm) k.dims 4) dc) λi hi=>by
  have hl:=Z2 (eM k.nm) k.dims 4;obtain⟨h',e⟩:=wI (eM k.nm) (k.dims.take 4) (i:=i) hi;have hx:=g.d _ (A7 (j5 h'));have e:(D4 k).dims[i]=eM k.nm i (k.dims.take 4)[i]:=e;have hi3:i < 4:=J1 hi hl;rw[e];exact⟨(dO dc om _).1,by rw[<-e];exact yX (nm:=λx:O7=>x.1) (f:=eM k.nm) (kind:=100) (how:=k.nm / 8) (λ_ _=>rfl) dc hi,YI hx⟩
 have hc:bA 64 (D4 k).cons (·.1) (λc=>oE (D4 k).dims.length c.2)=0:=nU (q9 (Z2 (lZ k.nm (D4 k).dims.length) k.cons 2) dc) λi hi=>by
  have hl:=Z2 (lZ k.nm (D4 k).dims.length) k.cons 2;obtain⟨h',e⟩:=wI (lZ k.nm (D4 k).dims.length) (k.cons.take 2) (i:=i) hi;obtain⟨x1,x2,x3,x4⟩:=g.c _ (A7 (j5 h'));unfold i8 at x1 x2 x3 x4;have e:(D4 k).cons[i]=lZ k.nm (D4 k).dims.length i (k.cons.take 2)[i]:=e;have hi3:i < 2:=J1 hi hl;rw[e];exact⟨(dO dc om _).1,by rw[<-e];exact yX (nm:=λx:kT=>x.1) (f:=lZ k.nm (D4 k).dims.length) (kind:=99) (how:=k.nm / 16) (λ_ _=>rfl) dc hi,(GN ⟨om,om,om,om⟩).1⟩
 have hq:bA 64 (D4 k).reqs (·.1) (xP (D4 k).dims.length)=0:=nU (q9 (Z2 (gC k.nm (D4 k).dims.length) k.gaps 2) dc) λi hi=>by
  have hl:=Z2 (gC k.nm (D4 k).dims.length) k.gaps 2;obtain⟨h',e⟩:=wI (gC k.nm (D4 k).dims.length) (k.gaps.take 2) (i:=i) hi;have hx:=g.g _ (A7 (j5 h'));have e:(D4 k).reqs[i]=gC k.nm (D4 k).dims.length i (k.gaps.take 2)[i]:=e;have hi3:i < 2:=J1 hi hl;rw[e];exact⟨(dO dc om _).1,by rw[<-e];exact yX (nm:=λx:kP=>x.1) (f:=gC k.nm (D4 k).dims.length) (kind:=114) (how:=k.nm / 32) (λ_ _=>rfl) dc hi,VY hx⟩
 unfold LD;rw[if_neg (by rw[hname];decide),hp,hi,hd,hc,hq];rfl
end Go.Proofs.YtpjhmeicbjkcdaaGreatDoor
namespace Go.Proofs.YtpjhmeicbjkcdaaGreatDoor
open Go
theorem BA {names:List d8} {s:d8} (h:s∉names):Z6 names s=0:=if_neg h
theorem Fz {parts:List d8} {s:d8} (h:s∈parts):RF parts s=0:=if_pos h
theorem kY {w:d8} {x:KT} {L:List KT} (h:((decide (x.1=1) || decide (x.1=4)) && decide (x.2=w))=false):vZ w (x::L):=λy hy=>by
 have e:y=x:=(M0 hy).symm;subst e;intro c;rw[decide_eq_true c.2,CD,O9,decide_eq_false_iff_not,decide_eq_false_iff_not] at h;rcases c.1 with c | c
 ·exact h.1 c
 ·exact h.2 c
theorem P3.par {names:List d8} {p:V9} (g:ZC p) (hn:names.length < 64) (hf:p.1∉names):P3 (dM names) (N6 (tN p)) p:=by
 intro r L h;have h:P7 r ((1,S9)::([rJ p.1]++((1,zF)::(N6 (zI p.2.1++(Q1::kS 123::jJ::(p.2.2.flatMap CR++[kS 125,jJ])))++L)))):=h;obtain⟨a1,a2⟩:=P3.nam g.n (BA hf) _ _ h.expW;have b:=a1.expW;rw[G1,f8] at b;obtain⟨b1,b2⟩:=P3.int g.d dc dc _ _ b;have b1:P7 _ ((4,[123])::(N6 (p.2.2.flatMap CR++[kS 125,jJ])++L)):=b1;have c:=b1.expS;rw[G1,f8] at c;dsimp only at c;obtain⟨c1,c2⟩:=P3.cels p.2.2 (G2 (s8 (U2 (s8 (L0 (s8 r S9) (Z6 names)).1 zF) 1 1048576).1 [123])) [] _ _ (by
  rw[c.rem,d6];have:=pJ (g:=CR) (λv=>E3 _) p.2.2;omega) (by have:=g.c;simpa using this) g.v (kY (by rfl)) c
 have c1:P7 _ ((4,[125])::L):=c1;unfold dM;dsimp only at a1 a2 b1 b2 c1 c2 ⊢;rw[jF hn];refine⟨c1.expS,?_⟩;rw[a2,b2,c2];rfl
theorem P3.ints {lo hi:Int} {l:List Int} {n:Nat} (hl:l.length=n) (h :∀z∈l,lo<=z/\z<=hi) (h1 : -9223372036854775807<=lo) (h2:hi<=9223372036854775807):P3 (lE (λr=>U2 r lo hi) n) (N6 (uD l)) l:=
 P3.lst (I:=zI) hl λz hz=>P3.int (h z hz) h1 h2
theorem P3.ins {parts names:List d8} (hp :∀s∈parts,D8 s=true) {x:lW} (g:ZE parts x) (hn:names.length < 12) (hf:x.1∉names):P3 (kA parts names) (N6 (rO x)) x:=by
 intro r L h;have h:P7 r ((1,dE)::([rJ x.1]++((1,Fw)::([rJ x.2.1]++((1,zE)::(N6 (uD [x.2.2.1.1,x.2.2.1.2.1,x.2.2.1.2.2.1,x.2.2.1.2.2.2]++(Q1::kW wO::Q1::kS 40::(nI x.2.2.2.1++(kS 44::Q1::(nI x.2.2.2.2.1++(kS 44::Q1::(nI x.2.2.2.2.2++[kS 41,kS 59,jJ])))))))++L)))))):=h;obtain⟨a1,a2⟩:=P3.nam g.n (BA hf) _ _ h.expW;obtain⟨b1,b2⟩:=P3.nam (hp _ g.p) (Fz g.p) _ _ a1.expW;have c:=b1.expW;rw[G1,f8] at c;obtain⟨t1,t2,t3,t4⟩:=g.t;obtain⟨c1,c2⟩:=P3.ints (lo:=-12) (hi:=12) (n:=4) rfl (λz hz=>by
  simp only[p9,G4,or_false] at hz;rcases hz with rfl | rfl | rfl | rfl <;> assumption) dc dc _ _ c
 have c1:P7 _ ((1,wO)::(N6 (kS 40::(nI x.2.2.2.1++(kS 44::Q1::(nI x.2.2.2.2.1++(kS 44::Q1::(nI x.2.2.2.2.2++[kS 41,kS 59,jJ]))))))++L)):=c1;have d:=c1.expW;have e:kS 40::(nI x.2.2.2.1++(kS 44::Q1::(nI x.2.2.2.2.1++(kS 44::Q1::(nI x.2.2.2.2.2++[kS 41,kS 59,jJ])))))=(kS 40::(gW ([x.2.2.2.1,x.2.2.2.2.1,x.2.2.2.2.2].map nI)++[kS 41]))++[kS 59,jJ]:=by
  simp[gW]
 rw[e,G1,f8] at d;obtain⟨d1,d2⟩:=P3.lst (tk:=L9) (I:=nI) (n:=3) rfl (λz hz=>by
  simp only[p9,G4,or_false] at hz;rcases hz with rfl | rfl | rfl
  ·exact P3.numb g.s.1
  ·exact P3.numb g.s.2.1
  ·exact P3.numb g.s.2.2) _ _ d
 have d1:P7 _ ((4,[59])::L):=d1;unfold kA;dsimp only at a1 a2 b1 b2 c1 c2 d1 d2 ⊢;rw[jF hn];refine⟨d1.expS,?_⟩;rw[a2,b2,c2,d2];rfl
theorem P3.dim {names:List d8} {d:O7} (g:ZG d) (hn:names.length < 64) (hf:d.1∉names):P3 (kI names) (N6 (qI d)) d:=by
 intro r L h;have h:P7 r ((1,Z8)::([rJ d.1]++((4,[61])::(N6 (zI d.2.1++(Q1::kS 91::(zI d.2.2.1++(kS 44::Q1::(zI d.2.2.2++[kS 93,kS 59,jJ])))))++L)))):=h;obtain⟨a1,a2⟩:=P3.nam g.n (BA hf) _ _ h.expW;have b:=a1.expS;rw[G1,f8] at b;obtain⟨b1,b2⟩:=P3.int (lo:=-1073741824) (hi:=1073741824) g.r.1 dc dc _ _ b;have b1:P7 _ ((4,[91])::(N6 (zI d.2.2.1++(kS 44::Q1::(zI d.2.2.2++[kS 93,kS 59,jJ])))++L)):=b1;have c:=b1.expS;rw[G1,f8] at c;obtain⟨c1,c2⟩:=P3.int (lo:=-1073741824) (hi:=1073741824) g.r.2.1 dc dc _ _ c;have c1:P7 _ ((4,[44])::(N6 (zI d.2.2.2++[kS 93,kS 59,jJ])++L)):=c1;have e:=c1.expS;rw[G1,f8] at e;obtain⟨e1,e2⟩:=P3.int (lo:=-1073741824) (hi:=1073741824) g.r.2.2 dc dc _ _ e;have e1:P7 _ ((4,[93])::((4,[59])::L)):=e1;have f:=e1.expS;unfold kI rL;dsimp only at a1 a2 b1 b2 c1 c2 e1 e2 f ⊢;rw[jF hn,if_neg (λq=>by
  have q:=q.2;rw[c2,e2] at q;have:=g.o;omega)]
 refine⟨f.expS,?_⟩;rw[a2,b2,c2,e2]
theorem Ht {names:List d8} {i:Nat} (hi:i < names.length) (hd :∀j (h:j < names.length),names[j]∉names.take j):kB names names[i]=i:=by
 have hm:names[i]∈names:=j5 hi;unfold kB;rw[if_pos hm];have hj:names.idxOf names[i] < names.length:=List.idxOf_lt_length_of_mem hm;have hg:names[names.idxOf names[i]]=names[i]:=List.getElem_idxOf hj;have h1 : ¬ names.idxOf names[i] < i:=λc=>hd i hi (by
  rw[Ou];exact⟨names.idxOf names[i],om,hg⟩)
 have h2 : ¬ i < names.idxOf names[i]:=λc=>hd _ hj (by
  rw[Ou];exact⟨i,om,hg.symm⟩)
 congr 1
 omega
structure OJ (names:List d8):Prop where
 n :∀s∈names,D8 s=true
 d :∀j (h:j < names.length),names[j]∉names.take j
def jD (names:List d8) (i:Int):KT:=rJ (names.getD i.toNat [])
theorem P3.trm {names:List d8} (g:OJ names) {last:Int} {t:OF} {cnt:Nat} (hc:cnt < 64) (h0:0<=t.1) (h1:t.1 < names.length) (h2:H5 t.2=0) (h3:t.2≠[48]) (h4:last < t.1):P3 (λr=>hZ names last r cnt) (N6 (zM (jD names) t)) t:=by
 intro r L h;obtain⟨i,x⟩:=t;obtain⟨m,rfl⟩:=S8 h0;dsimp only at h1 h2 h3 h4;have hm:m < names.length:=om
 obtain⟨s,hs⟩ :∃s,s=names[m]:=⟨_,rfl⟩
 have hsn:D8 s=true:=g.n s (by rw[hs];exact j5 hm);have hix:kB names s=m:=by rw[hs];exact Ht hm g.d
 have hnm:jD names (m:Int)=rJ s:=by
  unfold jD;rw[show ((m:Int)).toNat=m from rfl,e8,i7 hm,hs];rfl
 have hord:jV names last s=0:=by
  unfold jV;rw[hix,if_neg om,if_neg om]
 obtain⟨sg,y,hn⟩:=pH h2;obtain⟨y0,yd⟩:=jW hn.d;have hx48:x≠[45,48]:=λc=>by
  have e:=hn.e;rw[c] at e;cases sg with
  | true=>exact hn.z rfl (E8 e).2.symm
  | false=>
   have e:([45,48]:d8)=y:=e;rw[<-e] at yd;exact absurd yd dc
 have hlen:=N8 h2;have key:P7 r ((4,[if sg=true then 45 else 43])::(2,y)::(4,[42])::rJ s::L)->
   P7 (jS r cnt).1 ((4,[42])::rJ s::L)/\(jS r cnt).2=x:=by
  intro hr;have hi:S7 r [45]=sg:=by
   rw[hr.is];cases sg <;> rfl
  have hnx:=hr.next (by decide:(4:Int)≠5);have hy:HK y false y:=⟨rfl,hn.d,nofun⟩
  obtain⟨u1,u2⟩:=P3.numS hy (C6 r) ((4,[42])::rJ s::L) hnx;have hu:xK (C6 r)=X0 (C6 r):=by
   unfold xK;rw[if_neg (by rw[hnx.peek.1];exact λc=>c rfl)]
  have hxx:(if S7 r [45]=true then 45::y else y)=x:=by
   rw[hi,hn.e];cases sg <;> rfl
  unfold jS;dsimp only;rw[jF hc,hu,u2,hxx,if_neg om,if_neg (λc=>c.2.elim h3 hx48)];exact⟨u1,rfl⟩
 have htok:P7 r ((4,[if sg=true then 45 else 43])::(2,y)::(4,[42])::rJ s::L):=by
  have e:N6 (zM (jD names) ((m:Int),x)) = [(4,[if x.getD 0 0=45 then 45 else 43]),(2,if x.getD 0 0=45 then x.drop 1 else x),(4,[42]),jD names m]:=rfl;rw[e,hnm] at h;have e:=hn.e;cases sg with
  | false=>
   have e:x=y:=e;rw[e,if_neg (iR yd).1,if_neg (iR yd).1] at h;exact h
  | true=>
   have e:x=45::y:=e;rw[e] at h;exact h
 obtain⟨k1,k2⟩:=key htok;have k3:=k1.expS;obtain⟨n1,_⟩:=P3.nam hsn hord _ _ (show P7 _ ([rJ s]++L) from k3);have hat:UF names (s8 (jS r cnt).1 [42])=m:=by
  unfold UF;obtain⟨p1,p2⟩:=k3.peek;obtain⟨q1,q2⟩:=yK s;rw[if_pos ⟨show rN _ by unfold rN;rw[p1];exact q1,by rw[p2,q2];exact hsn⟩,p2,q2,hix]
 dsimp only;unfold hZ;dsimp only;rw[hat,k2];exact⟨n1,rfl⟩
theorem P3.trms {names:List d8} (g:OJ names) {n:Int} (hn:n=names.length) {f:uZ} (gf:mT n f) :∀(fu k:Nat) (out:List OF) (last:Int) (r:RS) (L:List KT),k+fu>=f.2.length->k<=f.2.length->out=f.2.take k->(k=0->last = -1)->(0 < k->last=(f.2.getD (k - 1) (0,[])).1)->vZ [43] L->vZ [45] L->
  P7 r (N6 ((f.2.drop k).flatMap (zM (jD names)))++L)->P7 (eJ names fu r last out).1 L/\(eJ names fu r last out).2=f.2
 | 0,k,out,last,r,L,hk,hkl,ho,_,_,_,_,hr=>by
  have:k=f.2.length:=om
  subst this;rw[q8] at ho;rw[oW] at hr;exact⟨hr,ho⟩
 | fu+1,k,out,last,r,L,hk,hkl,ho,h0,h1,n1,n2,hr=>by
  unfold eJ;by_cases hlt:k < f.2.length
  ·rw[q6 hlt,u7,G1,f8] at hr;obtain⟨t1,t2,t3,t4,t5⟩:=gf.at hlt;have hl:=gf.l;have hd:S7 r [43]=true\/S7 r [45]=true:=by
    have h4:P7 r ((4,[if (f.2[k]).2.getD 0 0=45 then 45 else 43])::_):=hr;by_cases hc:(f.2[k]).2.getD 0 0=45
    ·rw[if_pos hc] at h4;exact .inr h4.isS
    ·rw[if_neg hc] at h4;exact .inl h4.isS
   rw[if_pos hd];have hol:out.length=k:=by rw[ho,j1];omega
   have hlast:last < f.2[k].1:=by
    rcases u9 k with e | e
    ·rw[h0 e];omega
    ·rw[h1 e];exact t5 e
   obtain⟨u1,u2⟩:=P3.trm g (last:=last) (cnt:=out.length) om t1 (by rw[<-hn];exact t2) t3 t4 hlast r _ hr;dsimp only at u1 u2;rw[u2];refine P3.trms g hn gf fu (k+1) _ _ _ L om om ?_ (λc=>absurd c om) (λ_=>?_) n1 n2 u1
   ·rw[ho,yU,i7 hlt];rfl
   ·rw[wC,VE hlt]
  ·have:k=f.2.length:=om
   subst this;rw[q8] at ho;rw[oW] at hr;have hr:P7 r L:=hr;rw[if_neg (λc=>by rw[hr.notB n1,hr.notB n2] at c;rcases c with c | c <;> cases c)];exact⟨hr,ho⟩
theorem P3.for {names:List d8} (g:OJ names) {f:uZ} (gf:mT names.length f):P3 (qD names) (N6 (uG (jD names) f)) f:=by
 intro r L h;have h:P7 r ((4,[91])::(N6 (nI f.1++(f.2.flatMap (zM (jD names))++[kS 93]))++L)):=h;have a:=h.expS;rw[G1,f8] at a;obtain⟨c1,c2⟩:=P3.numb gf.c _ _ a;rw[G1,f8] at c1;have hfu:0+G2 (L9 (s8 r [91])).1>=f.2.length:=by
  rw[c1.rem,d6];have:=pJ (g:=zM (jD names)) (λv=>E3 _) f.2;omega
 obtain⟨t1,t2⟩:=P3.trms g rfl gf (G2 (L9 (s8 r [91])).1) 0 [] (-1) (L9 (s8 r [91])).1 (N6 [kS 93]++L) hfu (j0 _) rfl (λ_=>rfl) (λc=>absurd c (pX 0)) (kY (by rfl)) (kY (by rfl)) c1;have t1:P7 _ ((4,[93])::L):=t1;unfold qD;dsimp only;refine⟨t1.expS,?_⟩;rw[c2,t2]
theorem TN (dims:List O7):qH dims=jD (dims.map (·.1)):=by
 funext i
 unfold qH jD;congr 1
 rw[e8,e8,E2];cases dims[i.toNat]? <;> rfl
end Go.Proofs.YtpjhmeicbjkcdaaGreatDoor
namespace Go.Proofs.YtpjhmeicbjkcdaaGreatDoor
open Go
theorem vT (x:List R0) :∀L:List (List R0),gW (x::L)=x++L.flatMap λz=>kS 44::Q1::z
 | []=>by show x=x++[];rw[k8]
 | y::L=>by
  show x++kS 44::Q1::gW (y::L)=_
  rw[vT y L,u7];rfl
theorem P3.args {names:List d8} {n:Int} {nm:Int->KT} {d:Nat} (ih :∀(x:Ex) (r:RS) (k:Nat) (L:List KT),(M5 n d k x).1=0->P7 r (N6 (kG nm d x)++L)->P7 (J8 names d r k).1 L/\(J8 names d r k).2.1=(M5 n d k x).2/\(J8 names d r k).2.2=x) :
  ∀(ys:List Ex) (fu:Nat) (r:RS) (k:Nat) (out:List Ex) (L:List KT),ys.length<=fu->(W5 (M5 n d) k ys).1=0->vZ [44] L->P7 r (N6 ((ys.map (kG nm d)).flatMap λz=>kS 44::Q1::z)++L)->
  P7 (Z0 (J8 names d) fu r k out).1 L/\(Z0 (J8 names d) fu r k out).2.1=(W5 (M5 n d) k ys).2/\(Z0 (J8 names d) fu r k out).2.2=out++ys
 | [],0,r,k,out,L,_,_,_,hr=>⟨hr,rfl,by show out=_;rw[k8]⟩
 | [],fu+1,r,k,out,L,_,_,hn,hr=>by
  have hr:P7 r L:=hr;unfold Z0;rw[if_neg (by rw[hr.notB hn];decide)];exact⟨hr,rfl,by rw[k8]⟩
 | y::ys,0,_,_,_,_,hf,_,_,_=>absurd hf sQ
 | y::ys,fu+1,r,k,out,L,hf,he,hn,hr=>by
  rw[d7] at hf;have he0:(M5 n d k y).1=0:=by
   unfold W5 at he;by_cases c:(M5 n d k y).1=0
   ·exact c
   ·rw[if_pos c] at he;exact he
  have hexs:W5 (M5 n d) k (y::ys)=W5 (M5 n d) (M5 n d k y).2 ys:=by
   conv=>lhs;unfold W5
   rw[if_neg (λc=>c he0)]
  rw[hexs] at he ⊢;rw[M2,u7,G1,f8] at hr;have hr:P7 r ((4,[44])::(N6 (kG nm d y)++(N6 ((ys.map (kG nm d)).flatMap λz=>kS 44::Q1::z)++L))):=hr;have h1:=hr.next (by decide:(4:Int)≠5);obtain⟨a1,a2,a3⟩:=ih y (C6 r) k _ he0 h1;unfold Z0;rw[if_pos hr.isS,a2,a3];obtain⟨b1,b2,b3⟩:=P3.args ih ys fu _ (M5 n d k y).2 (out++[y]) L om he hn a1;exact⟨b1,b2,by rw[b3,f8];rfl⟩
theorem P3.expr {names:List d8} (g:OJ names) :∀(d:Nat) (x:Ex) (r:RS) (k:Nat) (L:List KT),(M5 names.length d k x).1=0->P7 r (N6 (kG (jD names) d x)++L)->
  P7 (J8 names d r k).1 L/\(J8 names d r k).2.1=(M5 names.length d k x).2/\(J8 names d r k).2.2=x
 | 0,x,r,k,L,he,_=>by
  unfold M5 at he;exact absurd he (show ¬ (15:Int)=0 by decide)
 | d+1,.mk op f fac args,r,k,L,he,hr=>by
  unfold M5 at he ⊢;split at he
  ·exact absurd he (show ¬ (6:Int)=0 by decide)
  ·rename_i hk
   split at he
   ·rename_i h2;exact absurd he h2
   ·rename_i h2
    have h2:=B9.1 h2;rw[if_neg hk,if_neg (λc=>c h2)];by_cases h0:op=0
    ·subst h0;obtain⟨gf,rfl,rfl⟩:=nS h2;have e:kG (jD names) (d+1) (.mk 0 f [] [])=uG (jD names) f:=if_pos rfl;rw[e] at hr;obtain⟨f1,f2⟩:=P3.for g gf r L hr;have hr:P7 r ((4,[91])::_):=hr;have hop:nZ (z8 r)=false:=by unfold nZ;rw[hr.peek.2];rfl
     have hS:expS (d+1) r k=r:=by
      unfold expS;rw[if_neg (λc=>by rw[hr.isS] at c;cases c.2),if_neg (oS d),jF om]
     unfold J8;rw[hS,if_neg (λc=>c hr.1),if_pos hop,f2];exact⟨f1,rfl,rfl⟩
    ·obtain⟨ho,hff,hfa,hfn,hl,h1⟩:=AM h0 h2;subst hff;have e:kG (jD names) (d+1) (.mk op ([],[]) fac args)=kW (jQ op)::((if op=2 then Q1::(nI fac++[Q1]) else [])++(kS 40::(gW (args.map (kG (jD names) d))++[kS 41]))):=if_neg h0;rw[e] at hr;have hr:P7 r ((1,jQ op)::(N6 ((if op=2 then Q1::(nI fac++[Q1]) else [])++(kS 40::(gW (args.map (kG (jD names) d))++[kS 41])))++L)):=hr;obtain⟨p1,p2⟩:=hr.peek;have hop:nZ (z8 r)=true:=by unfold nZ;rw[p2,(tW ho).2,p1];rfl
     have hog:(JG (z8 r).2.1).getD 0=op:=by rw[p2,(tW ho).2];rfl
     have hS:expS (d+1) r k=r:=by
      unfold expS;rw[if_neg (λc=>by rw[hop] at c;cases c.1),if_neg (oS d),jF om]
     have hn:=hr.next (by decide:(1:Int)≠5);obtain⟨p,hp⟩ :∃p,p=(if op=2 then L9 (C6 r) else (C6 r,[])):=⟨_,rfl⟩
     have hpp:P7 p.1 ((4,[40])::(N6 (gW (args.map (kG (jD names) d))++[kS 41])++L))/\p.2=fac:=by
      rw[hp];by_cases h5:op=2
      ·rw[if_pos h5,G1,f8] at hn;have hn:P7 (C6 r) (N6 (nI fac++[Q1])++_):=hn;rw[G1,f8] at hn;rw[if_pos h5];exact P3.numb (hfn h5) _ _ hn
      ·rw[if_neg h5] at hn ⊢;exact⟨hn,(hfa h5).symm⟩
     obtain⟨q1,q2⟩:=hpp;have q3:=q1.expS;cases args with
     | nil=>exact absurd hl (pX 0)
     | cons y ys=>
      have he0:(M5 names.length d (k+1) y).1=0:=by
       unfold W5 at he;by_cases c:(M5 names.length d (k+1) y).1=0
       ·exact c
       ·rw[if_pos c] at he;exact he
      have hexs:W5 (M5 names.length d) (k+1) (y::ys)=W5 (M5 names.length d) (M5 names.length d (k+1) y).2 ys:=by
       conv=>lhs;unfold W5
       rw[if_neg (λc=>c he0)]
      rw[hexs] at he ⊢;rw[M2,vT,f8,G1,f8] at q3;obtain⟨a1,a2,a3⟩:=P3.expr g d y (s8 p.1 [40]) (k+1) _ he0 q3;rw[G1,f8] at a1;have hnB:vZ [44] (N6 [kS 41]++L):=kY (by rfl);unfold J8;rw[hS,if_neg (λc=>c hr.1),if_neg (by rw[hop];decide),hog];dsimp only;rw[<-hp,q2,a2,a3];by_cases h5:op≠2/\op≠5
      ·rw[if_pos h5];have hle:ys.length<=G2 (J8 names d (s8 p.1 [40]) (k+1)).1:=by
        rw[a1.rem,d6];have:=pJ (g:=λz:List R0=>kS 44::Q1::z) (λv=>E3 _) (ys.map (kG (jD names) d));rw[j6] at this;omega
       obtain⟨b1,b2,b3⟩:=P3.args (P3.expr g d) ys _ _ (M5 names.length d (k+1) y).2 [y] _ hle he hnB a1;have b1:P7 _ ((4,[41])::L):=b1;exact⟨b1.expS,b2,by rw[b3];rfl⟩
      ·rw[if_neg h5];have hys:ys = []:=by
        have:=h1 om;rw[d7] at this;exact F7.1 om
       subst hys;have a1:P7 _ ((4,[41])::L):=a1;exact⟨a1.expS,rfl,rfl⟩
theorem P3.con {names dims:List d8} (g:OJ dims) {c:kT} (hn:D8 c.1=true) (gf:mT dims.length c.2) (hl:names.length < 64) (hf:c.1∉names) {D:List O7} (hD:qH D=jD dims):P3 (iC names dims) (N6 (oM D c)) c:=by
 intro r L h;have h:P7 r ((1,Y8)::([rJ c.1]++((4,[58])::(N6 (uG (qH D) c.2++[Q1,.inl (4,[60,61]),Q1,kN [48],kS 59,jJ])++L)))):=h;obtain⟨a1,a2⟩:=P3.nam hn (BA hf) _ _ h.expW;have b:=a1.expS;rw[G1,f8,hD] at b;obtain⟨f1,f2⟩:=P3.for g gf _ _ b;have f1:P7 _ ((4,[60,61])::(2,[48])::(4,[59])::L):=f1;have e:=f1.expS;have n:=e.next (by decide:(2:Int)≠5);unfold iC;dsimp only at a1 a2 f1 f2 e n ⊢;rw[jF hl,if_neg (λc=>by rw[e.peek.1,e.peek.2] at c;rcases c with c | c <;> exact c rfl)];refine⟨n.expS,?_⟩;rw[a2,f2]
theorem P3.opt {w x:d8} {r:RS} {L:List KT} (hx:x = []\/H5 x=0) (hn:vZ w L) (h:P7 r (N6 (mH w x)++L)):P7 (if S7 r w=true then L9 (C6 r) else (r,[])).1 L/\(if S7 r w=true then L9 (C6 r) else (r,[])).2=x:=by
 unfold mH at h;by_cases e:x = []
 ·rw[if_pos e] at h;have h:P7 r L:=h;rw[if_neg (by rw[h.notB hn];decide)];exact⟨h,e.symm⟩
 ·rw[if_neg e] at h;have h:P7 r ((1,w)::(N6 (nI x)++L)):=h;rw[if_pos h.isW];exact P3.numb (hx.resolve_left e) _ _ (h.next (by decide:(1:Int)≠5))
theorem P3.req {names dims:List d8} (g:OJ dims) {q:kP} (gq:ZB dims.length q) (hl:names.length < 64) (hf:q.1∉names) {D:List O7} (hD:qH D=jD dims):P3 (eQ names dims) (N6 (mF D q)) q:=by
 intro r L h;have h:P7 r ((1,W7)::([rJ q.1]++((4,[58])::(N6 (kG (qH D) 8 q.2.1++(mH iG q.2.2.1++(mH HW q.2.2.2++[kS 59,jJ])))++L)))):=h;obtain⟨a1,a2⟩:=P3.nam gq.nm (BA hf) _ _ h.expW;have b:=a1.expS;rw[G1,f8,hD] at b;obtain⟨x1,_,x3⟩:=P3.expr g 8 q.2.1 _ 0 _ gq.g b;rw[G1,f8] at x1;have hB:vZ iG (N6 (mH HW q.2.2.2++[kS 59,jJ])++L):=by
  unfold mH;split
  ·exact kY dc
  ·exact kY dc
 obtain⟨l1,l2⟩:=P3.opt gq.l hB x1;rw[G1,f8] at l1;obtain⟨h1,h2⟩:=P3.opt gq.h (kY (by rfl)) l1;have h1:P7 _ ((4,[59])::L):=h1;unfold eQ;dsimp only at a1 a2 x1 x3 l1 l2 h1 h2 ⊢;rw[jF hl];refine⟨?_,?_⟩
 ·rw[if_neg (λc=>by
   rw[l2,h2] at c;exact gq.o c.1.1 c.1.2 c.2.2)]
  exact h1.expS
 ·rw[a2,x3,l2,h2]
theorem P3.its {α:Type} {w:d8} {tk:List α->RS->RS×α} {I:α->List R0} {xs:List α} (hI :∀x,∃T,N6 (I x)=(1,w)::T) (h :∀i (h:i < xs.length),P3 (tk (xs.take i)) (N6 (I xs[i])) xs[i]) :
  ∀(fu k:Nat) (r:RS) (L:List KT),k+fu>=xs.length->k<=xs.length->vZ w L->P7 r (N6 ((xs.drop k).flatMap I)++L)->P7 (W4 w tk fu r (xs.take k)).1 L/\(W4 w tk fu r (xs.take k)).2=xs
 | 0,k,r,L,hk,hkl,_,hr=>by
  have:k=xs.length:=om
  subst this;rw[oW] at hr;rw[q8];exact⟨hr,rfl⟩
 | fu+1,k,r,L,hk,hkl,hn,hr=>by
  unfold W4;by_cases hlt:k < xs.length
  ·rw[q6 hlt,u7,G1,f8] at hr;have hw:S7 r w=true:=by
    obtain⟨T,hT⟩:=hI xs[k];rw[hT] at hr;exact P7.isW hr
   rw[if_pos hw];obtain⟨u1,u2⟩:=h k hlt r _ hr;rw[u2];have ht:xs.take k++[xs[k]]=xs.take (k+1):=by rw[yU,i7 hlt];rfl
   rw[ht];exact P3.its hI h fu (k+1) _ L om om hn u1
  ·have:k=xs.length:=om
   subst this;rw[oW] at hr;have hr:P7 r L:=hr;rw[if_neg (by rw[hr.notB hn];decide),q8];exact⟨hr,rfl⟩
theorem P3.itsA {α:Type} {w:d8} {tk:List α->RS->RS×α} {I:α->List R0} {xs:List α} (hI :∀x,∃T,N6 (I x)=(1,w)::T) (h :∀i (h:i < xs.length),P3 (tk (xs.take i)) (N6 (I xs[i])) xs[i]) {r:RS} {L:List KT} (hn:vZ w L) (hr:P7 r (N6 (xs.flatMap I)++L)) :
  P7 (W4 w tk (G2 r) r []).1 L/\(W4 w tk (G2 r) r []).2=xs:=
 P3.its hI h (G2 r) 0 r L (by
  rw[hr.rem,d6];have:=pJ (g:=I) (λv=>by obtain⟨T,hT⟩:=hI v;rw[hT];exact E3 _) xs;omega) (j0 _) hn hr
theorem Rs {α:Type} {w w':d8} {I:α->List R0} (hI :∀x,∃T,N6 (I x)=(1,w')::T) (hw:w'≠w) {l:List α} {R:List KT} (hR:vZ w R):vZ w (N6 (l.flatMap I)++R):=by
 cases l with
 | nil=>exact hR
 | cons x l=>
  obtain⟨T,hT⟩:=hI x;rw[u7,G1,hT];intro y hy;have e:y=(1,w'):=(M0 hy).symm;subst e;exact λc=>hw c.2
theorem Mx (x:V9) :∃T,N6 (tN x)=(1,S9)::T:=⟨_,rfl⟩
theorem Kl (x:lW) :∃T,N6 (rO x)=(1,dE)::T:=⟨_,rfl⟩
theorem Hv (x:O7) :∃T,N6 (qI x)=(1,Z8)::T:=⟨_,rfl⟩
theorem Hw (D:List O7) (x:kT) :∃T,N6 (oM D x)=(1,Y8)::T:=⟨_,rfl⟩
theorem Hu (D:List O7) (x:kP) :∃T,N6 (mF D x)=(1,W7)::T:=⟨_,rfl⟩
theorem vY.nms {p:kR} (g:vY p):OJ (p.dims.map (·.1)):=by
 refine⟨λs hs=>?_,λj hj=>?_⟩
 ·obtain⟨d,hd,rfl⟩:=y7.1 hs;exact (L6 g.gd.2 d hd).n
 ·rw[j6] at hj;have:=(g.gd.2 j hj).2;rw[aO,<-List.map_take];exact this
theorem vY.pnm {p:kR} (g:vY p) :∀s∈p.parts.map (·.1),D8 s=true:=λs hs=>by
 obtain⟨x,hx,rfl⟩:=y7.1 hs;exact (L6 g.gp.2 x hx).n
theorem fZ {α:Type} {l:List α} {f:α->d8} {i m:Nat} (h:i < l.length) (hm:l.length<=m):((l.take i).map f).length < m:=by
 rw[j6,j1];omega
theorem Tn (p:kR):N6 (SC p)=(1,fY)::([rJ p.nm]++((4,[59])::(N6 (p.parts.flatMap tN)++(N6 (p.insts.flatMap rO)++(N6 (p.dims.flatMap qI)++(N6 (p.cons.flatMap (oM p.dims))++N6 (p.reqs.flatMap (mF p.dims)))))))):=by
 unfold SC;rw[G1,G1,G1,G1,G1];rfl
theorem Sj {p:kR} (g:vY p) {r:RS} (h:P7 r (N6 (SC p))):(CJ r).1.e=0/\(CJ r).2=p:=by
 have gn:=g.nms;have hD:=TN p.dims;have hlen:((p.dims.map (·.1)).length:Int)=p.dims.length:=by rw[j6]
 rw[Tn] at h;obtain⟨a1,a2⟩:=P3.nam g.gn (chk:=λ_=>0) rfl _ _ h.expW;have a3:=a1.expS;have nQ :∀w,W7≠w->vZ w (N6 (p.reqs.flatMap (mF p.dims))):=λw hw=>by
  have:=Rs (w:=w) (Hu p.dims) hw (l:=p.reqs) (R:=[]) (λ_ hx=>by cases hx);rw[k8] at this;exact this
 have nC :∀w,W7≠w->Y8≠w->vZ w (N6 (p.cons.flatMap (oM p.dims))++N6 (p.reqs.flatMap (mF p.dims))):=λw h1 h2=>Rs (Hw p.dims) h2 (nQ w h1);have nD :∀w,W7≠w->Y8≠w->Z8≠w->vZ w (N6 (p.dims.flatMap qI)++(N6 (p.cons.flatMap (oM p.dims))++N6 (p.reqs.flatMap (mF p.dims)))):=λw h1 h2 h3=>Rs Hv h3 (nC w h1 h2);have nI :∀w,W7≠w->Y8≠w->Z8≠w->dE≠w->vZ w (N6 (p.insts.flatMap rO)++(N6 (p.dims.flatMap qI)++(N6 (p.cons.flatMap (oM p.dims))++N6 (p.reqs.flatMap (mF p.dims))))):=λw h1 h2 h3 h4=>Rs Kl h4 (nD w h1 h2 h3);have hp :∀i (hi:i < p.parts.length),P3 ((λ(out:List V9) r=>dM (out.map (·.1)) r) (p.parts.take i)) (N6 (tN p.parts[i])) p.parts[i]:=λi hi=>P3.par (g.gp.2 i hi).1 (fZ hi g.gp.1) (g.gp.2 i hi).2;have hi :∀i (hi:i < p.insts.length),P3 ((λ(out:List lW) r=>kA (p.parts.map (·.1)) (out.map (·.1)) r) (p.insts.take i)) (N6 (rO p.insts[i])) p.insts[i]:=λi hi=>P3.ins g.pnm (g.gi.2 i hi).1 (fZ hi g.gi.1) (g.gi.2 i hi).2;have hd :∀i (hi:i < p.dims.length),P3 ((λ(out:List O7) r=>kI (out.map (·.1)) r) (p.dims.take i)) (N6 (qI p.dims[i])) p.dims[i]:=λi hi=>P3.dim (g.gd.2 i hi).1 (fZ hi g.gd.1) (g.gd.2 i hi).2;have hc :∀i (hi:i < p.cons.length),P3 ((λ(out:List kT) r=>iC (out.map (·.1)) (p.dims.map (·.1)) r) (p.cons.take i)) (N6 (oM p.dims p.cons[i])) p.cons[i]:=λi hi=>P3.con gn (g.gc.2 i hi).1.1 (by rw[hlen];exact (g.gc.2 i hi).1.2) (fZ hi g.gc.1) (g.gc.2 i hi).2 hD;have hq :∀i (hi:i < p.reqs.length),P3 ((λ(out:List kP) r=>eQ (out.map (·.1)) (p.dims.map (·.1)) r) (p.reqs.take i)) (N6 (mF p.dims p.reqs[i])) p.reqs[i]:=λi hi=>P3.req gn (by rw[hlen];exact (g.gr.2 i hi).1) (fZ hi g.gr.1) (g.gr.2 i hi).2 hD;obtain⟨p1,p2⟩:=P3.itsA (α:=V9) (w:=S9) (tk:=λout r=>dM (out.map (·.1)) r) (I:=tN) (xs:=p.parts) Mx (by intro i h;exact hp i h) (nI _ dc dc dc dc) a3;obtain⟨i1,i2⟩:=P3.itsA (α:=lW) (w:=dE) (tk:=λout r=>kA (p.parts.map (·.1)) (out.map (·.1)) r) (I:=rO) (xs:=p.insts) Kl (by intro i h;exact hi i h) (nD _ dc dc dc) p1;obtain⟨d1,d2⟩:=P3.itsA (α:=O7) (w:=Z8) (tk:=λout r=>kI (out.map (·.1)) r) (I:=qI) (xs:=p.dims) Hv (by intro i h;exact hd i h) (nC _ dc dc) i1;obtain⟨c1,c2⟩:=P3.itsA (α:=kT) (w:=Y8) (tk:=λout r=>iC (out.map (·.1)) (p.dims.map (·.1)) r) (I:=oM p.dims) (xs:=p.cons) (Hw p.dims) (by intro i h;exact hc i h) (nQ _ dc) d1;rw[<-k8 (N6 (p.reqs.flatMap _))] at c1;obtain⟨q1,q2⟩:=P3.itsA (α:=kP) (w:=W7) (tk:=λout r=>eQ (out.map (·.1)) (p.dims.map (·.1)) r) (I:=mF p.dims) (xs:=p.reqs) (Hu p.dims) (by intro i h;exact hq i h) (λ_ hx=>by cases hx) c1;dsimp only at a1 a2 p1 p2 i1 i2 d1 d2 c1 c2 q1 q2;unfold CJ;dsimp only;rw[p2,i2,d2,c2,q2,a2];refine⟨?_,rfl⟩;unfold GU;rw[if_neg (λc=>c q1.peekE.1)];exact q1.1
end Go.Proofs.YtpjhmeicbjkcdaaGreatDoor
namespace Go.Proofs.YtpjhmeicbjkcdaaGreatDoor
open Go Go.RowKit Go.Dw
def BO (G:List d8):d8:=G.reverse.flatten
theorem aZ (G:List d8) (x:d8):BO (G++[x])=x++BO G:=by unfold BO;simp
theorem EC :∀L:List d8,Lib.join L []=L.flatten
 | []=>rfl
 | [x]=>by show oT [] [x]=_;simp[oT]
 | x::y::r=>by
  have ih:=EC (y::r);unfold Lib.join oT at ih ⊢;rw[List.intersperse_cons_cons,s6,s6,ih];rfl
theorem TP (k:Nat):P6 (m6 k 48)=0:=by
 unfold P6;rw[uN];intro d hd;obtain⟨c,hc,rfl⟩:=y7.1 hd;rw[(List.mem_replicate.1 hc).2];rfl
def Ix (m:Nat) (L:d8):Prop:=L.all k9=true/\aM L=true/\P6 L=m
def Iw (M m':Nat) (G:List d8):Prop:=(BO G).all k9=true/\(0 < m'->M=m'*10 ^ (9*G.length)+P6 (BO G)/\(BO G).length=9*G.length)/\(m'=0->0 < G.length/\Ix M (BO G)/\(BO G).length<=9*G.length)
theorem XO {M m':Nat} {G:List d8} (h:Iw M m' G) (h0:0 < m'):Iw M (m' / 1000000000) (G++[if 0 < m' / 1000000000 then m6 (9 - (Lib.decDigits (m' % 1000000000)).length) 48++Lib.decDigits (m' % 1000000000) else Lib.decDigits (m' % 1000000000)]):=by
 obtain⟨h1,h2,_⟩:=h;obtain⟨e1,e2⟩:=h2 h0;obtain⟨d1,d2,d3,d4,d5⟩:=bS (m' % 1000000000);have hlen:=d5 9 dc (A6 _ dc);have hdm:=sJ m' 1000000000;by_cases hq:0 < m' / 1000000000
 ·rw[if_pos hq];have hl:(m6 (9 - (Lib.decDigits (m' % 1000000000)).length) 48++Lib.decDigits (m' % 1000000000)).length=9:=by rw[d6,O1];omega
  refine⟨?_,λ_=>⟨?_,?_⟩,λh=>by omega⟩
  ·rw[aZ,sL,sL,d1,h1,CD,CD];exact s7.2 λc hc=>by rw[(List.mem_replicate.1 hc).2];rfl
  ·rw[aZ,aL,aL,TP,d2,d6,p7,e2,bV,w7,e1];have:10 ^ (9*(G.length+1))=1000000000*10 ^ (9*G.length):=by rw[B7,jR,m8]
   rw[this,<-A0,<-BZ,<-D2];congr 2
   omega
  ·rw[aZ,d6,hl,e2,d6,p7];omega
 ·rw[if_neg hq];have hm:m' % 1000000000=m':=C7 om;rw[hm];clear d1 d2 d3 d4 d5 hlen hdm;obtain⟨d1,d2,d3,d4,d5⟩:=bS m';have hlen:=d5 9 dc om;refine⟨?_,λh=>by omega,λ_=>⟨sQ,⟨?_,?_,?_⟩,?_⟩⟩
  ·rw[aZ,sL,d1,h1];rfl
  ·rw[aZ,sL,d1,h1];rfl
  ·rw[aZ];have:=d4 h0;unfold aM;rw[j4,Q3,decide_eq_true_eq,decide_eq_true_eq];refine⟨by rw[d6];omega,.inr ?_⟩;cases hd:Lib.decDigits m' with
   | nil=>rw[hd] at d3;cases d3
   | cons c r=>
    rw[hd] at this;show (!decide (c=48))=true
    have h48:c≠48:=this;rw[decide_eq_false h48];rfl
  ·rw[aZ,aL,d2,e2,e1]
  ·rw[aZ,d6,e2,d6,p7];omega
theorem RN {a:Option Addr} {n c m:Nat} (w:World) (by':Nat) (hM:cA (Hp.whole w) (.slice a n c) m) (h0:0 < by') (hb:by' < Bs) :
  j2 Tryz.prog 198 #[.slice a n c,.int .u32 by'] w (fQ w λv cs=>∃g a' n' c',cs = [.hp g]/\v=.tuple #[.slice a' n' c',.int .u32 ((m % by':Nat):Int)]/\cA g (.slice a' n' c') (m / by')):=by
 obtain⟨aa,nn,cc,L,e,hs,hc,hl⟩:=hM;cases e;have hcon:=zV w by' hs hc.l om h0 hb
 rw[hc.v] at hcon;refine⟨hcon.1,hcon.2.mono ?_⟩;rintro e w' ⟨v,cs,rfl,hk,g,a',n',c',L',rfl,rfl,hs',hc'⟩;exact⟨_,_,rfl,hk,g,a',n',c',rfl,rfl,⟨_,_,_,L',rfl,hs',hc',by have:=hc'.le_len hc (D0 m by');omega⟩⟩
set_option maxRecDepth 20000 in
set_option maxHeartbeats 2000000 in
theorem CI (g0:Bool) {a:Option Addr} {n c M:Nat} (w:World) (hM:cA (Hp.whole w) (.slice a n c) M) (hg0:g0=true->0 < M) (hm:M < 100000000000000000000) (hP:dY (Hp.whole w)) :
  j2 Tryz.prog 150 #[T8 g0 a n c] w (fQ w λv cs=>cs = []/\∃L,v=sv (if g0=true then 45::L else L)/\Ix M L/\L.length<=27):=by
 have hn0:=hM.len;unfold T8;refine enterZ (cx 49) [.agg #[.bool g0,.slice a n c]] [.tmp 2] Tryz.func150 ?_;intro b1;refine d9 (λh1=>?_) λh1=>?_
 ·have h1:M=0:=hn0.1 om;have hgf:g0=false:=by cases g0 with | false=>rfl | true=>exact absurd (hg0 rfl) om
  subst hgf;exact⟨[],⟨rfl,[48],rfl,⟨rfl,rfl,by rw[h1];rfl⟩,dc⟩,pk [0]⟩
 ·have hM0:0 < M:=E4 λe=>h1 (by have:=hn0.2 e;omega);refine z6.mkS (Dw.Os×List d8×(Option Addr×Nat×Nat)×Hp×Nat) (λg=>[(1,.bx 1 0),(3,.v g.1.v),(4,.v (.slice g.2.2.1.1 g.2.2.1.2.1 g.2.2.1.2.2))]) (λg=>[.hp (Hp.whole w),.box b1 [.bool g0,.slice a n c] 139,.hp g.1.h,.hp g.2.2.2.1])
   (λg=>w5 fS 9 1 g.1 g.2.1/\Nv (Hp.whole w) g.2.2.2.1 g.2.2.1 g.2.2.2.2/\Iw M g.2.2.2.2 g.2.1/\g.2.1.length<=3/\g.2.2.2.2*10 ^ (9*g.2.1.length)<=M) (λg=>g.2.2.2.2)
   (Os.nil,[],(a,n,c),Hp.emp,M) ⟨w5.nil _ _ _,λk l1 _=>hM.mono l1,⟨rfl,λ_=>⟨by show M=M*10 ^ 0+0;simp,rfl⟩,λh=>by dsimp only at h;omega⟩,j0 _,by show M*10 ^ 0<=M;simp⟩ (y6.mk (λ_ _ h=>(h.emp).emp.pick [0,1,2,3] rfl rfl) rfl rfl) ?_
  rintro⟨o,G,⟨a2,n2,c2⟩,gh,m'⟩ ⟨hO,hRd,hG,hGl,hle⟩ hsat;dsimp only at *;have hRd' :∀k,(Hp.whole w).le k->gh.le k->cA k (.slice a2 n2 c2) m':=hRd;have hl:=(hRd' ((Hp.whole w).join gh) (Hp.le_left _ _) (hsat.leR 0 3 rfl rfl)).len;clear hsat;have hm':m'<=M:=q9 (Nat.le_mul_of_pos_right m' (E4 λe=>by have:=Nat.pow_eq_zero.1 e;omega)) hle;refine d9 (λh2=>?_) λh2=>?_
  ·have h0:0 < m':=E4 λe=>by have:=hl.2 e;omega
   have hst:=XO hG h0;obtain⟨d1,d2,d3,d4,d5⟩:=bS (m' % 1000000000);have hlen:=d5 9 dc (A6 _ dc);have hrm:m' % 1000000000 < 1000000000:=A6 _ dc;have hG2:G.length<=2:=by
    refine j3 λg=>?_;have e3:G.length=3:=om
    rw[e3] at hle;have:1*10 ^ 27<=m'*10 ^ 27:=y9 _ h0;have e4:(10:Nat) ^ 27=1000000000000000000000000000:=dc
    rw[show 9*3=27 from rfl] at hle;omega
   have hle2:m' / 1000000000*10 ^ (9*(G.length+1))<=M:=by
    have e3:10 ^ (9*(G.length+1))=1000000000*10 ^ (9*G.length):=by rw[B7,jR,m8]
    rw[e3,<-A0];exact q9 (y9 _ (Nat.div_mul_le_self _ _)) hle
   have hlt:m' / 1000000000 < m':=Nat.div_lt_self h0 dc;refine EO (λw' hm=>RN w' 1000000000 (hRd' _ (hm 0 _ rfl).whole (hm 3 _ rfl).whole) dc dc) ?_;rintro _ _ ⟨g,a3,n3,c3,rfl,rfl,hM3⟩ _;have hl3:=hM3.len;obtain⟨r,hr⟩ :∃r,r=m' % 1000000000:=⟨_,rfl⟩
   obtain⟨m3,hm3⟩ :∃m3,m3=m' / 1000000000:=⟨_,rfl⟩
   rw[<-hr];rw[<-hr,<-hm3] at hst;rw[<-hm3] at hM3 hl3;rw[<-hr] at hlen d3 hrm;rw[<-hm3] at hle2 hlt;clear hr hm3;refine nwo ?_;refine k7 _ (λw' hm=>SS r om w' (hP.mono (hm 0 _ rfl).whole)) ?_;refine d9 (λh3=>?_) λh3=>?_;focus
    rw[if_pos (show 0 < m3 from E4 λe=>by have:=hl3.2 e;omega)] at hst;refine AK (y:=((9 - (Lib.decDigits r).length:Nat):Int)) (by rw[C8];omega) om om ?_;refine k7 _ (λw' hm=>FT (9 - (Lib.decDigits r).length) om w') ?_;refine gG (ty:=9) (by rw[O1];omega) ?_;intro b37;refine gZ (f:=fS) cQ (e:=9) rfl (i:=2) rfl hO (j:=5) (m6 (9 - (Lib.decDigits r).length) 48++Lib.decDigits r) rfl rfl rfl rfl om λo2 ho2=>?_
   rotate_left
   focus
    have h30:m3=0:=hl3.1 om;rw[if_neg om] at hst;intro b37;refine gZ (f:=fS) cQ (e:=9) rfl (i:=2) rfl hO (j:=5) (Lib.decDigits r) rfl rfl rfl rfl om λo2 ho2=>?_
   all_goals
    exact⟨(o2,_,(a3,n3,c3),g,m3),⟨ho2,λk _ l2=>hM3.mono l2,hst,by dsimp only;rw[d6,p7];omega,by dsimp only;rw[d6,p7];exact hle2⟩,hlt,y6.mk (pj [0,1,2,4]) rfl rfl⟩
  ·have hm0:m'=0:=hl.1 om;obtain⟨hG0,hD,hDl⟩:=hG.2.2 hm0;refine k6 (i:=2) rfl (λw0 w' hok=>xO w' (hok.mem 2 _ rfl) hO om) ?_;rintro _ h' _ ⟨rfl,rfl,hO2⟩;have ej:Lib.join G.reverse []=BO G:=EC _;refine k7 _ (λw' hm=>AV (o:=⟨o.a,o.n,o.c,h'⟩) w' [] (hm 2 _ rfl) hO2 (by rw[List.length_reverse];exact hG0) (by rw[List.length_reverse];omega) (by rw[ej];omega)) ?_;rw[ej];refine v7 (λhg=>?_) λhg=>?_
   ·subst hg;refine gG (a:=[45]) (ty:=9) (by simp only[d7,i6];omega) ?_;exact⟨[],⟨rfl,BO G,rfl,hD,om⟩,pk [0]⟩
   ·subst hg;exact⟨[],⟨rfl,BO G,rfl,hD,om⟩,pk [0]⟩
end Go.Proofs.YtpjhmeicbjkcdaaGreatDoor
namespace Go.Dw
open Go Go.RowKit
theorem wN {P:Program} {ops:Array Oper} {Q:Exit->Act->World->Prop} {md:Region.Mode} {S S':World->Prop} {N:Nat->Prop} (hS :∀w,S w->S' w) :∀(fuel:Nat) (listed:Array Bool) (a:Act) (w:World),W6 P md ops Q S N fuel listed a w->W6 P md ops Q S' N fuel listed a w
 | 0,_,_,_,h=>h
 | fuel+1,_,_,_,h=>⟨h.1,λi hi=>wpOp_mono (λa' w' h'=>⟨λhn=>hS _ (h'.1 hn),wN hS fuel _ a' w' h'.2⟩) (h.2 i hi)⟩
theorem Bw {s0 s:List Ch} (hs:W9 s0 s) {w:World} (h:iE s w):iE s0 w:=λi c e=>by
 rcases T0 hs i c e with h' | rfl
 ·exact h i c h'
 ·exact Hp.emp_in _
inductive DU where
 | done
 | take (i:Nat) (k:DU)
 | run (i:Nat) (k:DU)
 | two (i:Nat) (k:DU) (j:Nat) (k':DU)
 | three (i:Nat) (k:DU) (j:Nat) (k':DU) (l:Nat) (k'':DU)
 | reb (k:DU)
def DU.takes:DU->List Nat
 | .done=>[]
 | .take i k=>i::k.takes
 | .run _ k=>k.takes
 | .two _ k _ k'=>k.takes++k'.takes
 | .three _ k _ k' _ k''=>k.takes++k'.takes++k''.takes
 | .reb k=>k.takes
def DU.steps:DU->Nat
 | .done=>0
 | .take _ k=>k.steps+1
 | .run _ k=>k.steps+1
 | .two _ k _ k'=>uW k.steps k'.steps+1
 | .three _ k _ k' _ k''=>uW (uW k.steps k'.steps) k''.steps+1
 | .reb k=>k.steps
def DU.ok (ops:Array Oper):DU->Array Bool->Bool
 | .done,l=>(Region.ready .any ops l).isEmpty
 | .take i k,l=>(Region.ready .any ops l).contains i && Region.free .any ops l i && k.ok ops (l.setIfInBounds i true)
 | .run i k,l=>decide (Region.ready .any ops l = [i]) && k.ok ops (l.setIfInBounds i true)
 | .two i k j k',l=>decide (Region.ready .any ops l = [i,j]) && k.ok ops (l.setIfInBounds i true) && k'.ok ops (l.setIfInBounds j true)
 | .three i k j k' m k'',l=>decide (Region.ready .any ops l = [i,j,m]) && k.ok ops (l.setIfInBounds i true) && k'.ok ops (l.setIfInBounds j true) && k''.ok ops (l.setIfInBounds m true)
 | .reb k,l=>k.ok ops l
def DU.fine (ops:List Oper) (d:DU):Bool:=Region.noSelect ops.toArray && P9 d.steps ops.length && d.ok ops.toArray (Array.replicate ops.length false)
def jE (ops:List Oper) (takes:List Nat) (i:Nat) (k:DU):Bool:=match S1 ops takes i with | true=>true | false=>(match k.takes with | []=>false | _=>true)
def wJ (X:Q2) (ops:List Oper) (i:Nat) (need:Bool) (s0:List Ch) (cont:Tm->List Ch->Prop) (t:Tm) (s:List Ch):Prop:=match jX ops i with
 | some o=>aH ops o t
   (λt=>HT X s t o λtv s'=>putk X.n t o.dst tv λt'=>match need with | true=>W9 s0 s'/\cont t' s' | false=>cont t' s')
   (λt=>putk X.n t o.dst (.v undef) λt'=>match need with | true=>W9 s0 s/\cont t' s | false=>cont t' s)
 | none=>False
def V7 (X:Q2) (ops:List Oper) (takes:List Nat):DU->List Ch->(Tm->List Ch->Prop)->Tm->List Ch->Prop
 | .done,_,Q,t,s=>Q t s
 | .take i k,s0,Q,t,s=>match jX ops i with
  | some o=>match UT o.op with
   | true=>aH ops o t
    (λt=>wq X s0 t o.op λtv=>putk X.n t o.dst tv λt'=>V7 X ops takes k s0 Q t' s)
    (λt=>putk X.n t o.dst (.v undef) λt'=>V7 X ops takes k s0 Q t' s)
   | false=>False
  | none=>False
 | .run i k,s0,Q,t,s=>wJ X ops i (jE ops takes i k) s0 (λt s=>V7 X ops takes k s0 Q t s) t s
 | .two i k j k',s0,Q,t,s=>wJ X ops i (jE ops takes i k) s0 (λt s=>V7 X ops takes k s0 Q t s) t s/\wJ X ops j (jE ops takes j k') s0 (λt s=>V7 X ops takes k' s0 Q t s) t s
 | .three i k j k' m k'',s0,Q,t,s=>wJ X ops i (jE ops takes i k) s0 (λt s=>V7 X ops takes k s0 Q t s) t s/\wJ X ops j (jE ops takes j k') s0 (λt s=>V7 X ops takes k' s0 Q t s) t s/\wJ X ops m (jE ops takes m k'') s0 (λt s=>V7 X ops takes k'' s0 Q t s) t s
 | .reb k,s0,Q,t,s=>W9 s0 s/\V7 X ops takes k s Q t s
section
variable {X:Q2} {n:Nat} {t:Tm} {s:List Ch} {a:Act}
theorem RD (hX:X.Good) {ops:List Oper} {takes:List Nat} {w0:World} {Q:Exit->Act->World->Prop} {q:Tm->List Ch->Prop}
  (hQ :∀t s a w,Fr X.n t s a->Ok w0 s w->q t s->Q .normal a w) (hP :∀c a w,¬ Q (.panic c) a w) (hsel:Region.noSelect ops.toArray=true) :
  ∀(d:DU) (s0:List Ch) (fuel:Nat) (listed:Array Bool) (t:Tm) (s:List Ch) (a:Act) (w:World),d.steps<=fuel->d.ok ops.toArray listed=true->(∀i∈d.takes,i∈takes)->
   V7 X ops takes d s0 q t s->Fr X.n t s a->Ok w0 s w->(d.takes≠[]->W9 s0 s)->
   W6 X.P .any ops.toArray Q (iE s0) (λj=>S1 ops takes j=true) fuel listed a w:=by
 have hP' :∀(oi:Oper) (v:Value) c a w,Q (.panic c) (a.put oi.dst v) w->Q (.panic c) a w:=λ_ _ c _ w h=>absurd h (hP c _ w);have subval :∀{s s':List Ch},W9 s s'->∀tv v,TV.val s tv=some v->TV.val s' tv=some v:=by
  intro s s' hs tv v hv;cases tv with
  | v x=>exact hv
  | bx i off=>
   obtain⟨b,cs,T,h1,h2⟩:=sX hv;simp[TV.val,(T0 hs i _ h1).resolve_right (λe=>by cases e),h2]
  | bs i n=>
   obtain⟨b,cs,T,h1,h2⟩:=OV hv;simp[TV.val,(T0 hs i _ h1).resolve_right (λe=>by cases e),h2]
 have sub_mem :∀{s0 s:List Ch} {w:World},W9 s0 s->Ok w0 s w->iE s0 w:=λhs hok i c e=>by
  rcases T0 hs i c e with h | rfl
  ·exact hok.mem i c h
  ·exact Hp.emp_in _
 have runc :∀(s0:List Ch) (i:Nat) (k:DU) (fuel:Nat) (listed:Array Bool) (t:Tm) (s:List Ch) (a:Act) (w:World),
   (∀(t:Tm) (s:List Ch) (a:Act) (w:World),V7 X ops takes k s0 q t s->Fr X.n t s a->Ok w0 s w->(k.takes≠[]->W9 s0 s)->
    W6 X.P .any ops.toArray Q (iE s0) (λj=>S1 ops takes j=true) fuel (listed.setIfInBounds i true) a w)->
   wJ X ops i (jE ops takes i k) s0 (λt s=>V7 X ops takes k s0 q t s) t s->Fr X.n t s a->Ok w0 s w->
   wpOp X.P ops.toArray Q i (λa' w'=>(S1 ops takes i=true->iE s0 w')/\W6 X.P .any ops.toArray Q (iE s0) (λj=>S1 ops takes j=true) fuel (listed.setIfInBounds i true) a' w') a w:=by
  intro s0 i k fuel listed t s a w ih h hf hok;unfold wJ at h;rw[Q9] at h;cases ho:ops[i]? with
  | none=>simp[ho] at h
  | some o=>
   simp only[ho] at h;have fin :∀{t':Tm} {s':List Ch} {a':Act} {w':World},(match jE ops takes i k with | true=>W9 s0 s'/\V7 X ops takes k s0 q t' s' | false=>V7 X ops takes k s0 q t' s')->
     Fr X.n t' s' a'->Ok w0 s' w'->(S1 ops takes i=true->iE s0 w')/\W6 X.P .any ops.toArray Q (iE s0) (λj=>S1 ops takes j=true) fuel (listed.setIfInBounds i true) a' w':=by
    intro t' s' a' w' hm hf' hok';cases hn:jE ops takes i k with
    | true=>
     simp only[hn] at hm;exact⟨λ_=>sub_mem hm.1 hok',ih t' s' a' w' hm.2 hf' hok' λ_=>hm.1⟩
    | false=>
     simp only[hn] at hm;unfold jE at hn;cases hs:S1 ops takes i with
     | true=>simp[hs] at hn
     | false=>
      simp only[hs] at hn;refine⟨(λh=>by cases h),ih t' s' a' w' hm hf' hok' λhk=>?_⟩;cases hkk:k.takes with
      | nil=>exact absurd hkk hk
      | cons x xs=>simp[hkk] at hn
   unfold wpOp;have ho':ops.toArray[i]?=some o:=by simpa using ho
   simp only[ho'];rcases R8 hf h with ⟨hw,t',hf',hy⟩ | ⟨hw,t',hf',hn⟩
   ·rw[if_pos hw];refine .inl (EY hX hf' hy w0 w hok _ Q λtv v s' w' hok' hk hv hp=>?_);obtain⟨t'',h1,h2⟩:=(hf'.keep hk).putk hv hp;exact fin h1 h2 hok'
   ·rw[if_neg (by rw[hw];simp)];obtain⟨t'',h1,h2⟩:=hf'.putk (tv:=.v undef) rfl hn;exact fin h1 h2 hok
 intro d;induction d with
 | done=>
  intro s0 fuel listed t s a w _ hok _ h hf hw _;exact wM (by simpa [DU.ok] using hok) (hQ t s a w hf hw h) fuel
 | take i k ih=>
  intro s0 fuel listed t s a w hst hok htk h hf hw hsub;have hs0:W9 s0 s:=hsub (by simp[DU.takes]);cases fuel with
  | zero=>simp[DU.steps] at hst
  | succ fuel=>
   simp only[DU.ok,j4] at hok;obtain⟨⟨hr,hfree⟩,hk⟩:=hok;simp only[V7] at h;rw[Q9] at h;cases ho:ops[i]? with
   | none=>simp[ho] at h
   | some o=>
    simp only[ho] at h;have ho':ops.toArray[i]?=some o:=by simpa using ho
    cases hq:UT o.op with
    | false=>simp[hq] at h
    | true=>
     simp only[hq] at h;have main :∀(v:Value) (t'':Tm),YieldsIf X.P ops.toArray (iE s0) o v a->Fr X.n t'' s (a.put o.dst v)->V7 X ops takes k s0 q t'' s->
       W6 X.P .any ops.toArray Q (iE s0) (λj=>S1 ops takes j=true) (fuel+1) listed a w:=by
      intro v t'' hy hf'' hd;refine sP ho' (Region.noSelect_spec hsel) (hP' o v) (λj oj hj hno=>?_) fuel listed a w (Region.free_spec ho' hfree) (by simpa using hr) hy (sub_mem hs0 hw)
       (ih s0 fuel _ t'' s _ w (by simp[DU.steps] at hst;omega) hk (λj hj=>htk j (by simp[DU.takes,hj])) hd hf'' hw λ_=>hs0)
      unfold S1;refine E5.2 ⟨i,htk i (by simp[DU.takes]),?_⟩;rw[Q9];have hj':ops[j]?=some oj:=by simpa using hj
      simp only[hj',yW,K8,j4,not_and];intro e he hb heq;exact hno e (Array.mem_toList_iff.1 he) hb (I3 heq)
     rcases R8 hf h with ⟨hwt,t',hf',hy⟩ | ⟨hwt,t',hf',hn⟩
     ·have hfw:CF t' s0 a:=λj tv v h1 h2=>hf'.w j tv v h1 (subval hs0 tv v h2);obtain⟨tv,v,h1,h2,h3⟩:=OQ hX hfw hq hy;obtain⟨t'',h4,h5⟩:=hf'.putk (subval hs0 tv v h1) h2;exact main v t'' (.inl ⟨hwt,h3⟩) h5 h4
     ·obtain⟨t'',h4,h5⟩:=hf'.putk (tv:=.v undef) rfl hn;exact main undef t'' (.inr ⟨hwt,rfl⟩) h5 h4
 | run i k ih=>
  intro s0 fuel listed t s a w hst hok htk h hf hw hsub;cases fuel with
  | zero=>simp[DU.steps] at hst
  | succ fuel=>
   simp only[DU.ok,j4,decide_eq_true_eq] at hok;refine⟨(λh0=>by rw[hok.1] at h0;cases h0),λi' hi'=>?_⟩;rw[hok.1] at hi';have:i'=i:=by simpa using hi'
   subst this;exact runc s0 i' k fuel listed t s a w (λt s a w h hf hw hs=>ih s0 fuel _ t s a w (by simp[DU.steps] at hst;omega) hok.2 (λj hj=>htk j (by simpa [DU.takes] using hj)) h hf hw hs) h hf hw
 | two i k j k' ih ih'=>
  intro s0 fuel listed t s a w hst hok htk h hf hw hsub;cases fuel with
  | zero=>simp[DU.steps] at hst
  | succ fuel=>
   simp only[DU.ok,j4,decide_eq_true_eq] at hok;simp only[DU.steps] at hst;have hm:=X5 k.steps k'.steps;have hm':=U8 k.steps k'.steps;refine⟨(λh0=>by rw[hok.1.1] at h0;cases h0),λi' hi'=>?_⟩;rw[hok.1.1] at hi';rcases (by simpa using hi':i'=i\/i'=j) with rfl | rfl
   ·exact runc s0 i' k fuel listed t s a w (λt s a w h hf hw hs=>ih s0 fuel _ t s a w (q9 hm (D5 hst)) hok.1.2 (λj hj=>htk j (by simp[DU.takes,hj])) h hf hw hs) h.1 hf hw
   ·exact runc s0 i' k' fuel listed t s a w (λt s a w h hf hw hs=>ih' s0 fuel _ t s a w (q9 hm' (D5 hst)) hok.2 (λj hj=>htk j (by simp[DU.takes,hj])) h hf hw hs) h.2 hf hw
 | three i k j k' m k'' ih ih' ih''=>
  intro s0 fuel listed t s a w hst hok htk h hf hw hsub;cases fuel with
  | zero=>simp[DU.steps] at hst
  | succ fuel=>
   simp only[DU.ok,j4,decide_eq_true_eq] at hok;simp only[DU.steps] at hst;have hm0:=X5 (uW k.steps k'.steps) k''.steps;have hm:=q9 (X5 k.steps k'.steps) hm0;have hm':=q9 (U8 k.steps k'.steps) hm0;have hm'':=U8 (uW k.steps k'.steps) k''.steps;refine⟨(λh0=>by rw[hok.1.1.1] at h0;cases h0),λi' hi'=>?_⟩;rw[hok.1.1.1] at hi';rcases (by simpa using hi':i'=i\/i'=j\/i'=m) with rfl | rfl | rfl
   ·exact runc s0 i' k fuel listed t s a w (λt s a w h hf hw hs=>ih s0 fuel _ t s a w (q9 hm (D5 hst)) hok.1.1.2 (λj hj=>htk j (by simp[DU.takes,hj])) h hf hw hs) h.1 hf hw
   ·exact runc s0 i' k' fuel listed t s a w (λt s a w h hf hw hs=>ih' s0 fuel _ t s a w (q9 hm' (D5 hst)) hok.1.2 (λj hj=>htk j (by simp[DU.takes,hj])) h hf hw hs) h.2.1 hf hw
   ·exact runc s0 i' k'' fuel listed t s a w (λt s a w h hf hw hs=>ih'' s0 fuel _ t s a w (q9 hm'' (D5 hst)) hok.2 (λj hj=>htk j (by simp[DU.takes,hj])) h hf hw hs) h.2.2 hf hw
 | reb k ih=>
  intro s0 fuel listed t s a w hst hok htk h hf hw hsub;have h1:=ih s fuel listed t s a w hst hok htk h.2 hf hw (λ_=>fK s);exact wN (λw' hm=>Bw h.1 hm) fuel listed a w h1
theorem u6.by_orderU0 {X:Q2} (hX:X.Good) {ops:List Oper} {Q:Tm->List Ch->Prop} {t:Tm} {s s0:List Ch} (d:DU) (hd:d.fine ops=true) (hs:W9 s0 s) (h:V7 X ops d.takes d s0 Q t s):u6 X ops Q t s:=by
 refine⟨λw0 w a Q' hok hf hQ hP=>?_⟩;unfold DU.fine at hd;simp only[j4] at hd;obtain⟨⟨h1,h2⟩,h3⟩:=hd;have hlen:ops.toArray.size=ops.length:=sQ
 rw[hlen];exact qW _ _ _ _ (RD hX (λt s a w hf hok hq=>hQ t s a w hok hf hq) hP h1 d s0 ops.length _ t s a _ (D3 h2) h3 (λi hi=>hi) h hf hok.drew λ_=>hs)
theorem u6.by_orderU {X:Q2} (hX:X.Good) {ops:List Oper} {Q:Tm->List Ch->Prop} {t:Tm} {s:List Ch} (d:DU) (hd:d.fine ops=true) (h:V7 X ops d.takes d s Q t s):u6 X ops Q t s:=
 u6.by_orderU0 hX d hd (fK s) h
end
end Go.Dw
