/- Parts of one proof, joined. No condition of its own. -/
import Derived.Test.YtpjhmeicbjkcdaaGreatDoorZB2
import Derived.Laws.BytesArg
import Derived.Shelf.Strings.Count
import Derived.Ground.NamesProg
import Derived.Test.YtpjhmeicbjkcdaaGreatDoorProg
import Derived.Shelf.GgClosure.StringsIndexFunc
import Derived.Laws.RangeString
import Derived.Laws.RangeAny
import Derived.Shelf.Strings.FuncGrows
import Derived.Ground.GgwProg
import Derived.Laws.StructEq
import Derived.Lib.AppendStr
import Derived.Shelf.Strings.OnBuilder
import Derived.Maps.RangeRun
open Bool renaming and_eq_true->k6,or_eq_true->U8,eq_iff_iff->L6,false_or->AV,or_true->kB,false_and->U4,true_and->F6,false_ne_true->H0,not_eq_false'->iM,not_eq_true'->Z7,not_not->kC,false_eq_true->iN,and_true->Nf
open Classical renaming byContradiction->j9,not_not->l9
open Int renaming eq_ofNat_of_zero_le->aS
open List renaming append_nil->p8,drop_drop->R2,drop_eq_getElem_cons->r5,drop_of_length_le->bW,getD_eq_getElem?_getD->i7,getElem?_drop->bV,getElem?_eq_getElem->i6,length_drop->k9,takeWhile_cons->D8,all_cons->T6,drop_left'->FJ,length_append->d6,length_cons->d7,take_left'->Y7,append_assoc->o6,length_take->j8,mem_append->G1,mem_singleton->E2,take_add->SR,take_succ_cons->SK,any_eq_false->J8,getElem?_append_right->N0,length_nil->d9,length_singleton->w7,mem_cons->A8,mem_cons_of_mem->A9,nil_append->N6,not_mem_nil->Q0,take_append_drop->E4,flatMap_append->V1,length_replicate->O9,replicate->p7,set_eq_take_append_cons_drop->YD,take_length->p9,take_zero->R1,flatMap_cons->I6,getElem?_map->G7,length_map->l7,map_cons->N7,getElem?_append_left->Y0,getElem?_cons_succ->aR,getElem?_replicate->Nj,any_cons->Nc,drop_eq_nil_of_le->H4,drop_zero->H6,mem_map->G6,mem_range->aP,range->z8,getElem_mem->j0,getElem?_eq_some_iff->q9,ext_getElem->Fw,getElem_map->eJ,length_range->L9,any_eq_true->E6,take_of_length_le->u7,getElem_set->Fv,length_eq_zero_iff->M0,length_set->N8,all_eq_true->z6,getElem_of_mem->qG,length_pos_iff->G2,eq_nil_of_length_eq_zero->w9,ext_getElem?->O8,getElem?_eq_none->X4,getElem?_set->O7,size_toArray->Z6,take_left->uS,length->F7,map_append->E9,mem_cons_self->bU
open List.cons renaming inj->Nb,injEq->FK
open Nat renaming add_zero->G3,eq_zero_or_pos->w6,le_refl->k8,lt_irrefl->nW,strongRecOn->gY,sub_self->bS,zero_add->y8,zero_lt_succ->O2,add_sub_cancel_left->BS,blt->PB,blt_eq->Lp,mul_one->E3,zero_le->f8,lt_or_ge->K8,not_lt_zero->H5,ble->R0,le_of_ble_eq_true->E0,add_mul->D9,min_eq_left->Y5,mod_eq_of_lt->C9,mod_lt->C8,mul_add->B9,mul_assoc->A0,mul_comm->q8,mul_le_mul->Q9,mul_left_comm->jZ,mul_zero->jY,pow_add->iO,pow_succ->O3,zero_mul->Z4,pow_le_pow_right->I4,add_assoc->nX,lt_of_le_of_lt->s7
open Option renaming isSome_iff_exists->Mz
namespace Go.Proofs.YtpjhmeicbjkcdaaGreatDoor
def EB (s:e8) (k:Nat) (p:Nat×Nat) (out:List kX):List kX×Nat×Nat×Int:=cE (s.length - k+1) (s.drop k) p out
theorem ZF {s:e8} {k f:Nat} (hf:s.length - k < f) (p:Nat×Nat) (out:List kX):cE f (s.drop k) p out=EB s k p out:=
 GD (s.drop k).length f _ (s.drop k) p out (k8 _) (by rw[k9];exact hf) (by rw[k9];omega)
theorem pO {s:e8} {k:Nat} (hk:k < s.length):s.drop k=s.getD k 0::s.drop (k+1):=by
 rw[r5 hk,i7,i6 hk];rfl
theorem cL (s:e8) (k i:Nat):(s.drop k).getD i 0=s.getD (k+i) 0:=by
 rw[i7,bV,<-i7]
theorem EA {s:e8} {k:Nat} (hk:k < s.length) (p:Nat×Nat) (out:List kX):EB s k p out =
  if (nZ (s.drop k)).2.2≠0 then ([],(K6 p ((s.drop k).take (nZ (s.drop k)).1)).1,(K6 p ((s.drop k).take (nZ (s.drop k)).1)).2,(nZ (s.drop k)).2.2)
  else EB s (k+(nZ (s.drop k)).1) (K6 p ((s.drop k).take (nZ (s.drop k)).1)) (out++Mi p (nZ (s.drop k)).2.1):=by
 have h0:0 < (s.drop k).length:=by rw[k9];omega
 have hst:=DQ h0;have e:EB s k p out=cE (s.length - k+1) (s.getD k 0::s.drop (k+1)) p out:=by unfold EB;rw[pO hk]
 rw[e,DZ,<-pO hk];split
 ·rfl
 ·rename_i h
  have:=hst (j9 h);rw[k9] at this;rw[R2];exact ZF om _ _
theorem NM {s:e8} {k:Nat} (hk:s.length<=k) (p:Nat×Nat) (out:List kX):EB s k p out=(out++[(5,[],p.1,p.2)],0,0,0):=by
 unfold EB;rw[bW hk];cases s.length - k+1 <;> rfl
theorem PV {s:e8} {k:Nat} (hk:k < s.length) (h:s.getD k 0=32\/s.getD k 0=10) (p:Nat×Nat) (out:List kX):EB s k p out=EB s (k+1) (bX p (s.getD k 0)) out:=by
 have e:nZ (s.drop k)=(1,[],0):=by unfold nZ;rw[cL,G3,if_pos h]
 rw[EA hk,e,if_neg dc,pO hk];show EB s (k+1) (bX p (s.getD k 0)) (out++[])=_
 rw[p8]
theorem TW {s:e8} {k:Nat} (hk:k < s.length) (h:s.getD k 0=35) (p:Nat×Nat) (out:List kX):EB s k p out=EB s (k+s9 (λc=>!decide (c=10)) (s.drop k)) (K6 p ((s.drop k).take (s9 (λc=>!decide (c=10)) (s.drop k)))) out:=by
 have e:nZ (s.drop k)=(s9 (λc=>!decide (c=10)) (s.drop k),[],0):=by unfold nZ;rw[cL,G3,if_neg (by rw[h];decide),if_pos h]
 rw[EA hk,e,if_neg (λg=>g rfl)];show EB s _ _ (out++[])=_
 rw[p8]
def JV (c:UInt8):Prop:=c≠32/\c≠10/\c≠35
theorem NL {s:e8} {k:Nat} (hk:k < s.length) (h:JV (s.getD k 0)) (p:Nat×Nat) (out:List kX):EB s k p out =
  if (A6 (s.drop k)).2.2.2≠0 then ([],(K6 p ((s.drop k).take (A6 (s.drop k)).1)).1,(K6 p ((s.drop k).take (A6 (s.drop k)).1)).2,(A6 (s.drop k)).2.2.2)
  else EB s (k+(A6 (s.drop k)).1) (K6 p ((s.drop k).take (A6 (s.drop k)).1)) (out++[((A6 (s.drop k)).2.1,(A6 (s.drop k)).2.2.1,p.1,p.2)]):=by
 have e:nZ (s.drop k)=((A6 (s.drop k)).1,[((A6 (s.drop k)).2.1,(A6 (s.drop k)).2.2.1)],(A6 (s.drop k)).2.2.2):=by
  unfold nZ;rw[cL,G3,if_neg (λg=>g.elim h.1 h.2.1),if_neg h.2.2]
 rw[EA hk,e];rfl
theorem YU {s:e8} {k:Nat} (hk:k < s.length) (h:JV (s.getD k 0)) (h0:(A6 (s.drop k)).2.2.2=0):0 < (A6 (s.drop k)).1/\k+(A6 (s.drop k)).1<=s.length:=by
 have e:nZ (s.drop k)=((A6 (s.drop k)).1,[((A6 (s.drop k)).2.1,(A6 (s.drop k)).2.2.1)],(A6 (s.drop k)).2.2.2):=by
  unfold nZ;rw[cL,G3,if_neg (λg=>g.elim h.1 h.2.1),if_neg h.2.2]
 have:=DQ (s:=s.drop k) (by rw[k9];omega) (by rw[e];exact h0);rw[e,k9] at this;exact⟨this.2,by have:=this.1;omega⟩
theorem GE {s:e8} (h:s.length<=65536):aK s=EB s 0 (1,1) []:=by
 unfold aK EB;rw[if_neg om];rfl
def X5 (s:e8):Nat:=if P4 (s.getD 0 0)=true then s9 K7 s else 0
def yR (s:e8):Nat×Nat:=if s9 l8 s=0 then (0,0) else K5 s
theorem OD {c:UInt8} (h:P4 c=true):K7 c=true:=by unfold K7;rw[h];rfl
theorem bE (f:UInt8->Bool) (l:e8):0 < s9 f l↔0 < l.length/\f (l.getD 0 0)=true:=by
 cases l with
 | nil=>unfold s9;simp
 | cons c l=>
  unfold s9;rw[D8];by_cases h:f c=true
  ·rw[if_pos h];simp[h]
  ·rw[if_neg h];simp[h]
theorem iS {s:e8} (h0:0 < s.length) (hq:s.getD 0 0≠34):A6 s =
  if 0 < X5 s then (if 40 < X5 s then (0,1,[],5) else (X5 s,1,s.take (X5 s),0))
  else if 0 < (yR s).1 then (if 400 < (yR s).1 then (0,2,[],5) else if bO (s.take (yR s).1) (yR s).2 then ((yR s).1,2,s.take (yR s).1,0) else (0,2,[],3))
  else if P6 s=0 then (0,4,[],14) else (P6 s,4,s.take (P6 s),0):=by
 have e:A6 s=if s.getD 0 0=34 then ((M7 (s.drop 1) 1 []).1,3,(M7 (s.drop 1) 1 []).2.1,(M7 (s.drop 1) 1 []).2.2)
  else if P4 (s.getD 0 0) then (if 40 < s9 K7 s then (0,1,[],5) else (s9 K7 s,1,s.take (s9 K7 s),0))
  else if l8 (s.getD 0 0) then (if 400 < (K5 s).1 then (0,2,[],5) else if bO (s.take (K5 s).1) (K5 s).2 then ((K5 s).1,2,s.take (K5 s).1,0) else (0,2,[],3))
  else if P6 s=0 then (0,4,[],14) else (P6 s,4,s.take (P6 s),0):=rfl
 rw[e,if_neg hq];by_cases h1:P4 (s.getD 0 0)=true
 ·have hw:X5 s=s9 K7 s:=by unfold X5;rw[if_pos h1]
  have hp:=(bE K7 s).2 ⟨h0,OD h1⟩;rw[if_pos h1,hw,if_pos hp]
 ·have hw:X5 s=0:=by unfold X5;rw[if_neg h1]
  rw[if_neg h1,hw,if_neg (nW 0)];by_cases h2:l8 (s.getD 0 0)=true
  ·have hp:=(bE l8 s).2 ⟨h0,h2⟩;have hn:yR s=K5 s:=by unfold yR;rw[if_neg om]
   have hnp:0 < (K5 s).1:=by
    unfold K5;dsimp only;split
    ·show 0 < s9 l8 s+1+_;omega
    ·exact hp
   rw[if_pos h2,hn,if_pos hnp]
  ·have hp:s9 l8 s=0:=by
    have:=bE l8 s;rcases w6 (s9 l8 s) with g | g
    ·exact g
    ·exact absurd (this.1 g).2 h2
   have hn:yR s=(0,0):=by unfold yR;rw[if_pos hp]
   rw[if_neg h2,hn,if_neg (nW 0)]
theorem tS {s:e8} (hq:s.getD 0 0=34):A6 s=((M7 (s.drop 1) 1 []).1,3,(M7 (s.drop 1) 1 []).2.1,(M7 (s.drop 1) 1 []).2.2):=by
 have e:A6 s=if s.getD 0 0=34 then ((M7 (s.drop 1) 1 []).1,3,(M7 (s.drop 1) 1 []).2.1,(M7 (s.drop 1) 1 []).2.2) else _:=rfl
 rw[e,if_pos hq]
end Go.Proofs.YtpjhmeicbjkcdaaGreatDoor
namespace Go.Proofs.YtpjhmeicbjkcdaaGreatDoor
def VD (x:e8):Prop:=x.length<=400/\∃a b:e8,a.all l8=true/\0 < a.length/\((x=a/\cM a=true)\/(x=a++47::b/\b.all l8=true/\0 < b.length/\bO x a.length=true))
def Bw (p:Int×Bool):Option Int:=if p.2=true then some p.1 else none
def GM (s:e8):Nat:=if (L0 s).2.2=true then T8 (L0 s).2.1 else 0
def EI (s:e8):Option Int:=if bB 400 s=0 then (if GM s=0\/GM s=1 then Bw (oG (iU (L0 s).1) (T8 (T0 (L0 s).1))) else none) else none
theorem MH {a:e8} (h:cM a=true) (h2:a≠[48]):a.getD 0 0≠48:=by
 unfold cM at h;rw[k6,U8,decide_eq_true_eq,decide_eq_true_eq] at h;rcases h.2 with g | g
 ·match a,g with
  | [c],_=>intro e;exact h2 (by rw[show c=48 from e])
 ·simpa using g
theorem GX {a:e8} (h:a.all l8=true) (hc:cM a=true) (h2:a≠[48]) (h3:a.length<=60000):W9 (45::a)=0/\iU (45::a)=true/\T0 (45::a)=a:=by
 have e1:iU (45::a)=true:=by unfold iU;simp
 have e2:T0 (45::a)=a:=by unfold T0;rw[e1];rfl
 refine⟨?_,e1,e2⟩;have h0:0 < a.length:=by
  unfold cM at hc;rw[k6,decide_eq_true_eq] at hc;exact hc.1
 unfold W9;rw[e2,if_neg (by rw[d7];omega),if_neg,if_neg (λg=>MH hc h2 g.1)];rintro (g | g)
 ·rw[g] at h0;cases h0
 ·rw[PA h] at g;cases g
theorem QS {a:e8} (h:a.all l8=true):L0 (45::a)=(45::a,[],false):=by
 have hs:(45::a:e8).all (λc=>!decide (c=47))=true:=by
  rw[T6,jT h];rfl
 unfold L0;rw[nD hs,if_neg (nW _)]
theorem JX {a b:e8} (h:a.all l8=true):L0 (45::(a++47::b))=(45::a,b,true):=by
 have hs:(45::a:e8).all (λc=>!decide (c=47))=true:=by
  rw[T6,jT h];rfl
 have hr:=rG (b:=b) hs (c:=47) dc;have e:(45::(a++47::b):e8)=(45::a)++47::b:=rfl;unfold L0;rw[e,hr,if_pos (by rw[d6,d7];simp),Y7 rfl,<-R2,FJ rfl];rfl
theorem SC {a:e8}:bO a a.length=cM a:=by unfold bO;rw[if_pos rfl]
def Dl (t:kX):Prop:=(t.1=1->t.2.1≠[45])/\(t.1=2->VD t.2.1)
structure Y3 (r:RS):Prop where
 l:r.e=0->cP r.ts
 t :∀t∈r.ts,Dl t
structure My (r m:RS):Prop where
 e:r.e=m.e
 ts:r.ts=m.ts
 p:r.e≠0->r.ln=m.ln/\r.co=m.co
theorem An {r:RS} (h:r.e≠0) (e:Int):y7 r e=r:=if_pos h
theorem bK (r:RS) {e:Int} (he:e≠0):(y7 r e).e≠0:=by
 by_cases h:r.e≠0
 ·rw[An h];exact h
 ·unfold y7;rw[if_neg h,if_pos he];exact he
def Z1 (r:RS) (lo hi:Int):RS×Int:=
 if (aM r).1.e≠0 then ((aM r).1,0)
 else match EI (aM r).2 with
  | none=>(y7 r 2,0)
  | some n=>if n < lo\/hi < n then (y7 r 2,0) else ((aM r).1,n)
end Go.Proofs.YtpjhmeicbjkcdaaGreatDoor
namespace Go.Proofs.YtpjhmeicbjkcdaaGreatDoor
theorem wU {Q:Int->e8->Prop} (h5:Q 5 []) (ht :∀s:e8,0 < s.length->(A6 s).2.2.2=0->Q (A6 s).2.1 (A6 s).2.2.1) :∀(f:Nat) (s:e8) (p:Nat×Nat) (out:List kX),(∀t∈out,Q t.1 t.2.1)->∀t∈(cE f s p out).1,Q t.1 t.2.1
 | 0,_,p,out,h=>by
  intro t hm;rcases G1.1 (show t∈out++[(5,[],p.1,p.2)] from hm) with hm | hm
  ·exact h t hm
  ·rw[E2.1 hm];exact h5
 | f+1,[],p,out,h=>by
  intro t hm;rcases G1.1 (show t∈out++[(5,[],p.1,p.2)] from hm) with hm | hm
  ·exact h t hm
  ·rw[E2.1 hm];exact h5
 | f+1,c::r,p,out,h=>by
  have e2:cE (f+1) (c::r) p out=if c=32\/c=10 then cE f r (bX p c) out
   else if c=35 then cE f ((c::r).drop (s9 (λc=>!decide (c=10)) (c::r))) (K6 p ((c::r).take (s9 (λc=>!decide (c=10)) (c::r)))) out
   else if (A6 (c::r)).2.2.2≠0 then ([],(K6 p ((c::r).take (A6 (c::r)).1)).1,(K6 p ((c::r).take (A6 (c::r)).1)).2,(A6 (c::r)).2.2.2)
    else cE f ((c::r).drop (A6 (c::r)).1) (K6 p ((c::r).take (A6 (c::r)).1)) (out++[((A6 (c::r)).2.1,(A6 (c::r)).2.2.1,p.1,p.2)]):=rfl
  rw[e2];split
  ·exact wU h5 ht f _ _ _ h
  ·split
   ·exact wU h5 ht f _ _ _ h
   ·split
    ·intro t hm;cases hm
    ·rename_i h0
     refine wU h5 ht f _ _ _ λt hm=>?_;rcases G1.1 hm with hm | hm
     ·exact h t hm
     ·rw[E2.1 hm];exact ht (c::r) sQ (l9.1 h0)
theorem iV (f:UInt8->Bool) :∀l:e8,(l.take (s9 f l)).all f=true
 | []=>rfl
 | c::l=>by
  by_cases h:f c=true
  ·have e:s9 f (c::l)=s9 f l+1:=by unfold s9;rw[D8,if_pos h];rfl
   rw[e,SK,T6,h,iV f l];rfl
  ·have e:s9 f (c::l)=0:=by unfold s9;rw[D8,if_neg h];rfl
   rw[e];rfl
theorem VC {s:e8} (h0:0 < s9 l8 s) (hl:(K5 s).1<=400) (hc:bO (s.take (K5 s).1) (K5 s).2=true):VD (s.take (K5 s).1):=by
 have hk:=bF l8 s;have ha:=iV l8 s;have hb:=iV l8 (s.drop (s9 l8 s+1));have hm:=bF l8 (s.drop (s9 l8 s+1));have hlt:(s.take (s9 l8 s)).length=s9 l8 s:=by rw[j8];omega
 rw[k9] at hm;refine⟨by rw[j8];omega,s.take (s9 l8 s),(s.drop (s9 l8 s+1)).take (s9 l8 (s.drop (s9 l8 s+1))),ha,by rw[hlt];exact h0,?_⟩;unfold K5 at hc hl ⊢;dsimp only at hc hl ⊢;split at hc
 ·rename_i h
  rw[if_pos h] at hl ⊢;have e:s.take (s9 l8 s+1+s9 l8 (s.drop (s9 l8 s+1)))=s.take (s9 l8 s)++47::(s.drop (s9 l8 s+1)).take (s9 l8 (s.drop (s9 l8 s+1))):=by
   rw[SR,List.take_add_one,o6];have:s[s9 l8 s]?=some 47:=by
    have:=h.1;rw[i7,i6 h.2.1] at this;rw[i6 h.2.1];exact congrArg some this
   rw[this];rfl
  refine .inr ⟨e,hb,by rw[j8,k9];omega,?_⟩;rw[hlt];exact hc
 ·rename_i h
  rw[if_neg h];refine .inl ⟨rfl,?_⟩;dsimp only at hc;have:=SC (a:=s.take (s9 l8 s));rw[hlt] at this;rw[<-this];exact hc
theorem TG (s:e8) (h0:0 < s.length) (he:(A6 s).2.2.2=0):((A6 s).2.1=1->(A6 s).2.2.1≠[45])/\((A6 s).2.1=2->VD (A6 s).2.2.1):=by
 by_cases hq:s.getD 0 0=34
 ·rw[tS hq];exact⟨λh=>absurd h (show ¬ (3:Int)=1 by decide),λh=>absurd h (show ¬ (3:Int)=2 by decide)⟩
 ·rw[iS h0 hq] at he ⊢;by_cases h1:0 < X5 s
  ·rw[if_pos h1] at he ⊢;by_cases h2:40 < X5 s
   ·rw[if_pos h2] at he;exact absurd he (show ¬ (5:Int)=0 by decide)
   ·rw[if_neg h2];refine⟨λ_=>?_,λh=>absurd h (show ¬ (1:Int)=2 by decide)⟩;intro h;have h:s.take (X5 s) = [45]:=h;have hw:P4 (s.getD 0 0)=true:=by
     unfold X5 at h1;refine j9 λc=>?_;rw[if_neg c] at h1;cases h1
    cases s with
    | nil=>cases h0
    | cons c r=>
     obtain⟨n,hn⟩ :∃n,X5 (c::r)=n+1:=⟨X5 (c::r) - 1,om⟩
     rw[hn,SK] at h;have:c=45:=(Nb h).1;rw[this] at hw;cases hw
  ·rw[if_neg h1] at he ⊢;by_cases h2:0 < (yR s).1
   ·rw[if_pos h2] at he ⊢;have hr:0 < s9 l8 s:=by
     unfold yR at h2;rcases w6 (s9 l8 s) with g | g
     ·rw[if_pos g] at h2;cases h2
     ·exact g
    have hn:yR s=K5 s:=by unfold yR;rw[if_neg om]
    rw[hn] at he ⊢;by_cases h3:400 < (K5 s).1
    ·rw[if_pos h3] at he;exact absurd he (show ¬ (5:Int)=0 by decide)
    ·rw[if_neg h3] at he ⊢;by_cases h4:bO (s.take (K5 s).1) (K5 s).2=true
     ·rw[if_pos h4];exact⟨λh=>absurd h (show ¬ (2:Int)=1 by decide),λ_=>VC hr om h4⟩
     ·rw[if_neg h4] at he;exact absurd he (show ¬ (3:Int)=0 by decide)
   ·rw[if_neg h2] at he ⊢;by_cases h3:P6 s=0
    ·rw[if_pos h3] at he;exact absurd he (show ¬ (14:Int)=0 by decide)
    ·rw[if_neg h3];exact⟨λh=>absurd h (show ¬ (4:Int)=1 by decide),λh=>absurd h (show ¬ (4:Int)=2 by decide)⟩
theorem TU (s:e8) :∀t∈(aK s).1,Dl t:=by
 unfold aK;split
 ·intro t h;cases h
 ·exact wU (Q:=λk x=>(k=1->x≠[45])/\(k=2->VD x)) ⟨λh=>absurd h dc,λh=>absurd h dc⟩ TG _ _ _ _ (λt h=>by cases h)
theorem Y3.new {s:e8} (h:(aK s).2.2.2=0->cP (aK s).1):Y3 (yV s):=⟨h,TU s⟩
end Go.Proofs.YtpjhmeicbjkcdaaGreatDoor
namespace Go.Proofs.YtpjhmeicbjkcdaaGreatDoor
def bL (c:UInt8):e8:=if c=34\/c=92 then [92,c] else [c]
def G4 (l:e8):e8:=l.flatMap bL
def iB (s:e8):e8:=34::(G4 s++[34])
def PW (s:e8):Prop:=∀c∈s,¬ MN c
theorem dO (c:UInt8) (l:e8):G4 (c::l)=bL c++G4 l:=rfl
theorem EW (l:e8):(G4 l).length<=2*l.length:=by
 induction l with
 | nil=>exact k8 _
 | cons c l ih=>
  rw[dO,d6,d7];have:(bL c).length<=2:=by unfold bL;split <;> simp
  omega
theorem NR :∀(l:e8) (i:Nat) (out r:e8),PW l->M7 (G4 l++34::r) i out=if 4096 < out.length+l.length then (0,[],5) else (i+(G4 l).length+1,out++l,0)
 | [],i,out,r,_=>by
  show M7 (34::r) i out=_
  rw[dH,if_neg dc,if_pos rfl,p8];rfl
 | c::l,i,out,r,h=>by
  have hc:=h c sQ;have hl:PW l:=λx hx=>h x (A9 _ hx);have h10:c≠10:=λe=>by subst e;exact hc (.inl dc)
  have ih:=λi out=>NR l i out r hl;rw[dO,o6];by_cases h1:c=34\/c=92
  ·have e:bL c = [92,c]:=if_pos h1;rw[e];show M7 (92::(c::(G4 l++34::r))) i out=_
   rw[dH,if_neg dc,if_neg dc,if_neg dc,if_pos rfl];have hg:(c::(G4 l++34::r)).getD 0 0=c:=rfl;rw[hg,if_pos h1];show M7 (G4 l++34::r) (i+2) (out++[c])=_
   have e1:(out++[c]).length+l.length=out.length+(c::l).length:=by simp;omega
   have e2:i+2+(G4 l).length+1=i+([92,c]++G4 l).length+1:=by simp;omega
   rw[ih,e1,e2,o6];rfl
  ·have e:bL c = [c]:=if_neg h1;rw[e];show M7 (c::(G4 l++34::r)) i out=_
   rw[dH,if_neg h10,if_neg (λg=>h1 (.inl g)),if_neg hc,if_neg (λg=>h1 (.inr g))];have e1:(out++[c]).length+l.length=out.length+(c::l).length:=by simp;omega
   have e2:i+1+(G4 l).length+1=i+([c]++G4 l).length+1:=by simp;omega
   rw[ih,e1,e2,o6];rfl
theorem ZM :∀(l:e8) (i:Nat) (out:e8),(M7 l i out).2.2=0->∃b r,l=G4 b++34::r/\M7 l i out=(i+(G4 b).length+1,out++b,0)/\PW b/\out.length+b.length<=4096:=by
 intro l;induction hn:l.length using gY generalizing l with
 | _ n ih=>
  intro i out h;cases l with
  | nil=>exact absurd h (show ¬ (4:Int)=0 by decide)
  | cons c r=>
   simp only[d7] at hn;rw[dH] at h;by_cases h1:c=10
   ·rw[if_pos h1] at h;exact absurd h (show ¬ (4:Int)=0 by decide)
   ·rw[if_neg h1] at h;by_cases h2:c=34
    ·rw[if_pos h2] at h;by_cases h3:4096 < out.length
     ·rw[if_pos h3] at h;exact absurd h (show ¬ (5:Int)=0 by decide)
     ·refine⟨[],r,by rw[h2];rfl,?_,(λx hx=>by cases hx),by show out.length+0<=4096;omega⟩;rw[dH,if_neg h1,if_pos h2,if_neg h3,p8];rfl
    ·rw[if_neg h2] at h;by_cases h3:MN c
     ·rw[if_pos h3] at h;exact absurd h (show ¬ (14:Int)=0 by decide)
     ·rw[if_neg h3] at h;by_cases h4:c=92
      ·rw[if_pos h4] at h;by_cases h5:r.getD 0 0=34\/r.getD 0 0=92
       ·rw[if_pos h5] at h;cases r with
        | nil=>exact absurd h5 dc
        | cons d r=>
         have h5:d=34\/d=92:=h5;simp only[d7] at hn;obtain⟨b,r',e1,e2,e3,e4⟩:=ih r.length om r rfl (i+2) (out++[d]) h;rw[d6,w7] at e4;refine⟨d::b,r',?_,?_,?_,by rw[d7];omega⟩
         ·rw[dO,show bL d = [92,d] from if_pos h5,e1,h4];rfl
         ·rw[dH,if_neg h1,if_neg h2,if_neg h3,if_pos h4];have hg:(d::r).getD 0 0=d:=rfl;rw[hg,if_pos h5];show M7 r (i+2) (out++[d])=_
          rw[e2,dO,show bL d = [92,d] from if_pos h5,o6,d6];have:i+2+(G4 b).length+1=i+(([92,d]:e8).length+(G4 b).length)+1:=by show _=i+(2+_)+1;omega
          rw[this];rfl
         ·intro x hx;rcases A8.1 hx with rfl | hx
          ·rcases h5 with rfl | rfl <;> decide
          ·exact e3 x hx
       ·rw[if_neg h5] at h;exact absurd h (show ¬ (14:Int)=0 by decide)
      ·rw[if_neg h4] at h;obtain⟨b,r',e1,e2,e3,e4⟩:=ih r.length om r rfl (i+1) (out++[c]) h;rw[d6,w7] at e4;have hc:bL c = [c]:=if_neg (λg=>g.elim h2 h4);refine⟨c::b,r',?_,?_,?_,by rw[d7];omega⟩
       ·rw[dO,hc,e1];rfl
       ·rw[dH,if_neg h1,if_neg h2,if_neg h3,if_neg h4,e2,dO,hc,o6,d6];have:i+1+(G4 b).length+1=i+(([c]:e8).length+(G4 b).length)+1:=by show _=i+(1+_)+1;omega
        rw[this];rfl
       ·intro x hx;rcases A8.1 hx with rfl | hx
        ·exact h3
        ·exact e3 x hx
theorem YT {s:e8} (h:PW s) (hl:s.length<=4096) (r:e8):A6 (iB s++r)=((iB s).length,3,s,0):=by
 have e:iB s++r=34::(G4 s++34::r):=by
  show 34::((G4 s++[34])++r)=_
  rw[o6];rfl
 have hq:(iB s++r).getD 0 0=34:=by rw[e];rfl
 rw[tS hq,e];show ((M7 (G4 s++34::r) 1 []).1,(3:Int),(M7 (G4 s++34::r) 1 []).2.1,(M7 (G4 s++34::r) 1 []).2.2)=_
 rw[NR s 1 [] r h,if_neg (by rw[d9];omega)];have:(iB s).length=1+(G4 s).length+1:=by
  show (G4 s++[34]).length+1=_
  rw[d6,w7];omega
 rw[this];rfl
def PH (k:Int) (x:e8):e8:=if k=3 then iB x else x
structure Cx (k:Int) (x:e8):Prop where
 t :∀r:e8,(r = []\/r.getD 0 0=32)->A6 (PH k x++r)=((PH k x).length,k,x,0)
 b:0 < (PH k x).length/\JV ((PH k x).getD 0 0)
 l:x.length<=4096
 q:k=3->PW x
 k:k≠5
theorem tV {f:UInt8->Bool} (h:f 32=false) (a r:e8) (ha:a.all f=true) (hr:r = []\/r.getD 0 0=32):s9 f (a++r)=a.length:=by
 rcases hr with rfl | hr
 ·rw[p8,nD ha]
 ·cases r with
  | nil=>rw[p8,nD ha]
  | cons c r=>
   have:c=32:=hr;subst this;exact rG ha h
theorem jC {a r:e8} (h:0 < a.length):(a++r).getD 0 0=a.getD 0 0:=by
 cases a with
 | nil=>cases h
 | cons c a=>rfl
theorem YK (s:e8):X5 s=if P4 (s.getD 0 0)=true then s9 K7 s else 0:=rfl
theorem OA (s:e8):K5 s=if s.getD (s9 l8 s) 0=47/\s9 l8 s < s.length/\0 < s9 l8 (s.drop (s9 l8 s+1)) then (s9 l8 s+1+s9 l8 (s.drop (s9 l8 s+1)),s9 l8 s) else (s9 l8 s,s9 l8 s):=rfl
theorem NK (s:e8):P6 s=if dD.any (λx=>decide (s.take 2=x)) then 2 else if s.length≠0/\s.getD 0 0∈KX then 1 else 0:=rfl
theorem PM (s:e8) (h0:0 < s.length) (hb:JV (s.getD 0 0)) (he:(A6 s).2.2.2=0):Cx (A6 s).2.1 (A6 s).2.2.1/\s.take (A6 s).1=PH (A6 s).2.1 (A6 s).2.2.1/\(A6 s).1=(PH (A6 s).2.1 (A6 s).2.2.1).length:=by
 by_cases hq:s.getD 0 0=34
 ·rw[tS hq] at he ⊢;dsimp only at he ⊢;obtain⟨b,r,e1,e2,e3,e4⟩:=ZM _ _ _ he;rw[e2];dsimp only;rw[N6];rw[d9,y8] at e4;have hx:PH 3 b=iB b:=if_pos rfl;have hlen:(iB b).length=1+(G4 b).length+1:=by
   show (G4 b++[34]).length+1=_
   rw[d6,w7];omega
  have hs:s=iB b++r:=by
   cases s with
   | nil=>cases h0
   | cons c t=>
    have:c=34:=hq;have e1:t=G4 b++34::r:=e1;rw[this,e1];show 34::_=34::((G4 b++[34])++r)
    rw[o6];rfl
  refine⟨⟨λr' _=>by rw[hx];exact YT e3 e4 r',by rw[hx];exact⟨O2 _,(show JV 34 from ⟨dc,dc,dc⟩)⟩,e4,λ_=>e3,dc⟩,?_,by rw[hx,hlen]⟩;rw[hx,<-hlen,hs,Y7 rfl]
 ·rw[iS h0 hq] at he ⊢;by_cases h1:0 < X5 s
  ·rw[if_pos h1] at he ⊢;by_cases h2:40 < X5 s
   ·rw[if_pos h2] at he;exact absurd he (show ¬ (5:Int)=0 by decide)
   ·rw[if_neg h2];have hw:P4 (s.getD 0 0)=true:=by
     unfold X5 at h1;refine j9 λc=>?_;rw[if_neg c] at h1;cases h1
    have hn:X5 s=s9 K7 s:=by unfold X5;rw[if_pos hw]
    have hle:=bF K7 s;have ha:=iV K7 s;rw[<-hn] at hle ha;have hl:(s.take (X5 s)).length=X5 s:=by rw[j8];omega
    have hg:(s.take (X5 s)).getD 0 0=s.getD 0 0:=by
     conv=>rhs;rw[<-E4 (X5 s) s]
     rw[jC om]
    have hx:PH 1 (s.take (X5 s))=s.take (X5 s):=if_neg dc;dsimp only;refine⟨⟨λr hr=>?_,?_,om,λh=>absurd h dc,dc⟩,by rw[hx],by rw[hx,hl]⟩
    ·rw[hx];have hg2:(s.take (X5 s)++r).getD 0 0=s.getD 0 0:=by rw[jC om,hg]
     have hwm:X5 (s.take (X5 s)++r)=X5 s:=by
      have:=tV (f:=K7) dc (s.take (X5 s)) r ha hr;rw[hl] at this;rw[YK,hg2,if_pos hw,this]
     rw[iS (by rw[d6];omega) (by rw[hg2];exact hq),hwm,if_pos h1,if_neg h2,hl,Y7 hl]
    ·rw[hx,hg,hl];exact⟨h1,hb⟩
  ·rw[if_neg h1] at he ⊢;have hw : ¬ P4 (s.getD 0 0)=true:=λc=>h1 (by
    unfold X5;rw[if_pos c];exact (bE K7 s).2 ⟨h0,OD c⟩)
   by_cases h2:0 < (yR s).1
   ·rw[if_pos h2] at he ⊢;have hr0:0 < s9 l8 s:=by
     unfold yR at h2;rcases w6 (s9 l8 s) with g | g
     ·rw[if_pos g] at h2;cases h2
     ·exact g
    have hn:yR s=K5 s:=by unfold yR;rw[if_neg om]
    rw[hn] at he ⊢ h2;by_cases h3:400 < (K5 s).1
    ·rw[if_pos h3] at he;exact absurd he (show ¬ (5:Int)=0 by decide)
    ·rw[if_neg h3] at he ⊢;by_cases h4:bO (s.take (K5 s).1) (K5 s).2=true
     ·rw[if_pos h4];have hle:=NZ s;have hl:(s.take (K5 s).1).length=(K5 s).1:=by rw[j8];omega
      have hg:(s.take (K5 s).1).getD 0 0=s.getD 0 0:=by
       conv=>rhs;rw[<-E4 (K5 s).1 s]
       rw[jC om]
      have hx:PH 2 (s.take (K5 s).1)=s.take (K5 s).1:=if_neg dc;have hnn :∀r:e8,(r = []\/r.getD 0 0=32)->K5 (s.take (K5 s).1++r)=K5 s:=λr hr=>by
       have hk:=bF l8 s;have ha:=iV l8 s;have hb:=iV l8 (s.drop (s9 l8 s+1));have hm:=bF l8 (s.drop (s9 l8 s+1));rw[k9] at hm;have hlt:(s.take (s9 l8 s)).length=s9 l8 s:=by rw[j8];omega
       by_cases hc:s.getD (s9 l8 s) 0=47/\s9 l8 s < s.length/\0 < s9 l8 (s.drop (s9 l8 s+1))
       ·have e0:K5 s=(s9 l8 s+1+s9 l8 (s.drop (s9 l8 s+1)),s9 l8 s):=by unfold K5;dsimp only;rw[if_pos hc]
        have e:s.take (K5 s).1=s.take (s9 l8 s)++47::(s.drop (s9 l8 s+1)).take (s9 l8 (s.drop (s9 l8 s+1))):=by
         rw[e0];dsimp only;rw[SR,List.take_add_one,o6];have:s[s9 l8 s]?=some 47:=by
          have:=hc.1;rw[i7,i6 hc.2.1] at this;rw[i6 hc.2.1];exact congrArg some this
         rw[this];rfl
        have hlb:((s.drop (s9 l8 s+1)).take (s9 l8 (s.drop (s9 l8 s+1)))).length=s9 l8 (s.drop (s9 l8 s+1)):=by rw[j8,k9];omega
        rw[e,e0];generalize hA:s.take (s9 l8 s)=A at *;generalize hB:(s.drop (s9 l8 s+1)).take (s9 l8 (s.drop (s9 l8 s+1)))=B at *;have e1:s9 l8 ((A++47::B)++r)=A.length:=by rw[o6];exact rG ha dc
        have e2:((A++47::B)++r).drop (A.length+1)=B++r:=by rw[o6,<-R2,FJ rfl];rfl
        have e3:=tV (f:=l8) dc B r hb hr;have e4:((A++47::B)++r).getD A.length 0=47:=by rw[o6,i7,N0 (k8 _),bS];rfl
        rw[OA,e1,e2,e3,if_pos ⟨e4,by rw[d6,d6,d7];omega,by rw[hlb];exact hc.2.2⟩,hlt,hlb]
       ·have e0:K5 s=(s9 l8 s,s9 l8 s):=by unfold K5;dsimp only;rw[if_neg hc]
        rw[e0];dsimp only;have e1:=tV (f:=l8) dc (s.take (s9 l8 s)) r ha hr;rw[hlt] at e1;have e4:(s.take (s9 l8 s)++r).getD (s9 l8 s) 0=r.getD 0 0:=by
         rw[i7,N0 om,hlt,bS,<-i7]
        have e5:r.getD 0 0≠47:=by
         rcases hr with rfl | hr
         ·decide
         ·rw[hr];decide
        rw[OA,e1,e4,if_neg (λg=>e5 g.1)]
      dsimp only;refine⟨⟨λr hr=>?_,?_,om,λh=>absurd h dc,dc⟩,by rw[hx],by rw[hx,hl]⟩
      ·rw[hx];have hg2:(s.take (K5 s).1++r).getD 0 0=s.getD 0 0:=by rw[jC om,hg]
       have hnr:=hnn r hr;have hd0:l8 (s.getD 0 0)=true:=((bE l8 s).1 hr0).2;have hwm:X5 (s.take (K5 s).1++r)=0:=by
        unfold X5;rw[hg2,if_neg hw]
       have hnm:yR (s.take (K5 s).1++r)=K5 s:=by
        have:0 < s9 l8 (s.take (K5 s).1++r):=(bE l8 _).2 ⟨by rw[d6];omega,by rw[hg2];exact hd0⟩;unfold yR;rw[if_neg om,hnr]
       rw[iS (by rw[d6];omega) (by rw[hg2];exact hq),hwm,if_neg (nW 0),hnm,if_pos h2,if_neg h3,Y7 hl,if_pos h4,hl]
      ·rw[hx,hg,hl];exact⟨h2,hb⟩
     ·rw[if_neg h4] at he;exact absurd he (show ¬ (3:Int)=0 by decide)
   ·rw[if_neg h2] at he ⊢;by_cases h3:P6 s=0
    ·rw[if_pos h3] at he;exact absurd he (show ¬ (14:Int)=0 by decide)
    ·rw[if_neg h3];have hd0 : ¬ l8 (s.getD 0 0)=true:=λc=>h2 (by
      have hr:=(bE l8 s).2 ⟨h0,c⟩;unfold yR;rw[if_neg om];unfold K5;dsimp only;split
      ·show 0 < s9 l8 s+1+_;omega
      ·exact hr)
     have hle:=NJ h3;have hl:(s.take (P6 s)).length=P6 s:=by rw[j8];omega
     have hg:(s.take (P6 s)).getD 0 0=s.getD 0 0:=by
      conv=>rhs;rw[<-E4 (P6 s) s]
      rw[jC om]
     have hx:PH 4 (s.take (P6 s))=s.take (P6 s):=if_neg dc;have hl2:P6 s<=2:=by unfold P6;split <;> (try split) <;> omega
     dsimp only;refine⟨⟨λr hr=>?_,?_,om,λh=>absurd h dc,dc⟩,by rw[hx],by rw[hx,hl]⟩
     ·rw[hx];have hg2:(s.take (P6 s)++r).getD 0 0=s.getD 0 0:=by rw[jC om,hg]
      have hwm:X5 (s.take (P6 s)++r)=0:=by unfold X5;rw[hg2,if_neg hw]
      have hnm:yR (s.take (P6 s)++r)=(0,0):=by
       have:s9 l8 (s.take (P6 s)++r)=0:=by
        rcases w6 (s9 l8 (s.take (P6 s)++r)) with g | g
        ·exact g
        ·have:=((bE l8 _).1 g).2;rw[hg2] at this;exact absurd this hd0
       unfold yR;rw[if_pos this]
      have hsy:P6 (s.take (P6 s)++r)=P6 s:=by
       by_cases htw:dD.any (λx=>decide (s.take 2=x))=true
       ·have e2:P6 s=2:=by unfold P6;rw[if_pos htw]
        have e3:(s.take (P6 s)++r).take 2=s.take 2:=by rw[e2] at hl ⊢;exact Y7 hl
        rw[NK,e3,if_pos htw,e2]
       ·have e2:s.length≠0/\s.getD 0 0∈KX:=by
         refine j9 λc=>h3 ?_;unfold P6;rw[if_neg htw,if_neg c]
        have e1:P6 s=1:=by unfold P6;rw[if_neg htw,if_pos e2]
        have e3:dD.any (λx=>decide ((s.take (P6 s)++r).take 2=x))=false:=by
         rw[e1] at hl ⊢;cases s with
         | nil=>cases h0
         | cons c s=>
          show dD.any (λx=>decide ((c::r).take 2=x))=false
          rw[J8];intro x hxx;rw[decide_eq_true_eq];intro hxe;have hlx:x.getD 1 0≠32/\x.length=2:=by
           simp only[dD,A8,Q0,or_false] at hxx;rcases hxx with rfl | rfl | rfl | rfl <;> exact⟨dc,rfl⟩
          rcases hr with rfl | hr
          ·rw[<-hxe] at hlx;exact absurd hlx.2 sQ
          ·cases r with
           | nil=>rw[<-hxe] at hlx;exact absurd hlx.2 sQ
           | cons d r=>
            have hr:d=32:=hr;rw[<-hxe] at hlx;exact hlx.1 hr
        rw[NK,e3,if_neg dc,hg2,if_pos ⟨by rw[d6];omega,e2.2⟩,e1]
      rw[iS (by rw[d6];omega) (by rw[hg2];exact hq),hwm,if_neg (nW 0),hnm,if_neg (nW 0),hsy,if_neg h3,Y7 hl,hl]
     ·rw[hx,hg,hl];exact⟨om,hb⟩
end Go.Proofs.YtpjhmeicbjkcdaaGreatDoor
namespace Go.Proofs.YtpjhmeicbjkcdaaGreatDoor
def yB (l:e8):Nat:=l.count 92+l.count 34
theorem qZ (c:UInt8) (l:e8):yB (c::l)=yB l+if c=34\/c=92 then 1 else 0:=by
 unfold yB;rw[List.count_cons,List.count_cons];by_cases h1:c=34
 ·subst h1;rw[if_neg dc,if_pos dc,if_pos (.inl rfl)];omega
 ·by_cases h2:c=92
  ·subst h2;rw[if_pos dc,if_neg dc,if_pos (.inr rfl)];omega
  ·rw[if_neg (by simpa using h2),if_neg (by simpa using h1),if_neg (by simp[h1,h2])];omega
theorem Ar (l:e8):(G4 l).length=l.length+yB l:=by
 induction l with
 | nil=>rfl
 | cons c l ih=>
  rw[dO,d6,ih,qZ,d7];unfold bL;by_cases h:c=34\/c=92
  ·rw[if_pos h,if_pos h];simp;omega
  ·rw[if_neg h,if_neg h];simp;omega
theorem IN {l:e8} (h:yB l=0):G4 l=l:=by
 induction l with
 | nil=>rfl
 | cons c l ih=>
  rw[qZ] at h;rw[dO,ih om];unfold bL;by_cases hc:c=34\/c=92
  ·rw[if_pos hc] at h;omega
  ·rw[if_neg hc];rfl
theorem WM (l:e8) (c:UInt8):G4 (l++[c])=G4 l++bL c:=by
 unfold G4;rw[V1];simp
theorem xY {l:e8} {k:Nat} (h:k < l.length):l.take (k+1)=l.take k++[l.getD k 0]:=by
 rw[List.take_add_one,i6 h,i7,i6 h];rfl
theorem fY {l:e8} {k:Nat} (h:k < l.length):G4 (l.take (k+1))=G4 (l.take k)++bL (l.getD k 0):=by
 rw[xY h,WM]
theorem JZ (a b:e8):yB (a++b)=yB a+yB b:=by unfold yB;rw[List.count_append,List.count_append];omega
theorem TO {l:e8} {k:Nat} (h:k < l.length):yB (l.take (k+1))=yB (l.take k)+if l.getD k 0=34\/l.getD k 0=92 then 1 else 0:=by
 rw[xY h,JZ,qZ];show _+(0+_)=_;omega
theorem JY (l:e8):yB l<=l.length:=by
 induction l with
 | nil=>exact k8 _
 | cons c l ih=>rw[qZ,d7];split <;> omega
theorem dN (l:e8) (k:Nat):(G4 (l.take k)).length<=(G4 l).length:=by
 conv=>rhs;rw[<-E4 k l]
 unfold G4;rw[V1,d6];omega
def oK (l:e8) (k:Nat):e8:=G4 (l.take k)++p7 ((G4 l).length - (G4 (l.take k)).length) 0
theorem gD (l:e8) (k:Nat):(oK l k).length=(G4 l).length:=by
 have:=dN l k;unfold oK;rw[d6,O9];omega
theorem DC (l:e8):oK l 0=p7 (G4 l).length 0:=by unfold oK;rw[R1];rfl
theorem JA (l:e8):oK l l.length=G4 l:=by unfold oK;rw[p9,bS];simp
theorem ZJ (a m:e8) (n:Nat):(a++p7 n (0:UInt8)).take a.length++m++(a++p7 n (0:UInt8)).drop (a.length+m.length)=a++m++p7 (n - m.length) 0:=by
 rw[Y7,List.drop_append,bW om,N6,BS,List.drop_replicate];rfl
theorem AL {l:e8} {k:Nat} (h:k < l.length):(oK l k).take (G4 (l.take k)).length++bL (l.getD k 0)++(oK l k).drop ((G4 (l.take k)).length+(bL (l.getD k 0)).length)=oK l (k+1):=by
 have h1:=dN l (k+1);rw[fY h,d6] at h1;unfold oK;rw[ZJ,fY h,d6];congr 2
 omega
theorem IZ {l:e8} {k:Nat} (h:k < l.length) (hc : ¬ (l.getD k 0=34\/l.getD k 0=92)):(oK l k).set (G4 (l.take k)).length (l.getD k 0)=oK l (k+1):=by
 have:=AL h;have e:bL (l.getD k 0) = [l.getD k 0]:=by unfold bL;rw[if_neg hc]
 have h1:=dN l (k+1);rw[fY h,d6] at h1;rw[e] at this h1;rw[<-this,YD,if_pos (by rw[gD];simp at h1;omega)];simp
end Go.Proofs.YtpjhmeicbjkcdaaGreatDoor
namespace Go.Proofs.YtpjhmeicbjkcdaaGreatDoor
open Go Go.RowKit Go.Dw
def WJ (x:UInt8):List Value:=[.int .u8 x.toNat]
theorem OM :∀L:List UInt8,L.flatMap WJ=L.map λx=>Value.int .u8 x.toNat
 | []=>rfl
 | x::L=>by rw[I6,N7,OM L];rfl
theorem mN (L:List UInt8) {j:Nat} (h:j < L.length):(L.flatMap WJ)[j]?=some (.int .u8 L[j].toNat):=by
 rw[OM,G7,i6 h];rfl
theorem Bz {s:List Ch} {i:Nat} {o:Dw.Os} (hi:m8 s i=some (.hp o.h)) {L:List UInt8} (ho:w8 WJ 5 1 o L) (h0:0 < L.length) {q:TV->Prop} (h:q (.v (sv L))):B7 Tryz.prog s (convert 68 9 o.v) q:=by
 refine⟨_,λw hm=>?_,h⟩;have hlen:=w8.len ho;obtain⟨b,hb⟩:=ho.addr h0;obtain⟨a,n,c,hh⟩:=o;dsimp only at hb hlen hi;subst hb;show (convert 68 9 (.slice (some ⟨b,0,none⟩) n c)).run Tryz.prog w=_
 rw[run_convert_bytes_arg w 68 5 Tryz.underlying68 Tryz.underlying5 b 0 n c (L.map λx=>(x.toNat:Int)) (by rw[l7,<-hlen]) (λj hj=>?_) 9 Tryz.underlying9]
 ·congr 2
  unfold strOfNums bs;congr 2
  rw[List.map_map];conv=>rhs;rw[<-List.map_id L]
  exact List.map_congr_left λx _=>UInt8.toNat_inj.1 sQ
 ·have hj':j < L.length:=om
  obtain⟨b',arr,e1,_,_,h4⟩:=iK.cell ho.2 (mN L hj');cases e1;have:=(hm i _ hi).whole.cell h4;rw[y8];have e:(L.map λx=>(x.toNat:Int)).getD j 0=(L[j].toNat:Int):=by
   rw[i7,G7,i6 hj'];rfl
  rw[e];exact this
end Go.Proofs.YtpjhmeicbjkcdaaGreatDoor
namespace Go.Proofs
open Go.Shelf
def Tryz.lCo_ren:Go.Shelf.Ren:=⟨λ| 138=>370 | 195=>371 | 218=>372 | 143=>373 | 219=>279 | 217=>298 | 225=>299 | 224=>300 | 267=>301 | 266=>318 | 314=>319 | n=>n,λ| 9=>9 | 3=>3 | 4=>4 | 5=>5 | 0=>0 | 46=>135 | 146=>329 | 51=>247 | n=>n,λ| 1=>1 | n=>n⟩
theorem Tryz.lCo:Go.Proofs.Lays.n138 Tryz.prog Tryz.lCo_ren:={
 mixed:=kr
 f138:=Tryz.func370.trans (congrArg some kr)
 f143:=Tryz.func373.trans (congrArg some kr)
 f195:=Tryz.func371.trans (congrArg some kr)
 f217:=Tryz.func298.trans (congrArg some kr)
 f218:=Tryz.func372.trans (congrArg some kr)
 f219:=Tryz.func279.trans (congrArg some kr)
 f224:=Tryz.func300.trans (congrArg some kr)
 f225:=Tryz.func299.trans (congrArg some kr)
 f266:=Tryz.func318.trans (congrArg some kr)
 f267:=Tryz.func301.trans (congrArg some kr)
 f314:=Tryz.func319.trans (congrArg some kr)
 t0:=Tryz.underlying0
 a0:=Tryz.isAgg0
 z0:=Tryz.sizeOf0
 v0:=Tryz.zeroValue0
 t3:=Tryz.underlying3
 a3:=Tryz.isAgg3
 z3:=Tryz.sizeOf3
 v3:=Tryz.zeroValue3
 t4:=Tryz.underlying4
 a4:=Tryz.isAgg4
 z4:=Tryz.sizeOf4
 v4:=Tryz.zeroValue4
 t5:=Tryz.underlying5
 a5:=Tryz.isAgg5
 z5:=Tryz.sizeOf5
 v5:=Tryz.zeroValue5
 t9:=Tryz.underlying9
 a9:=Tryz.isAgg9
 z9:=Tryz.sizeOf9
 v9:=Tryz.zeroValue9
 t46:=Tryz.underlying135
 a46:=Tryz.isAgg135
 z46:=Tryz.sizeOf135
 v46:=Tryz.zeroValue135
 t51:=Tryz.underlying247
 a51:=Tryz.isAgg247
 z51:=Tryz.sizeOf247
 v51:=Tryz.zeroValue247
 t146:=Tryz.underlying329
 a146:=Tryz.isAgg329
 z146:=Tryz.sizeOf329
 v146:=Tryz.zeroValue329
 g1:=by kernel_rfl }
end Go.Proofs
namespace Go.Proofs.YtpjhmeicbjkcdaaGreatDoor
open Go Go.Shelf Go.RowKit Go.Dw
theorem UD (s34 s92 tr:Value) (m:Nat) (hm:m < 256):(GJ s34 s92 tr)[m]?=some (if m=34 then s34 else if m=92 then s92 else yU):=by
 unfold GJ;by_cases h1:m < 34
 ·rw[Y0 (by simpa using h1),Nj,if_pos h1,if_neg om,if_neg om]
 ·rw[N0 (by simp;omega),O9];by_cases h2:m=34
  ·subst h2;rfl
  ·obtain⟨k,hk⟩ :∃k,m - 34=k+1:=⟨m - 35,om⟩
   rw[hk,aR,if_neg h2];by_cases h3:k < 57
   ·rw[Y0 (by simpa using h3),Nj,if_pos h3,if_neg om]
   ·rw[N0 (by simp;omega),O9];by_cases h4:k=57
    ·subst h4;rw[if_pos om];rfl
    ·obtain⟨j,hj⟩ :∃j,k - 57=j+1:=⟨k - 58,om⟩
     rw[hj,aR,if_neg om,Y0 (by rw[O9];omega),Nj,if_pos om]
structure It (H:Hp) (bq:Nat) (g:SM):Prop where
 cell :∀m v,(GJ g.s34 g.s92 g.tr.v)[m]?=some v->H.cell? ⟨bq,0+m,none⟩=some v
 t34:BO H 34 g.s34
 t92:BO H 92 g.s92
 tr:Sl (B0 fS) 1 H g.tr.a g.tr.n g.tr.c [[92],[34]]
theorem uN (c:UInt8):PB c.toNat 256=true:=by
 have:=c.toNat_lt;simp[Lp];omega
theorem It.hit {H:Hp} {bq:Nat} {g:SM} (h:It H bq g) {c:UInt8} (hc:c=34\/c=92) :∃b cap,H.cell? ⟨bq,0+0+c.toNat*1,none⟩=some (.slice (some ⟨b,0,none⟩) 2 cap)/\H.cell? ⟨b,0,none⟩=some (.int .u8 92)/\H.cell? ⟨b,1,none⟩=some (.int .u8 c.toNat):=by
 rcases hc with rfl | rfl
 ·obtain⟨b,cap,h1,h2,h3⟩:=h.t34;exact⟨b,cap,by rw[<-h1];exact h.cell 34 _ rfl,h2,h3⟩
 ·obtain⟨b,cap,h1,h2,h3⟩:=h.t92;exact⟨b,cap,by rw[<-h1];exact h.cell 92 _ rfl,h2,h3⟩
theorem It.miss {H:Hp} {bq:Nat} {g:SM} (h:It H bq g) {c:UInt8} (hc : ¬ (c=34\/c=92)):H.cell? ⟨bq,0+0+c.toNat*1,none⟩=some zl:=by
 have h1:c.toNat < 256:=c.toNat_lt;have e:=UD g.s34 g.s92 g.tr.v c.toNat h1;have n1 : ¬ c.toNat=34:=λe=>hc (.inl (UInt8.toNat_inj.1 e));have n2 : ¬ c.toNat=92:=λe=>hc (.inr (UInt8.toNat_inj.1 e));rw[if_neg n1,if_neg n2] at e;have:=h.cell c.toNat _ e;rw[E3];exact this
theorem tW {T:Nat} {s:List Ch} {xo yo:Operand} {a:Option Addr} {n c:Nat} {q:TV->Prop} (hT:(bM (cx 0) T).isSome=true) (h:q (.v (.bool (!a.isNone)))) :
  B7 Tryz.prog s (do eqGuard .neq T xo yo (.slice a n c) zl;binOp .neq T (.slice a n c) zl) q:=by
 obtain⟨⟨e,te⟩,hx⟩:=Mz.1 hT;have hu:=(W6 (cxg 0) hx).1;refine⟨_,λw _=>?_,h⟩;have hun:(underlying T).run Tryz.prog w=.ok (.slice e) w:=by simp[underlying,show Tryz.prog.underlying T=_ from hu]
 have hg:(eqGuard .neq T xo yo (.slice a n c) zl).run Tryz.prog w=.ok () w:=by simp[eqGuard]
 rw[Sem.run_bind,hg];simp only[Result.andThen_ok,binOp,Sem.run_bind];have:(Op.equal T (.slice a n c) zl).run Tryz.prog w=.ok a.isNone w:=by
  unfold Op.equal Op.maxDepth;rw[show (10000:Nat)=9999+1 from rfl];unfold Op.equalIn;simp only[Sem.run_bind,hun,Result.andThen_ok];cases a <;> simp
 rw[this];simp
theorem AF (s:e8) (c:UInt8) (w:World):j6 Tryz.prog 370 #[sv s,sv [c]] w (v7 w (iQ (s.count c))):=by
 have hcon:=Any.strings_Count_one Tryz.lCo (bs s) c w;change Calls Tryz.prog 370 _ _ _ at hcon
 refine gC (enters_of Tryz.func370 kr rfl _) hcon ?_;rintro e w' ⟨rfl,rfl⟩;exact⟨rfl,Below.refl _ _,k8 _⟩
def BL (s:e8):Nat->Nat
 | 0=>0
 | 1=>s.count 92
 | _=>s.count 92+s.count 34
theorem XC (s:e8) (k:Nat):BL s k<=s.length:=by
 have h:=JY s;unfold yB at h;unfold BL;split <;> omega
set_option maxRecDepth 100000 in
set_option maxHeartbeats 4000000 in
theorem wP {bq:Nat} {g:SM} (s:e8) (hs:s.length < 1000000) (w:World) (hR:It (Hp.whole w) bq g) :
  j6 Tryz.prog 368 #[pQ bq,sv s] w (v7 w (sv (G4 s))):=by
 have hz:=B6 s;have hn:=hR.tr.len;have hn:g.tr.n=2:=hn;obtain⟨⟨ta,tn,tc,th⟩,s34,s92,hB⟩:=g;dsimp only at hn;subst hn;have htr:(Hp.whole w).cell? ⟨bq,0+256,none⟩=some (.slice ta 2 tc):=hR.cell 256 _ rfl;have hel:=Ar s;have hsl:=JY s;refine enterZ (cx 122) [pQ bq,sv s] [.tmp 4] Tryz.func368 ?_;refine lQ 0 htr ?_;refine nwo ?_;refine d8 (λh1=>?_) λh1=>?_
 ·refine lQ 0 htr ?_;refine u6.mk Nat (λk=>[(0,.v (pQ bq)),(1,.v (sv s)),(5,.v (iQ (s.length+BL s k:Nat))),(6,.v (.bool (decide (BL s k≠0)))),(30,.v (.slice ta 2 tc)),(31,.v (iQ 2)),(32,.v (iQ k))]) (λ_=>[.hp (Hp.whole w)])
   (λk=>k<=2) (λk=>2 - k) 0 dc (v6.mk (λ_ _ h=>h) (by rw[hz];rfl) rfl) ?_
  intro k hk;match k,hk with
  | 0,_=>
   refine I1 cQ (e:=9) rfl hR.tr 0 rfl dc λb9 o9 cs hcs hRc hcell=>?_;subst hRc;refine lQ 0 (hcell 0 _ rfl) ?_;refine k7 _ (λw' hm=>AF s 92 w') ?_;have hstep:BL s 1=BL s 0+s.count 92:=(y8 _).symm;have hle:BL s 1<=s.length:=XC s 1;generalize hct:s.count 92=ct at *;refine d8 (λh4=>?_) λh4=>?_
   ·obtain⟨b2,c2,hcl,_,_⟩:=hR.hit (c:=92) (.inr rfl);refine s6.by_order cQ (.take 0 <| .take 1 <| .take 2 <| .take 3 <| .take 4 <| .take 5 <| .take 6 <| .take 7 <| .take 8 <| .take 9 <| .take 10 <| .take 11 <| .take 12 <| .take 13 <| .done) kr ?_;refine X0 cQ rfl rfl 0 rfl dc ?_;refine EU cQ (T:=349) rfl rfl rfl 92 rfl rfl ?_;refine lQ 0 hcl ?_;refine nw dc dc ?_;refine nwo ?_;refine nwo ?_;refine nw dc dc ?_;have e5:((s.length+BL s 1:Nat):Int)=((s.length+BL s 0:Nat):Int)+(ct:Int)*((2:Nat) - 1:Int):=om
    have e6:decide (BL s 1≠0)=true:=decide_eq_true om;exact⟨1,dc,dc,v6.mk (λ_ _ h=>h) (by (try dsimp only);rw[e5,e6];rfl) rfl⟩
   ·have h4:ct=0:=om
    refine nw dc dc ?_;have e5:BL s 1=BL s 0:=om
    exact⟨1,dc,dc,v6.mk (λ_ _ h=>h) (by (try dsimp only);rw[e5];rfl) rfl⟩
  | 1,_=>
   refine I1 cQ (e:=9) rfl hR.tr 1 rfl dc λb9 o9 cs hcs hRc hcell=>?_;subst hRc;refine lQ 0 (hcell 0 _ rfl) ?_;refine k7 _ (λw' hm=>AF s 34 w') ?_;have hstep:BL s 2=BL s 1+s.count 34:=rfl;have hle:BL s 2<=s.length:=XC s 2;generalize hct:s.count 34=ct at *;refine d8 (λh4=>?_) λh4=>?_
   ·obtain⟨b2,c2,hcl,_,_⟩:=hR.hit (c:=34) (.inl rfl);refine s6.by_order cQ (.take 0 <| .take 1 <| .take 2 <| .take 3 <| .take 4 <| .take 5 <| .take 6 <| .take 7 <| .take 8 <| .take 9 <| .take 10 <| .take 11 <| .take 12 <| .take 13 <| .done) kr ?_;refine X0 cQ rfl rfl 0 rfl dc ?_;refine EU cQ (T:=349) rfl rfl rfl 34 rfl rfl ?_;refine lQ 0 hcl ?_;refine nw dc dc ?_;refine nwo ?_;refine nwo ?_;refine nw dc dc ?_;have e5:((s.length+BL s 2:Nat):Int)=((s.length+BL s 1:Nat):Int)+(ct:Int)*((2:Nat) - 1:Int):=om
    have e6:decide (BL s 2≠0)=true:=decide_eq_true om;exact⟨2,dc,dc,v6.mk (λ_ _ h=>h) (by (try dsimp only);rw[e5,e6];rfl) rfl⟩
   ·have h4:ct=0:=om
    refine nw dc dc ?_;have e5:BL s 2=BL s 1:=om
    exact⟨2,dc,dc,v6.mk (λ_ _ h=>h) (by (try dsimp only);rw[e5];rfl) rfl⟩
  | 2,_=>
   have e2:BL s 2=yB s:=rfl;rw[e2];refine s8 (λh6=>?_) λh6=>?_
   ·have h6:yB s=0:=by simpa using h6
    rw[IN h6];exact⟨[],⟨rfl,rfl⟩,pk [0]⟩
   ·have h6:yB s≠0:=by simpa using h6
    refine Er (f:=WJ) cQ (e:=5) rfl (G4 s).length 0 rfl om om rfl om λo85 ho85n ho85=>?_;refine u6.mk (Nat×Dw.Os) (λg=>[(0,.v (pQ bq)),(1,.v (sv s)),(12,.v (o85.v)),(13,.v (iQ (G4 (s.take g.1)).length)),(14,.v (iQ g.1))]) (λg=>[.hp (Hp.whole w),.hp g.2.h])
     (λg=>g.1<=s.length/\(g.2.a=o85.a/\g.2.n=o85.n/\g.2.c=o85.c)/\w8 WJ 5 1 g.2 (oK s g.1)) (λg=>s.length - g.1) (0,o85) ⟨f8 _,⟨rfl,rfl,rfl⟩,by dsimp only;rw[DC];exact ho85⟩ (v6.mk (λ_ _ h=>h) rfl rfl) ?_
    rintro⟨i,⟨oa,on,oc,oh⟩⟩ ⟨hi,⟨ha,hnn,hcc⟩,ho⟩;dsimp only at ha hnn hcc hi ho ⊢;subst ha hnn hcc;refine d8 (λh8=>?_) λh8=>?_
    ·have hi1:i < s.length:=om
     obtain⟨c,hc⟩ :∃c,c=s.getD i 0:=⟨_,rfl⟩
     have hbl:=gD s i;have hlt:(G4 (s.take i)).length+(bL c).length<=(G4 s).length:=by have h:=dN s (i+1);rw[fY hi1,d6,<-hc] at h;exact h
     have hlen1:(G4 (s.take (i+1))).length=(G4 (s.take i)).length+(bL c).length:=by rw[fY hi1,d6,<-hc]
     refine X0 cQ rfl rfl i rfl hi1 ?_;rw[<-hc];refine EU cQ (T:=349) rfl rfl rfl c.toNat rfl (uN c) ?_;by_cases hsp:c=34\/c=92
     ·obtain⟨b2,c2,hcl,hc0,hc1⟩:=hR.hit hsp;have he2:bL c = [92,c]:=by unfold bL;rw[if_pos hsp]
      rw[he2] at hlt hlen1;have hlt:(G4 (s.take i)).length+2<=(G4 s).length:=hlt;have hlen1:(G4 (s.take (i+1))).length=(G4 (s.take i)).length+2:=hlen1;refine lQ 0 hcl ?_;refine tW rfl ?_;obtain⟨b,hb⟩:=ho.addr (by rw[gD];omega);have hb:o85.a=some ⟨b,0,none⟩:=hb;have hcap:o85.n<=o85.c:=ho.2.cap;have hput:=AL hi1;rw[<-hc,he2] at hput;refine s6.by_order0 cQ (.take 0 <| .take 1 <| .take 2 <| .take 3 <| .take 4 <| .take 5 <| .take 6 <| .take 7 <| .take 8 <| .take 9 <| .run 10 <| .take 11 <| .take 12 <| .done) kr (K9 _ 1) ?_;refine Ly cQ (e:=5) (a:=o85.a) (n:=o85.n) (c:=o85.c) rfl hb (G4 (s.take i)).length rfl om hcap ?_;refine EU cQ (T:=349) rfl rfl rfl c.toNat rfl (uN c) ?_;refine lQ 0 hcl ?_;refine Ie (f:=WJ) cQ (e:=5) rfl rfl (λ_=>rfl) (i:=1) (o:=⟨o85.a,o85.n,o85.c,oh⟩) rfl hb (M:=[92,c]) ho (by rw[gD];exact hlt) sQ rfl (λw' hm j v hj=>?_) rfl λo2 f1 f2 f3 ho2=>?_
      ·have h0:(Hp.whole w).cell? ((⟨b2,0,none⟩:Addr).add j)=some v:=by
        match j,hj with
        | 0,hj=>cases hj;exact hc0
        | 1,hj=>cases hj;exact hc1
       exact (hm 0 _ rfl:(Hp.whole w).In w').cell h0
      refine⟨sK,?_⟩;refine nw (by have:([92,c]:e8).length=2:=rfl;omega) (by have:([92,c]:e8).length=2:=rfl;omega) ?_;refine nwo ?_;have e13:(((G4 (s.take (i+1))).length:Nat):Int)=((G4 (s.take i)).length:Nat)+(([92,c]:e8).length:Nat):=by rw[hlen1];rfl
      exact⟨(i+1,o2),⟨hi1,⟨f1,f2,f3⟩,by dsimp only;rw[<-hput];exact ho2⟩,by dsimp only;omega,v6.mk (λ_ _ h=>h) (by dsimp only;rw[e13];rfl) rfl⟩
     ·have hcl:=hR.miss hsp;have he1:bL c = [c]:=by unfold bL;rw[if_neg hsp]
      rw[he1] at hlt hlen1;have hlt:(G4 (s.take i)).length+1<=(G4 s).length:=hlt;have hlen1:(G4 (s.take (i+1))).length=(G4 (s.take i)).length+1:=hlen1;have hset:=IZ hi1 (by rw[<-hc];exact hsp);rw[<-hc] at hset;refine lQ 0 hcl ?_;refine tW rfl ?_;have hkl:(G4 (s.take i)).length < (oK s i).length:=om
      refine aW (f:=WJ) cQ (e:=5) rfl rfl ho (G4 (s.take i)).length rfl hkl λb9 hb9=>?_;refine kI (g:=λx:UInt8=>.int .u8 x.toNat) (λ_=>rfl) cQ (i:=1) rfl hb9 ho hkl rfl rfl c rfl rfl rfl λo2 f1 f2 f3 ho2=>?_;(iterate 2 refine nwo ?_);have e13:(((G4 (s.take (i+1))).length:Nat):Int)=((G4 (s.take i)).length:Nat)+1:=by rw[hlen1];rfl
      exact⟨(i+1,o2),⟨hi1,⟨f1,f2,f3⟩,by dsimp only;rw[<-hset];exact ho2⟩,by dsimp only;omega,v6.mk (λ_ _ h=>h) (by dsimp only;rw[e13];rfl) rfl⟩
    ·have hi2:i=s.length:=om
     subst hi2;rw[JA] at ho;refine Bz (i:=1) (o:=⟨o85.a,o85.n,o85.c,oh⟩) rfl ho om ?_;exact⟨[],⟨rfl,rfl⟩,pk [0]⟩
 ·refine u6.mk Nat (λi=>[(0,.v (pQ bq)),(1,.v (sv s)),(5,.v (iQ (s.length+yB (s.take i):Nat))),(6,.v (.bool (decide (yB (s.take i)≠0)))),(10,.v (iQ i))]) (λ_=>[.hp (Hp.whole w)])
   (λi=>i<=s.length) (λi=>s.length - i) 0 (f8 _) (v6.mk (λ_ _ h=>h) (by rw[hz];rfl) rfl) ?_
  intro i hi;dsimp only at *;refine d8 (λh14=>?_) λh14=>?_
  ·have hi1:i < s.length:=om
   obtain⟨c,hc⟩ :∃c,c=s.getD i 0:=⟨_,rfl⟩
   have hst:=TO hi1;have hle:=JY (s.take (i+1));rw[j8] at hle;rw[<-hc] at hst;refine X0 cQ rfl rfl i rfl hi1 ?_;rw[<-hc];refine EU cQ (T:=349) rfl rfl rfl c.toNat rfl (uN c) ?_;by_cases hsp:c=34\/c=92
   ·obtain⟨b2,c2,hcl,hc0,hc1⟩:=hR.hit hsp;rw[if_pos hsp] at hst;refine lQ 0 hcl ?_;refine tW rfl ?_;refine EU cQ (T:=349) rfl rfl rfl c.toNat rfl (uN c) ?_;refine lQ 0 hcl ?_;refine nw dc dc ?_;(iterate 2 refine nwo ?_);have e5:((s.length+yB (s.take (i+1)):Nat):Int)=((s.length+yB (s.take i):Nat):Int)+((2:Nat) - 1:Int):=om
    have e6:decide (yB (s.take (i+1))≠0)=true:=decide_eq_true om;exact⟨i+1,hi1,by (try dsimp only);omega,v6.mk (λ_ _ h=>h) (by (try dsimp only);rw[e5,e6];rfl) rfl⟩
   ·have hcl:=hR.miss hsp;rw[if_neg hsp] at hst;refine lQ 0 hcl ?_;refine tW rfl ?_;refine nwo ?_;exact⟨i+1,hi1,by (try dsimp only);omega,v6.mk (λ_ _ h=>h) (by (try dsimp only);rw[hst];rfl) rfl⟩
  ·have hi2:i=s.length:=om
   subst hi2;rw[p9];refine s8 (λh6=>?_) λh6=>?_
   ·have h6:yB s=0:=by simpa using h6
    rw[IN h6];exact⟨[],⟨rfl,rfl⟩,pk [0]⟩
   ·have h6:yB s≠0:=by simpa using h6
    refine Er (f:=WJ) cQ (e:=5) rfl (G4 s).length 0 rfl om om rfl om λo85 ho85n ho85=>?_;refine u6.mk (Nat×Dw.Os) (λg=>[(0,.v (pQ bq)),(1,.v (sv s)),(12,.v (o85.v)),(13,.v (iQ (G4 (s.take g.1)).length)),(14,.v (iQ g.1))]) (λg=>[.hp (Hp.whole w),.hp g.2.h])
     (λg=>g.1<=s.length/\(g.2.a=o85.a/\g.2.n=o85.n/\g.2.c=o85.c)/\w8 WJ 5 1 g.2 (oK s g.1)) (λg=>s.length - g.1) (0,o85) ⟨f8 _,⟨rfl,rfl,rfl⟩,by dsimp only;rw[DC];exact ho85⟩ (v6.mk (λ_ _ h=>h) rfl rfl) ?_
    rintro⟨i,⟨oa,on,oc,oh⟩⟩ ⟨hi,⟨ha,hnn,hcc⟩,ho⟩;dsimp only at ha hnn hcc hi ho ⊢;subst ha hnn hcc;refine d8 (λh8=>?_) λh8=>?_
    ·have hi1:i < s.length:=om
     obtain⟨c,hc⟩ :∃c,c=s.getD i 0:=⟨_,rfl⟩
     have hbl:=gD s i;have hlt:(G4 (s.take i)).length+(bL c).length<=(G4 s).length:=by have h:=dN s (i+1);rw[fY hi1,d6,<-hc] at h;exact h
     have hlen1:(G4 (s.take (i+1))).length=(G4 (s.take i)).length+(bL c).length:=by rw[fY hi1,d6,<-hc]
     refine X0 cQ rfl rfl i rfl hi1 ?_;rw[<-hc];refine EU cQ (T:=349) rfl rfl rfl c.toNat rfl (uN c) ?_;by_cases hsp:c=34\/c=92
     ·obtain⟨b2,c2,hcl,hc0,hc1⟩:=hR.hit hsp;have he2:bL c = [92,c]:=by unfold bL;rw[if_pos hsp]
      rw[he2] at hlt hlen1;have hlt:(G4 (s.take i)).length+2<=(G4 s).length:=hlt;have hlen1:(G4 (s.take (i+1))).length=(G4 (s.take i)).length+2:=hlen1;refine lQ 0 hcl ?_;refine tW rfl ?_;obtain⟨b,hb⟩:=ho.addr (by rw[gD];omega);have hb:o85.a=some ⟨b,0,none⟩:=hb;have hcap:o85.n<=o85.c:=ho.2.cap;have hput:=AL hi1;rw[<-hc,he2] at hput;refine s6.by_order0 cQ (.take 0 <| .take 1 <| .take 2 <| .take 3 <| .take 4 <| .take 5 <| .take 6 <| .take 7 <| .take 8 <| .take 9 <| .run 10 <| .take 11 <| .take 12 <| .done) kr (K9 _ 1) ?_;refine Ly cQ (e:=5) (a:=o85.a) (n:=o85.n) (c:=o85.c) rfl hb (G4 (s.take i)).length rfl om hcap ?_;refine EU cQ (T:=349) rfl rfl rfl c.toNat rfl (uN c) ?_;refine lQ 0 hcl ?_;refine Ie (f:=WJ) cQ (e:=5) rfl rfl (λ_=>rfl) (i:=1) (o:=⟨o85.a,o85.n,o85.c,oh⟩) rfl hb (M:=[92,c]) ho (by rw[gD];exact hlt) sQ rfl (λw' hm j v hj=>?_) rfl λo2 f1 f2 f3 ho2=>?_
      ·have h0:(Hp.whole w).cell? ((⟨b2,0,none⟩:Addr).add j)=some v:=by
        match j,hj with
        | 0,hj=>cases hj;exact hc0
        | 1,hj=>cases hj;exact hc1
       exact (hm 0 _ rfl:(Hp.whole w).In w').cell h0
      refine⟨sK,?_⟩;refine nw (by have:([92,c]:e8).length=2:=rfl;omega) (by have:([92,c]:e8).length=2:=rfl;omega) ?_;refine nwo ?_;have e13:(((G4 (s.take (i+1))).length:Nat):Int)=((G4 (s.take i)).length:Nat)+(([92,c]:e8).length:Nat):=by rw[hlen1];rfl
      exact⟨(i+1,o2),⟨hi1,⟨f1,f2,f3⟩,by dsimp only;rw[<-hput];exact ho2⟩,by dsimp only;omega,v6.mk (λ_ _ h=>h) (by dsimp only;rw[e13];rfl) rfl⟩
     ·have hcl:=hR.miss hsp;have he1:bL c = [c]:=by unfold bL;rw[if_neg hsp]
      rw[he1] at hlt hlen1;have hlt:(G4 (s.take i)).length+1<=(G4 s).length:=hlt;have hlen1:(G4 (s.take (i+1))).length=(G4 (s.take i)).length+1:=hlen1;have hset:=IZ hi1 (by rw[<-hc];exact hsp);rw[<-hc] at hset;refine lQ 0 hcl ?_;refine tW rfl ?_;have hkl:(G4 (s.take i)).length < (oK s i).length:=om
      refine aW (f:=WJ) cQ (e:=5) rfl rfl ho (G4 (s.take i)).length rfl hkl λb9 hb9=>?_;refine kI (g:=λx:UInt8=>.int .u8 x.toNat) (λ_=>rfl) cQ (i:=1) rfl hb9 ho hkl rfl rfl c rfl rfl rfl λo2 f1 f2 f3 ho2=>?_;(iterate 2 refine nwo ?_);have e13:(((G4 (s.take (i+1))).length:Nat):Int)=((G4 (s.take i)).length:Nat)+1:=by rw[hlen1];rfl
      exact⟨(i+1,o2),⟨hi1,⟨f1,f2,f3⟩,by dsimp only;rw[<-hset];exact ho2⟩,by dsimp only;omega,v6.mk (λ_ _ h=>h) (by dsimp only;rw[e13];rfl) rfl⟩
    ·have hi2:i=s.length:=om
     subst hi2;rw[JA] at ho;refine Bz (i:=1) (o:=⟨o85.a,o85.n,o85.c,oh⟩) rfl ho om ?_;exact⟨[],⟨rfl,rfl⟩,pk [0]⟩
end Go.Proofs.YtpjhmeicbjkcdaaGreatDoor
namespace Go.Proofs.YtpjhmeicbjkcdaaGreatDoor
open Go Go.RowKit Go.Dw
def BA (n:Nat):Bool:=decide (n < 32) || decide (126 < n)
def DM (c:UInt8):Bool:=BA c.toNat
theorem OK (s:e8) :∀f pos,s.length<=f+pos->(0<=Lib.idxFuncFrom BA true (bs s) f pos↔(s.drop pos).any DM=true)
 | 0,pos,h=>by
  rw[H4 om];show (0:Int)<=-1↔false=true
  exact⟨λg=>by omega,λg=>by cases g⟩
 | f+1,pos,h=>by
  have hz:=B6 s;unfold Lib.idxFuncFrom;by_cases hp:pos < s.length
  ·have hp':pos < (bs s).size:=by rw[hz];exact hp
   have hg:(bs s)[pos]'hp'=s[pos]:=rfl;rw[if_pos hp',r5 hp,Nc];by_cases ha:s[pos].toNat < 128
   ·rw[decode_ascii (bs s) pos hp' (by rw[hg];exact ha),hg];dsimp only;by_cases hb:BA s[pos].toNat=true
    ·rw[if_pos hb,show DM s[pos]=true from hb];exact⟨λ_=>rfl,λ_=>by omega⟩
    ·rw[if_neg hb,show DM s[pos]=false from by unfold DM;simpa using hb,AV];exact OK s f (pos+1) om
   ·obtain⟨h1,_⟩:=decode_high (bs s) pos hp' (by rw[hg];omega);have h2:BA (Utf8.decode (bs s) pos).1=true:=by unfold BA;rw[decide_eq_true (show 126 < (Utf8.decode (bs s) pos).1 by omega),kB]
    obtain⟨c,hc⟩ :∃c:UInt8,c=s[pos]'hp:=⟨_,rfl⟩
    have hc2 : ¬ c.toNat < 128:=by rw[hc];exact ha
    have h3:DM c=true:=by unfold DM BA;rw[decide_eq_true (show 126 < c.toNat by omega),kB]
    rw[if_pos h2,<-hc,h3];exact⟨λ_=>rfl,λ_=>by omega⟩
  ·rw[if_neg (by rw[hz];exact hp),H4 om];exact⟨λg=>by omega,λg=>by cases g⟩
theorem FA (s:e8):decide (0<=Lib.idxFunc BA true (bs s))=s.any DM:=by
 have:=OK s (bs s).size 0 (by rw[B6];omega);rw[H6] at this;unfold Lib.idxFunc;rw[L6,decide_eq_true_eq];exact this
end Go.Proofs.YtpjhmeicbjkcdaaGreatDoor
namespace Go.Proofs
open Go.Shelf
def Tryz.lCf_ren:Go.Shelf.Ren:=⟨λ| 17=>108 | 15=>178 | 20=>209 | n=>n,λ| 9=>9 | 23=>186 | 4=>4 | 3=>3 | 0=>0 | 21=>21 | n=>n,λ| n=>n⟩
theorem Tryz.lCf:Go.Proofs.LaysGw.n17 Tryz.prog Tryz.lCf_ren:={
 mixed:=kr
 f15:=Tryz.func178.trans (congrArg some kr)
 f17:=Tryz.func108.trans (congrArg some kr)
 f20:=Tryz.func209.trans (congrArg some kr)
 t0:=Tryz.underlying0
 a0:=Tryz.isAgg0
 z0:=Tryz.sizeOf0
 v0:=Tryz.zeroValue0
 i0:=kr
 t3:=Tryz.underlying3
 a3:=Tryz.isAgg3
 z3:=Tryz.sizeOf3
 v3:=Tryz.zeroValue3
 i3:=kr
 t4:=Tryz.underlying4
 a4:=Tryz.isAgg4
 z4:=Tryz.sizeOf4
 v4:=Tryz.zeroValue4
 i4:=kr
 t9:=Tryz.underlying9
 a9:=Tryz.isAgg9
 z9:=Tryz.sizeOf9
 v9:=Tryz.zeroValue9
 i9:=kr
 t21:=Tryz.underlying21
 a21:=Tryz.isAgg21
 z21:=Tryz.sizeOf21
 v21:=Tryz.zeroValue21
 i21:=kr
 t23:=Tryz.underlying186
 a23:=Tryz.isAgg186
 z23:=Tryz.sizeOf186
 v23:=Tryz.zeroValue186
 i23:=by kernel_rfl }
end Go.Proofs
namespace Go.Proofs.YtpjhmeicbjkcdaaGreatDoor
open Go Go.Shelf Go.RowKit Go.Dw Go.Lib
theorem Dc (w:World):PredAt Tryz.prog 184 #[] encR BA w:=λW r _=>by
 unfold FnGives;by_cases h1:r < 32 <;> by_cases h2:126 < r
 all_goals
  have z1:(r:Int) < 32↔r < 32:=om
  have z2:(r:Int) > 126↔126 < r:=om
  go_enter Tryz.func184,Tryz.ntmps184
  go_wp2
  all_goals first | (exfalso;omega) | (go_ret;exact⟨by simp[BA,h1,h2],0,rfl⟩)
theorem uL (s:e8) (w:World):j6 Tryz.prog 108 #[sv s,.func (.func 184) #[] #[]] w (v7 w (.bool (s.any DM))):=by
 have hcon:=Any.strings_ContainsFunc_grows Tryz.lCf 184 #[] (enters_of Tryz.func184 kr rfl) BA (bs s) w (Dc w).runes.grows;change Calls Tryz.prog 108 _ _ _ at hcon
 refine⟨enters_of (args:=#[sv s,.func (.func 184) #[] #[]]) Tryz.func108 kr rfl,hcon.mono ?_⟩;rintro e w' ⟨rfl,hb⟩;rw[FA];exact v7.ofBelow rfl hb
end Go.Proofs.YtpjhmeicbjkcdaaGreatDoor
namespace Go.Proofs.YtpjhmeicbjkcdaaGreatDoor
open Go Go.RowKit Go.Dw
theorem Fi {P:Program} {s:List Ch} {v r:Value} {m:String} {args:List Value} {q:TV->List Ch->Prop} {f:Nat} {fa:Array Value} (hm :∀w,(callMethod v m args.toArray).run P w=.ok (.enter f fa) w) (hc :∀w,gN s w->j6 P f fa w (v7 w r)) (k:q (.v r) s):Cv P s v m args q:=by
 refine⟨λw0 w hok=>⟨f,fa,hm w,(hc w hok.mem).2.mono λe w' he=>?_⟩⟩;obtain⟨v',cs,rfl,h1,rfl,rfl⟩:=he;have h2:=hok.call h1;rw[p8] at h2;exact⟨_,s,rfl,h2,J6.refl s,k⟩
theorem uQ {a:Option Addr} {n c:Nat} (w:World) (hL:Sl (B0 fS) 1 (Hp.whole w) a n c Gx) :
  j6 Tryz.prog 185 #[.slice a n c] w (fD w λv cs=>∃b o,v=pQ b/\cs = [.box b [.int .u32 0,.int .i32 0,.int .u32 0,.nilIface,o.v] 279,.hp o.h]/\w8 fS 9 1 o Gx):=by
 have hn:=hL.len;have hn:n=4:=hn;subst hn;refine enterZ (cx 12) [.slice a 4 c] [.tmp 2] Tryz.func185 ?_;refine gR 4 2 0 rfl rfl dc dc ?_;refine Is cQ (e:=9) rfl (λ_=>rfl) (λ_=>rfl) (k:=0) rfl hL rfl dc λo' ho'=>?_;intro b;exact⟨[.box b _ _,.hp o'.h],⟨b,o',rfl,rfl,ho'⟩,pk [0,2,1]⟩
set_option maxRecDepth 100000 in
theorem XI {h0:Hp} {b1 T1:Nat} {cs1:List Value} {b:Nat} {o:Dw.Os} {s:e8} (hs:s.length < 1000000) (ho:w8 fS 9 1 o Gx) {q:TV->List Ch->Prop} (hq :∀x r,q (.v (sv (G4 s))) (.hp h0::.box b1 cs1 T1::.box b [.int .u32 1,.int .i32 0,.int .u32 0,x,zl] 279::r)) :
  Q8 Tryz.prog [.hp h0,.box b1 cs1 T1,.box b [.int .u32 0,.int .i32 0,.int .u32 0,.nilIface,o.v] 279,.hp o.h] 186 [pQ b,sv s] q:=by
 refine enterFZ (cx 17) [pQ b,sv s] [.tmp 4] Tryz.func186 ?_;refine Fj (i:=2) rfl ?_;refine enterFZ (cx 10) [pQ b] [] Tryz.func218 ?_;refine call (λw' hm=>MI w' (nT (i:=2) (j:=4) rfl rfl hm) ((w8.sl (f:=fS) (sz:=1) (λ_=>rfl) dc ho).mono (j7 _) (hm 3 _ rfl))) ?_;rintro _ _ ⟨bq,g,rfl,rfl,hI⟩;refine fI cQ (i:=2) (j:=3) rfl rfl rfl sQ rfl rfl ?_;refine fI cQ (i:=2) (j:=4) rfl rfl rfl sQ rfl rfl ?_;refine⟨⟨rfl,rfl,trivial⟩,rfl,_,rfl,?_⟩;refine lR 2 3 ?_;obtain⟨h34,h92,htr⟩:=hI;refine Fi (f:=368) (fa:=#[pQ bq,sv s]) (λ_=>by kernel_rfl) (λw' hm=>wP (g:=g) s hs w' ⟨λm v hv=>?_,h34.mono (hm 4 _ rfl),h92.mono (hm 4 _ rfl),(w8.sl (f:=fS) (sz:=1) (λ_=>rfl) dc htr).mono (j7 _) (hm 6 _ rfl)⟩) ?_
 ·rw[y8];exact nT (i:=5) rfl hv hm
 exact⟨⟨rfl,rfl,trivial⟩,hq _ _⟩
def GO (s:e8):e8×Int:=if 4096 < s.length then ([],5) else if s.any DM=true then ([],14) else (iB s,0)
set_option maxRecDepth 100000 in
theorem AN (s:e8) (hs:s.length < 1000000) (w:World):j6 Tryz.prog 131 #[sv s] w (v7 w (.tuple #[sv (GO s).1,iQ (GO s).2])):=by
 have hz:=B6 s;unfold GO;refine enterZ (cx 15) [sv s] [.tmp 2,.tmp 3] Tryz.func131 ?_;refine d8 (λh1=>?_) λh1=>?_
 ·rw[if_pos om];exact⟨[],⟨rfl,rfl⟩,λw' h=>h⟩
 rw[if_neg om];refine k7 _ (λw' hm=>uL s w') ?_;refine s8 (λh2=>?_) λh2=>?_
 ·rw[if_pos h2];exact⟨[],⟨rfl,rfl⟩,λw' h=>h⟩
 rw[if_neg (by rw[h2];decide)];have hel:=EW s;intro b9;refine call (λw' hm=>uQ w' (Sl.box (f:=fS) (λ_=>rfl) dc (hm 1 _ rfl) Gx rfl rfl dc)) ?_;rintro _ _ ⟨b,o,rfl,rfl,ho⟩;refine XI hs ho λx r=>?_;refine P0 (ty:=9) (a:=[34]) (by simp only[d7,d9];omega) ?_;refine P0 (ty:=9) (b:=[34]) (by simp only[d7,d9,d6];omega) ?_;exact⟨[],⟨rfl,rfl⟩,pk [0]⟩
end Go.Proofs.YtpjhmeicbjkcdaaGreatDoor
namespace Go.Proofs.YtpjhmeicbjkcdaaGreatDoor
open Go
def zT (z:Int):e8:=if z < 0 then 45::Lib.decDigits z.natAbs else Lib.decDigits z.natAbs
def tO (s:e8):Bool:=decide (s≠[]) && (decide (s.length<=40) && (P4 (s.getD 0 0) && s.all K7))
def P1 (s:e8):e8:=if tO s=true then s else (GO s).1
def O5:List e8->e8
 | []=>[]
 | [x]=>x
 | x::y::r=>x++44::32::O5 (y::r)
def dL (l:List Int):e8:=40::(O5 (l.map zT)++[41])
def dV (nm:Int->e8) (t:JL):e8:=(if t.2.getD 0 0=45 then [32,45,32]++t.2.drop 1 else [32,43,32]++t.2)++([32,42,32]++nm t.1)
def bZ (nm:Int->e8) (f:gG):e8:=91::(f.1++(f.2.flatMap (dV nm)++[93]))
def jP (op:Int):e8:=if op=1 then [97,100,100] else if op=2 then [115,99,97,108,101] else if op=3 then [109,105,110] else if op=4 then [109,97,120] else if op=5 then [97,98,115] else []
def E7 (nm:Int->e8):Nat->Ex->e8
 | 0,_=>[]
 | d+1,.mk op f fac args=>if op=0 then bZ nm f else jP op++((if op=2 then 32::(fac++[32]) else [])++(40::(O5 (args.map (E7 nm d))++[41])))
def D6 (dims:List S1) (i:Int):e8:=P1 (dims.getD i.toNat ([],0,0,0)).1
def tP (v:V3):e8:=32::dL [v.1,v.2.1,v.2.2]
def tD (c:List V3):e8:=[32,32,99,101,108,108]++(c.flatMap tP++[59,10])
def oA (p:W3):e8:=[112,97,114,116,32]++(P1 p.1++([32,100,101,110,115,105,116,121,32]++(zT p.2.1++([32,123,10]++(p.2.2.flatMap tD++[125,10])))))
def oH (x:mX):e8:=[105,110,115,116,97,110,99,101,32]++(P1 x.1++([32,111,102,32]++(P1 x.2.1++([32,116,117,114,110,32]++(dL [x.2.2.1.1,x.2.2.1.2.1,x.2.2.1.2.2.1,x.2.2.1.2.2.2] ++
 ([32,115,104,105,102,116,32,40]++(x.2.2.2.1++([44,32]++(x.2.2.2.2.1++([44,32]++(x.2.2.2.2.2++[41,59,10])))))))))))
def sW (d:S1):e8:=[100,105,109,101,110,115,105,111,110,32]++(P1 d.1++([32,61,32]++(zT d.2.1++([32,91]++(zT d.2.2.1++([44,32]++(zT d.2.2.2++[93,59,10])))))))
def sZ (dims:List S1) (c:kY):e8:=[99,111,110,115,116,114,97,105,110,116,32]++(P1 c.1++([58,32]++(bZ (D6 dims) c.2++[32,60,61,32,48,59,10])))
def lW (dims:List S1) (r:kV):e8:=[114,101,113,117,105,114,101,32]++(P1 r.1++([58,32]++(E7 (D6 dims) 8 r.2.1 ++
 ((if r.2.2.1 = [] then [] else [32,102,114,111,109,32]++r.2.2.1)++((if r.2.2.2 = [] then [] else [32,116,111,32]++r.2.2.2)++[59,10])))))
def QH (p:jL):e8:=[112,114,111,100,117,99,116,32]++(P1 p.nm++([59,10]++(p.parts.flatMap oA++(p.insts.flatMap oH++(p.dims.flatMap sW++(p.cons.flatMap (sZ p.dims)++p.reqs.flatMap (lW p.dims)))))))
def ZV (p:jL):e8×Int:=if IW p≠0 then ([],IW p) else if 65536 < (QH p).length then ([],5) else (QH p,0)
end Go.Proofs.YtpjhmeicbjkcdaaGreatDoor
namespace Go.Proofs.YtpjhmeicbjkcdaaGreatDoor
open Go Go.RowKit Go.Dw
def OP (v:V3):List Value:=[iQ v.1,iQ v.2.1,iQ v.2.2]
def dM (x:mX):List Value:=[sv x.1,sv x.2.1,iQ x.2.2.1.1,iQ x.2.2.1.2.1,iQ x.2.2.1.2.2.1,iQ x.2.2.1.2.2.2,sv x.2.2.2.1,sv x.2.2.2.2.1,sv x.2.2.2.2.2]
def O1 (d:S1):List Value:=[sv d.1,iQ d.2.1,iQ d.2.2.1,iQ d.2.2.2]
def U0 (t:JL):List Value:=[iQ t.1,sv t.2]
def Jc (x:e8):List Value:=[sv x]
abbrev pN:uU (List V3):=WQ (B0 OP) 3
def bN:uU W3:=λh p cs=>∃a n c,cs = [sv p.1,iQ p.2.1,.slice a n c]/\Sl pN 1 h a n c p.2.2
def Kr:uU gG:=λh f cs=>∃a n c,cs = [sv f.1,.slice a n c]/\Sl (B0 U0) 2 h a n c f.2
def kM:uU kY:=λh x cs=>∃a n c,cs = [sv x.1,sv x.2.1,.slice a n c]/\Sl (B0 U0) 2 h a n c x.2.2
def P5:Nat->uU Ex
 | 0=>λ_ _ _=>False
 | d+1=>λh x cs=>match x with
  | .mk op f fac args=>∃a n c a' n' c',cs = [iQ op,sv f.1,.slice a n c,sv fac,.slice a' n' c']/\Sl (B0 U0) 2 h a n c f.2/\Sl (P5 d) 5 h a' n' c' args
def jJ (d:Nat):uU kV:=λh r cs=>∃xs,cs=sv r.1::(xs++[sv r.2.2.1,sv r.2.2.2])/\P5 d h r.2.1 xs
theorem S6:AQ pN:=CV (j7 _) 3
theorem I9:AQ bN:=λ_ _ _ _ hl ⟨a,n,c,h1,h2⟩=>⟨a,n,c,h1,h2.mono S6 hl⟩
theorem S5:AQ kM:=λ_ _ _ _ hl ⟨a,n,c,h1,h2⟩=>⟨a,n,c,h1,h2.mono (j7 _) hl⟩
theorem q7 :∀d,AQ (P5 d)
 | 0=>λ_ _ _ _ _ h=>h
 | d+1=>λh k x cs hl hx=>by
  obtain⟨op,f,fac,args⟩:=x;obtain⟨a,n,c,a',n',c',h1,h2,h3⟩:=hx;exact⟨a,n,c,a',n',c',h1,h2.mono (j7 _) hl,h3.mono (q7 d) hl⟩
theorem M8 (d:Nat):AQ (jJ d):=λ_ _ _ _ hl ⟨xs,h1,h2⟩=>⟨xs,h1,q7 d _ _ _ _ hl h2⟩
theorem Gv {α:Type} {R R':uU α} {sz:Nat} {h:Hp} {a:Option Addr} {n c:Nat} {L:List α} (hR :∀x cs,R h x cs->R' h x cs) (hs:Sl R sz h a n c L):Sl R' sz h a n c L:=
 ⟨hs.len,hs.cap,λi hi=>let ⟨b,off,cs,h1,h2,h3,h4⟩:=hs.cells i hi;⟨b,off,cs,h1,h2,hR _ _ h3,h4⟩⟩
theorem OW :∀{d:Nat} {h:Hp} {x:Ex} {cs:List Value},P5 d h x cs->P5 (d+1) h x cs
 | 0,_,_,_,h=>h.elim
 | d+1,h,x,cs,hx=>by
  obtain⟨op,f,fac,args⟩:=x;obtain⟨a,n,c,a',n',c',h1,h2,h3⟩:=hx;exact⟨a,n,c,a',n',c',h1,h2,Gv (λy ys hy=>OW hy) h3⟩
theorem Az {d e:Nat} (hde:d<=e) {h:Hp} {x:Ex} {cs:List Value} (hx:P5 d h x cs):P5 e h x cs:=by
 induction hde with
 | refl=>exact hx
 | step _ ih=>exact OW ih
structure qB (d:Nat) (h:Hp) (p:jL) (cs:List Value):Prop where
 ex :∃a1 n1 c1 a2 n2 c2 a3 n3 c3 a4 n4 c4 a5 n5 c5,cs = [sv p.nm,.slice a1 n1 c1,.slice a2 n2 c2,.slice a3 n3 c3,.slice a4 n4 c4,.slice a5 n5 c5]/\
  Sl bN 3 h a1 n1 c1 p.parts/\Sl (B0 dM) 9 h a2 n2 c2 p.insts/\Sl (B0 O1) 4 h a3 n3 c3 p.dims/\Sl kM 3 h a4 n4 c4 p.cons/\Sl (jJ d) 8 h a5 n5 c5 p.reqs
theorem qB.mono {d:Nat} {h k:Hp} {p:jL} {cs:List Value} (hl:h.le k) (hp:qB d h p cs):qB d k p cs:=by
 obtain⟨a1,n1,c1,a2,n2,c2,a3,n3,c3,a4,n4,c4,a5,n5,c5,e,h1,h2,h3,h4,h5⟩:=hp.ex;exact⟨a1,n1,c1,a2,n2,c2,a3,n3,c3,a4,n4,c4,a5,n5,c5,e,h1.mono I9 hl,h2.mono (j7 _) hl,h3.mono (j7 _) hl,h4.mono S5 hl,h5.mono (M8 d) hl⟩
end Go.Proofs.YtpjhmeicbjkcdaaGreatDoor
namespace Go.Proofs.YtpjhmeicbjkcdaaGreatDoor
open Go Go.Shelf Go.RowKit Go.Dw Go.Lib
def EQ (n:Nat):Bool:=decide (n < 33) || decide (126 < n)
theorem OL (s:e8) :∀f pos,s.length<=f+pos->(0<=Lib.idxFuncFrom EQ true (bs s) f pos↔(s.drop pos).any jW=true)
 | 0,pos,h=>by
  rw[H4 om];show (0:Int)<=-1↔false=true
  exact⟨λg=>by omega,λg=>by cases g⟩
 | f+1,pos,h=>by
  have hz:=B6 s;unfold Lib.idxFuncFrom;by_cases hp:pos < s.length
  ·have hp':pos < (bs s).size:=by rw[hz];exact hp
   have hg:(bs s)[pos]'hp'=s[pos]:=rfl;rw[if_pos hp',r5 hp,Nc];by_cases ha:s[pos].toNat < 128
   ·rw[decode_ascii (bs s) pos hp' (by rw[hg];exact ha),hg];dsimp only;by_cases hb:EQ s[pos].toNat=true
    ·rw[if_pos hb,show jW s[pos]=true from hb];exact⟨λ_=>rfl,λ_=>by omega⟩
    ·rw[if_neg hb,show jW s[pos]=false from by unfold jW;unfold EQ at hb;simpa using hb,AV];exact OL s f (pos+1) om
   ·obtain⟨h1,_⟩:=decode_high (bs s) pos hp' (by rw[hg];omega);have h2:EQ (Utf8.decode (bs s) pos).1=true:=by unfold EQ;rw[decide_eq_true (show 126 < (Utf8.decode (bs s) pos).1 by omega),kB]
    obtain⟨c,hc⟩ :∃c:UInt8,c=s[pos]'hp:=⟨_,rfl⟩
    have hc2 : ¬ c.toNat < 128:=by rw[hc];exact ha
    have h3:jW c=true:=by unfold jW;rw[decide_eq_true (show 126 < c.toNat by omega),kB]
    rw[if_pos h2,<-hc,h3];exact⟨λ_=>rfl,λ_=>by omega⟩
  ·rw[if_neg (by rw[hz];exact hp),H4 om];exact⟨λg=>by omega,λg=>by cases g⟩
theorem FB (s:e8):decide (0<=Lib.idxFunc EQ true (bs s))=s.any jW:=by
 have:=OL s (bs s).size 0 (by rw[B6];omega);rw[H6] at this;unfold Lib.idxFunc;rw[L6,decide_eq_true_eq];exact this
theorem Ep (w:World):PredAt Tryz.prog 109 #[] encR EQ w:=λW r _=>by
 unfold FnGives;by_cases h1:r < 33 <;> by_cases h2:126 < r
 all_goals
  have z1:(r:Int) < 33↔r < 33:=om
  have z2:(r:Int) > 126↔126 < r:=om
  go_enter Tryz.func109,Tryz.ntmps109
  go_wp2
  all_goals first | (exfalso;omega) | (go_ret;exact⟨by simp[EQ,h1,h2],0,rfl⟩)
theorem uM (s:e8) (w:World):j6 Tryz.prog 108 #[sv s,.func (.func 109) #[] #[]] w (v7 w (.bool (s.any jW))):=by
 have hcon:=Any.strings_ContainsFunc_grows Tryz.lCf 109 #[] (enters_of Tryz.func109 kr rfl) EQ (bs s) w (Ep w).runes.grows;change Calls Tryz.prog 108 _ _ _ at hcon
 refine⟨enters_of (args:=#[sv s,.func (.func 109) #[] #[]]) Tryz.func108 kr rfl,hcon.mono ?_⟩;rintro e w' ⟨rfl,hb⟩;rw[FB];exact v7.ofBelow rfl hb
theorem dK (s:e8) (w:World):j6 Tryz.prog 36 #[sv s] w (v7 w (.bool (H8 s))):=by
 have hz:=B6 s;unfold H8;refine enterZ (cx 15) [sv s] [.tmp 2] Tryz.func36 ?_;refine cG ?_;refine d8 (λh1=>?_) λh1=>?_
 ·rw[decide_eq_true h1,F6];refine d8 (λh2=>?_) λh2=>?_
  ·rw[decide_eq_true (show s.length<=40 by omega),F6];refine k7 _ (λw' hm=>uM s w') ?_;exact⟨[],⟨rfl,rfl⟩,pk [0]⟩
  ·rw[decide_eq_false (show ¬ s.length<=40 by omega),U4];exact⟨[],⟨rfl,rfl⟩,pk [0]⟩
 ·rw[decide_eq_false h1,U4];exact⟨[],⟨rfl,rfl⟩,pk [0]⟩
theorem cK (s:e8) (hs:s.length < 1000000) (w:World):j6 Tryz.prog 118 #[sv s] w (v7 w (iQ (I7 s))):=by
 refine enterZ (cx 11) [sv s] [.tmp 2] Tryz.func118 ?_;refine call (λw' hm=>R3 s hs w') ?_;rintro _ _ ⟨g,rfl,n1,a1,k1,c1,a2,k2,c2,x,y,rfl,h⟩;intro b3;exact⟨[],⟨rfl,rfl⟩,pk [0]⟩
theorem FP (n:Int) (most:Nat) (hm:most < 4611686018427387904) (w:World):j6 Tryz.prog 113 #[iQ n,iQ most] w (v7 w (.bool (!aH n most))):=by
 unfold aH;refine enterZ (cx 14) [iQ n,iQ most] [.tmp 4] Tryz.func113 ?_;refine nwo ?_;refine d8 (λh1=>?_) λh1=>?_
 ·rw[decide_eq_false (show ¬ n < -(most:Int) by omega),AV];have e:(!decide (n > (most:Int)))=decide (n<=(most:Int)):=by rw[L6];simp
  rw[e];exact⟨[],⟨rfl,rfl⟩,pk [0]⟩
 ·rw[decide_eq_true (show n < -(most:Int) by omega),Bool.true_or];exact⟨[],⟨rfl,rfl⟩,pk [0]⟩
end Go.Proofs.YtpjhmeicbjkcdaaGreatDoor
namespace Go.Proofs.YtpjhmeicbjkcdaaGreatDoor
open Go Go.RowKit Go.Dw
theorem fO {K:Nat} {p:Value} {nm:Nat->e8} (i:Nat) (hi:i < 1000000) (w:World) (h :∀k,k<=i->∀w',(Hp.whole w).In w'->j6 Tryz.prog K #[iQ k,p] w' (v7 w' (sv (nm k)))) :
  j6 Tryz.prog 50 #[.func (.func K) #[] #[p],iQ i] w (v7 w (iQ (wH ((z8 i).map nm) (nm i)))):=by
 unfold wH;refine enterZ (cx 23) [.func (.func K) #[] #[p],iQ i] [.tmp 4] Tryz.func50 ?_;refine k7 _ (λw' hm=>h i (k8 _) w' (hm 0 _ rfl)) ?_;refine k7 _ (λw' hm=>dK (nm i) w') ?_;refine s8 (λh1=>?_) λh1=>?_
 ·have h1:H8 (nm i)=false:=by simpa using h1
  rw[if_pos h1];exact⟨[],⟨rfl,rfl⟩,pk [0]⟩
 have h1:H8 (nm i)=true:=by simpa using h1
 rw[if_neg (by rw[h1];decide)];refine u6.mk Nat (λk=>[(0,.v (.func (.func K) #[] #[p])),(1,.v (iQ i)),(11,.v (iQ i)),(12,.v (iQ k))]) (λ_=>[.hp (Hp.whole w)])
  (λk=>k<=i/\∀j,j < k->nm j≠nm i) (λk=>i - k) 0 ⟨f8 _,λj hj=>absurd hj (H5 _)⟩ (v6.mk (λ_ _ h=>h) rfl rfl) ?_
 rintro k ⟨hk,hn⟩;dsimp only at hk hn ⊢;refine d8 (λh2=>?_) λh2=>?_
 ·have hk1:k < i:=om
  refine k7 _ (λw' hm=>h k om w' (hm 0 _ rfl)) ?_;refine k7 _ (λw' hm=>h i (k8 _) w' (hm 0 _ rfl)) ?_;refine W8 ?_;refine d8 (λh3=>?_) λh3=>?_
  ·rw[if_pos (G6.2 ⟨k,aP.2 hk1,h3⟩)];exact⟨[],⟨rfl,rfl⟩,pk [0]⟩
  ·refine nwo ?_;exact⟨k+1,⟨hk1,λj hj=>(K8 j k).elim (hn j) (λg=>by rw[show j=k by omega];exact h3)⟩,by (try dsimp only);omega,v6.mk (λ_ _ h=>h) rfl rfl⟩
 ·have hk2:k=i:=om
  subst hk2;rw[if_neg (λg=>by
   obtain⟨j,hj,e⟩:=G6.1 g;exact hn j (aP.1 hj) e)]
  exact⟨[],⟨rfl,rfl⟩,pk [0]⟩
theorem jI {K:Nat} {p:Value} {f:Nat->Int} (count most:Nat) (hc:count < 1000000) (hm:most < 1000000) (w:World) (h :∀k,k < count->∀w',(Hp.whole w).In w'->j6 Tryz.prog K #[iQ k,p] w' (v7 w' (iQ (f k)))) :
  j6 Tryz.prog 39 #[iQ count,iQ most,.func (.func K) #[] #[p]] w (v7 w (iQ (if most < count then 6 else mO f count))):=by
 refine enterZ (cx 23) [iQ count,iQ most,.func (.func K) #[] #[p]] [.tmp 6] Tryz.func39 ?_;refine d8 (λh1=>?_) λh1=>?_
 ·rw[if_pos om];exact⟨[],⟨rfl,rfl⟩,pk [0]⟩
 rw[if_neg om];refine u6.mk Nat (λk=>[(2,.v (.func (.func K) #[] #[p])),(12,.v (iQ count)),(13,.v (iQ k))]) (λ_=>[.hp (Hp.whole w)])
  (λk=>k<=count/\∀j,j < k->f j=0) (λk=>count - k) 0 ⟨f8 _,λj hj=>absurd hj (H5 _)⟩ (v6.mk (λ_ _ h=>h) rfl rfl) ?_
 rintro k ⟨hk,hn⟩;dsimp only at hk hn ⊢;refine d8 (λh2=>?_) λh2=>?_
 ·have hk1:k < count:=om
  refine k7 _ (λw' hm=>h k hk1 w' (hm 0 _ rfl)) ?_;refine d8 (λh3=>?_) λh3=>?_
  ·rw[nM hn h3 hk1];exact⟨[],⟨rfl,rfl⟩,pk [0]⟩
  ·have h3:f k=0:=j9 h3;refine nwo ?_;exact⟨k+1,⟨hk1,λj hj=>(K8 j k).elim (hn j) (λg=>by rw[show j=k by omega];exact h3)⟩,by (try dsimp only);omega,v6.mk (λ_ _ h=>h) rfl rfl⟩
 ·have hk2:k=count:=om
  subst hk2;rw[V8.2 hn];exact⟨[],⟨rfl,rfl⟩,pk [0]⟩
def Me (v:Value):List Value:=[v]
theorem IF {K0 K1 K2 K3 K4:Nat} {p0 p1 p2 p3 p4:Value} {e0 e1 e2 e3 e4:Int} {a:Option Addr} {c:Nat} (w:World)
  (hL:Sl (B0 Me) 1 (Hp.whole w) a 5 c [.func (.func K0) #[] #[p0],.func (.func K1) #[] #[p1],.func (.func K2) #[] #[p2],.func (.func K3) #[] #[p3],.func (.func K4) #[] #[p4]])
  (h0 :∀w',(Hp.whole w).In w'->j6 Tryz.prog K0 #[p0] w' (v7 w' (iQ e0))) (h1 :∀w',(Hp.whole w).In w'->j6 Tryz.prog K1 #[p1] w' (v7 w' (iQ e1))) (h2 :∀w',(Hp.whole w).In w'->j6 Tryz.prog K2 #[p2] w' (v7 w' (iQ e2)))
  (h3 :∀w',(Hp.whole w).In w'->j6 Tryz.prog K3 #[p3] w' (v7 w' (iQ e3))) (h4 :∀w',(Hp.whole w).In w'->j6 Tryz.prog K4 #[p4] w' (v7 w' (iQ e4))) :
  j6 Tryz.prog 37 #[.slice a 5 c] w (v7 w (iQ (oE e0 (oE e1 (oE e2 (oE e3 e4)))))):=by
 refine enterZ (cx 18) [.slice a 5 c] [.tmp 2] Tryz.func37 ?_;refine u6.mk Nat (λk=>[(6,.v (.slice a 5 c)),(7,.v (iQ 5)),(8,.v (iQ k))]) (λ_=>[.hp (Hp.whole w)])
  (λk=>k<=5/\(0 < k->e0=0)/\(1 < k->e1=0)/\(2 < k->e2=0)/\(3 < k->e3=0)/\(4 < k->e4=0)) (λk=>5 - k) 0 ⟨dc,om,om,om,om,om⟩ (v6.mk (λ_ _ h=>h) rfl rfl) ?_
 have hl :∀j,j < 5->j < ([.func (.func K0) #[] #[p0],.func (.func K1) #[] #[p1],.func (.func K2) #[] #[p2],.func (.func K3) #[] #[p3],.func (.func K4) #[] #[p4]]:List Value).length:=λj h=>h;rintro k ⟨hk,g0,g1,g2,g3,g4⟩;match k,hk with
 | 0,_=>
  refine I1 cQ (e:=106) rfl hL 0 rfl (hl 0 dc) λb o cs hcs hR hcell=>?_;subst hR;refine lQ 0 (hcell 0 _ rfl) ?_;refine k7 _ (λw' hm=>h0 w' (hm 0 _ rfl)) ?_;refine d8 (λq1=>?_) λq1=>?_
  ·rw[gS q1];exact⟨[],⟨rfl,rfl⟩,pk [0]⟩
  ·have q1:e0=0:=j9 q1;refine nw dc dc ?_;exact⟨1,⟨dc,λ_=>q1,om,om,om,om⟩,by (try dsimp only);omega,v6.mk (λ_ _ h=>h) rfl rfl⟩
 | 1,_=>
  have z0:=g0 dc;subst z0;refine I1 cQ (e:=106) rfl hL 1 rfl (hl 1 dc) λb o cs hcs hR hcell=>?_;subst hR;refine lQ 0 (hcell 0 _ rfl) ?_;refine k7 _ (λw' hm=>h1 w' (hm 0 _ rfl)) ?_;refine d8 (λq1=>?_) λq1=>?_
  ·rw[P7,gS q1];exact⟨[],⟨rfl,rfl⟩,pk [0]⟩
  ·have q1:e1=0:=j9 q1;refine nw dc dc ?_;exact⟨2,⟨dc,λ_=>rfl,λ_=>q1,om,om,om⟩,by (try dsimp only);omega,v6.mk (λ_ _ h=>h) rfl rfl⟩
 | 2,_=>
  have z0:=g0 dc;subst z0;have z1:=g1 dc;subst z1;refine I1 cQ (e:=106) rfl hL 2 rfl (hl 2 dc) λb o cs hcs hR hcell=>?_;subst hR;refine lQ 0 (hcell 0 _ rfl) ?_;refine k7 _ (λw' hm=>h2 w' (hm 0 _ rfl)) ?_;refine d8 (λq1=>?_) λq1=>?_
  ·rw[P7,P7,gS q1];exact⟨[],⟨rfl,rfl⟩,pk [0]⟩
  ·have q1:e2=0:=j9 q1;refine nw dc dc ?_;exact⟨3,⟨dc,λ_=>rfl,λ_=>rfl,λ_=>q1,om,om⟩,by (try dsimp only);omega,v6.mk (λ_ _ h=>h) rfl rfl⟩
 | 3,_=>
  have z0:=g0 dc;subst z0;have z1:=g1 dc;subst z1;have z2:=g2 dc;subst z2;refine I1 cQ (e:=106) rfl hL 3 rfl (hl 3 dc) λb o cs hcs hR hcell=>?_;subst hR;refine lQ 0 (hcell 0 _ rfl) ?_;refine k7 _ (λw' hm=>h3 w' (hm 0 _ rfl)) ?_;refine d8 (λq1=>?_) λq1=>?_
  ·rw[P7,P7,P7,gS q1];exact⟨[],⟨rfl,rfl⟩,pk [0]⟩
  ·have q1:e3=0:=j9 q1;refine nw dc dc ?_;exact⟨4,⟨dc,λ_=>rfl,λ_=>rfl,λ_=>rfl,λ_=>q1,om⟩,by (try dsimp only);omega,v6.mk (λ_ _ h=>h) rfl rfl⟩
 | 4,_=>
  have z0:=g0 dc;subst z0;have z1:=g1 dc;subst z1;have z2:=g2 dc;subst z2;have z3:=g3 dc;subst z3;refine I1 cQ (e:=106) rfl hL 4 rfl (hl 4 dc) λb o cs hcs hR hcell=>?_;subst hR;refine lQ 0 (hcell 0 _ rfl) ?_;refine k7 _ (λw' hm=>h4 w' (hm 0 _ rfl)) ?_;refine d8 (λq1=>?_) λq1=>?_
  ·rw[P7,P7,P7,P7];exact⟨[],⟨rfl,rfl⟩,pk [0]⟩
  ·have q1:e4=0:=j9 q1;refine nw dc dc ?_;exact⟨5,⟨dc,λ_=>rfl,λ_=>rfl,λ_=>rfl,λ_=>rfl,λ_=>q1⟩,by (try dsimp only);omega,v6.mk (λ_ _ h=>h) rfl rfl⟩
 | 5,_=>
  rw[g0 dc,g1 dc,g2 dc,g3 dc,g4 dc];exact⟨[],⟨rfl,rfl⟩,pk [0]⟩
end Go.Proofs.YtpjhmeicbjkcdaaGreatDoor
namespace Go.Proofs.YtpjhmeicbjkcdaaGreatDoor
open Go Go.RowKit Go.Dw
structure AR (f:gG):Prop where
 con:f.1.length < 1000000
 len:f.2.length < 1000000
 trm :∀t∈f.2,t.2.length < 1000000
set_option maxHeartbeats 1000000 in
theorem mS {a:Option Addr} {n c:Nat} {f:gG} (dims:Nat) (w:World) (hT:Sl (B0 U0) 2 (Hp.whole w) a n c f.2) (hf:AR f) (_hd:dims < 1000000) :
  j6 Tryz.prog 52 #[.agg #[sv f.1,.slice a n c],iQ dims] w (v7 w (iQ (jD dims f))):=by
 obtain⟨fc,L⟩:=f;obtain⟨hf1,hf2,hf3⟩:=hf;have hlen:=hT.len;dsimp only at hT hf1 hf2 hf3 hlen ⊢;have hE:jD dims (fc,L)=if I7 fc≠0 then I7 fc else if 64 < L.length then 6 else mO (lJ dims L) L.length:=rfl
 refine enterZ (cx 62) [.agg #[sv fc,.slice a n c],iQ dims] [.tmp 4] Tryz.func52 ?_;intro b2;refine k7 _ (λw' hm=>cK fc hf1 w') ?_;refine d8 (λh1=>?_) λh1=>?_
 ·rw[hE,if_pos h1];exact⟨[],⟨rfl,rfl⟩,pk [0]⟩
 rw[if_neg h1] at hE;refine d8 (λh2=>?_) λh2=>?_
 ·rw[hE,if_pos om];exact⟨[],⟨rfl,rfl⟩,pk [0]⟩
 rw[if_neg om] at hE;refine u6.mk Nat (λk=>[(1,.v (iQ dims)),(2,.bx 1 0),(20,.v (.slice a n c)),(21,.v (iQ n)),(22,.v (iQ k))]) (λ_=>[.hp (Hp.whole w),.box b2 [sv fc,.slice a n c] 41])
  (λk=>k<=n/\∀j,j < k->lJ dims L j=0) (λk=>n - k) 0 ⟨f8 _,λj hj=>absurd hj (H5 _)⟩ (v6.mk (λ_ _ h=>h) rfl rfl) ?_
 rintro k ⟨hk,hz⟩;dsimp only at hk hz ⊢;refine d8 (λh3=>?_) λh3=>?_
 ·have hkn:k < L.length:=om
  obtain⟨t,ht⟩ :∃t,t=L[k]:=⟨_,rfl⟩
  have htm:t∈L:=by rw[ht];exact j0 hkn
  have hts:t.2.length < 1000000:=hf3 t htm;have hgd:L.getD k (0,[])=t:=by rw[i7,i6 hkn,ht];rfl
  have hK:lJ dims L k=if t.1 < 0\/(dims:Int)<=t.1 then 10 else if 0 < k/\t.1<=(L.getD (k - 1) (0,[])).1 then 8 else if I7 t.2≠0 then I7 t.2 else if t.2 = [48] then 19 else 0:=by
   unfold lJ;rw[hgd]
  have hout:lJ dims L k≠0->jD dims (fc,L)=lJ dims L k:=λg=>by rw[hE,nM hz g hkn]
  obtain⟨t1,t2⟩:=t;dsimp only at hts hK;refine I1 cQ (e:=80) rfl hT k rfl hkn λb9 o9 cs hcs hR hcell4=>?_;rw[<-ht] at hR;subst hR;refine T7 cQ (i:=0) rfl hcell4 rfl ?_;intro b7;refine d8 (λh5=>?_) λh5=>?_
  ·rw[hout (by rw[hK,if_pos (Or.inl h5)];decide),hK,if_pos (Or.inl h5)];exact⟨[],⟨rfl,rfl⟩,pk [0]⟩
  refine d8 (λh6=>?_) λh6=>?_
  ·rw[hout (by rw[hK,if_pos (Or.inr h6)];decide),hK,if_pos (Or.inr h6)];exact⟨[],⟨rfl,rfl⟩,pk [0]⟩
  rw[if_neg om] at hK;refine s6.cut Bool (λq=>[(1,.v (iQ dims)),(2,.bx 1 0),(7,.bx 2 0),(20,.v (.slice a n c)),(21,.v (iQ n)),(22,.v (iQ k)),(37,.v (.bool q))]) (λ_=>[.hp (Hp.whole w),.box b2 [sv fc,.slice a n c] 41,.box b7 [iQ t1,sv t2] 80]) (λq=>q=true↔(0 < k/\t1<=(L.getD (k - 1) (0,[])).1)) (s6.by_order cQ (.take 0 <| .take 1 <| .take 2 <| .take 3 <| .take 4 <| .take 5 <| .take 6 <| .take 7 <| .take 8 <| .take 9 <| .take 10 <| .take 11 <| .take 12 <| .take 13 <| .take 14 <| .done) kr ?_) ?_
  ·refine d8 (λh7=>?_) λh7=>?_
   ·have hk0:0 < k:=om
    have hk1:k - 1 < L.length:=om
    obtain⟨u,hu⟩ :∃u,u=L[k - 1]:=⟨_,rfl⟩
    have hgu:L.getD (k - 1) (0,[])=u:=by rw[i7,i6 hk1,hu];rfl
    refine nwo ?_;refine I1 cQ (e:=80) rfl hT (k - 1) om hk1 λb9 o9 cs hcs hR hcell8=>?_;rw[<-hu] at hR;obtain⟨u1,u2⟩:=u;subst hR;refine lQ 0 (hcell8 0 _ rfl) ?_;refine⟨decide (t1<=u1),?_,v6.mk (pj [0,1,2]) rfl rfl⟩;rw[hgu,decide_eq_true_eq];exact⟨λg=>⟨hk0,g⟩,λg=>g.2⟩
   ·refine⟨false,?_,v6.mk (pj [0,1,2]) rfl rfl⟩;exact⟨λg=>(H0 g).elim,λg=>absurd g.1 om⟩
  rintro q hq hsat;dsimp only;refine s8 (λh9=>?_) λh9=>?_
  ·have h9:=hq.1 h9;rw[hout (by rw[hK,if_pos h9];decide),hK,if_pos h9];exact⟨[],⟨rfl,rfl⟩,pk [0]⟩
  rw[if_neg (λg=>by rw[hq.2 g] at h9;cases h9)] at hK;refine k7 _ (λw' hm=>cK t2 hts w') ?_;refine d8 (λh10=>?_) λh10=>?_
  ·rw[if_pos h10] at hK;rw[hout (by rw[hK];exact h10),hK];exact⟨[],⟨rfl,rfl⟩,pk [0]⟩
  rw[if_neg h10] at hK;refine W8 (b:=[48]) ?_;refine d8 (λh11=>?_) λh11=>?_
  ·rw[if_pos h11] at hK;rw[hout (by rw[hK];decide),hK];exact⟨[],⟨rfl,rfl⟩,pk [0]⟩
  rw[if_neg h11] at hK;refine nwo ?_;exact⟨k+1,⟨om,λj hj=>(K8 j k).elim (hz j) (λg=>by rw[show j=k by omega];exact hK)⟩,by (try dsimp only);omega,v6.mk (pj [0,1]) rfl rfl⟩
 ·rw[hE,V8.2 (λj hj=>hz j om)];exact⟨[],⟨rfl,rfl⟩,pk [0]⟩
end Go.Proofs.YtpjhmeicbjkcdaaGreatDoor
namespace Go.Proofs.YtpjhmeicbjkcdaaGreatDoor
open Go Go.RowKit Go.Dw
theorem yT {n op:Int} {f:gG} {fac:e8} {k:Nat} (h:op < 0\/5 < op):bH n op f fac k=12:=if_pos h
theorem LB {n op:Int} {f:gG} {fac:e8} {k:Nat} (h : ¬ (op < 0\/5 < op)) (h0:op=0):bH n op f fac k=if 0 < k\/fac≠[] then 3 else jD n f:=by
 unfold bH;rw[if_neg h,if_pos h0]
theorem LA {n op:Int} {f:gG} {fac:e8} {k:Nat} (h : ¬ (op < 0\/5 < op)) (h0 : ¬ op=0):bH n op f fac k=if (f.1≠[]\/0 < f.2.length)\/(fac≠[]/\op≠2) then 3
 else if k=0\/((op=2\/op=5)/\1 < k) then 13 else if op=2 then I7 fac else 0:=by
 unfold bH;rw[if_neg h,if_neg h0]
theorem Fg {P:Prop} (h:P:=by
 first
  | exact (yT om).symm
  | (rw[LB om om];first | (rw[if_pos (Or.inl om)];done) | (rw[if_pos (Or.inr (by assumption))];done))
  | (rw[LA om om];first
    | (rw[if_pos (Or.inl (Or.inl (by assumption)))];done)
    | (rw[if_pos (Or.inl (Or.inr om))];done)
    | (rw[if_pos (Or.inr ⟨by assumption,by assumption⟩)];done)
    | (rw[if_neg (by rintro ((g | g) | ⟨g,g2⟩) <;> first | omega | contradiction)];first
      | (rw[if_pos om];done)
      | (rw[if_neg om,if_neg om];done)))):P:=h
set_option maxRecDepth 20000 in
set_option maxHeartbeats 4000000 in
theorem AI {op : Int} {a a1 : Option Addr} {n c n1 c1 : Nat} {f : gG} {fac : e8} (dims : Nat) (w : World) (hT : Sl (B0 U0) 2 (Hp.whole w) a n c f.2) (hf : AR f) (hs : fac.length < 1000000) (hd : dims < 1000000) :
    j6 Tryz.prog 140 #[.agg #[iQ op, sv f.1, .slice a n c, sv fac, .slice a1 n1 c1], iQ dims] w (v7 w (iQ (bH dims op f fac n1))) := by
  have hlen := hT.len
  refine enterZ (cx 92) [.agg #[iQ op, sv f.1, .slice a n c, sv fac, .slice a1 n1 c1], iQ dims] [.tmp 4] Tryz.func140 ?_
  intro b2
  repeat' first
    | (exfalso;omega)
    | refine W8 (b := []) ?_
    | refine cG (b := []) ?_
    | refine d8 (λ_ => ?_) (λ_ => ?_)
    | (refine s8 (λh => ?_) (λh => ?_) <;> simp only [Z7, iM, decide_eq_false_iff_not, decide_eq_true_eq] at h)
    | (refine ⟨[], ⟨congrArg (Value.int .i64) ?_, rfl⟩, λw' h => h.pick [0] rfl rfl⟩;exact Fg)
  all_goals first
    | (refine k7 _ (λw' hm => mS dims w' (hT.mono (j7 _) (hm 0 _ rfl).whole) hf hd) ?_
       refine ⟨[], ⟨congrArg (Value.int .i64) ?_, rfl⟩, λw' h => h.pick [0] rfl rfl⟩
       rw [LB om om, if_neg (by rintro (g | g) <;> first | omega | contradiction)])
    | (refine k7 _ (λw' hm => cK fac hs w') ?_
       refine ⟨[], ⟨congrArg (Value.int .i64) ?_, rfl⟩, λw' h => h.pick [0] rfl rfl⟩
       rw [LA om om, if_neg (by rintro ((g | g) | ⟨g, g2⟩) <;> first | omega | contradiction), if_neg om, if_pos om])
end Go.Proofs.YtpjhmeicbjkcdaaGreatDoor
namespace Go.Dw
open Go Go.RowKit
theorem Au {X : R5} (hX : X.Good) {f : Nat} {fn : Func} {c : Code} {args : List Value} {w : World} {h : Hp} {s0 : List Ch} (h0 : Ok w s0 w) {R : Value -> Hp -> List Ch -> Prop} (rs : List ResultVar)
    (hf : X.P.funcs[f]? = some fn) (hb : fn.body = some c) (hn : (fn.name == "runtime.NumGoroutine") = false) (hr : fn.results = rs.toArray) (hm : fn.ntmps = X.n) (hl : R0 args.length X.n = true)
    (hwp : WP X c (λe t s => match e with
      | .exit _ => False
      | _ => oY X s t rs λv => ∃ h' cs, R v h' cs /\ ∀ w', Ok w s w' -> Ok w (.hp ((Hp.whole w).minus h) :: .hp h' :: cs) w') (pG 0 args) s0) :
    j6 X.P f args.toArray w (O6 w h R) := by
  have hl := E0 hl
  refine ⟨λw => ?_, calls_of_wp hf hb ?_⟩
  · have hn' : ¬ fn.name = "runtime.NumGoroutine" := by simpa using hn
    simp [callFunc, hf, hn', hb]
  · refine wp_mono (tF hX c _ _ _ _ w hwp ⟨by simp [hm];omega, rfl, λi tv hi => ?_⟩ h0) λe a w' hq => ?_
    · obtain ⟨v, rfl, _, h2⟩ := fA args 0 i tv hi
      refine ⟨v, rfl, ?_⟩
      have : i < args.length := (q9.1 (by simpa using h2)).1
      rw [Array.getElem?_append_left (by simpa using this)]
      simpa using h2
    · have fin : ∀ t s, Fr X.n t s a -> Ok w s w' -> (oY X s t rs λv => ∃ h' cs, R v h' cs /\ ∀ w', Ok w s w' -> Ok w (.hp ((Hp.whole w).minus h) :: .hp h' :: cs) w') ->
          a.defers = [] /\ ∃ v, (results fn a.tmps).run X.P w' = .ok v w' /\ O6 w h R (.returned v) w' := by
        intro t s hf' hok hk
        obtain ⟨v, h1, h', cs, h2, h3⟩ := nE hX hf'.w hok.mem hk hr
        exact ⟨hf'.2.1, v, h1, v, h', cs, rfl, h3 w' hok, h2⟩
      cases e with
      | normal => obtain ⟨t, s, h1, h2, h3⟩ := hq;exact fin t s h1 h2 h3
      | ret => obtain ⟨t, s, h1, h2, h3⟩ := hq;exact fin t s h1 h2 h3
      | exit i => obtain ⟨t, s, h1, h2, h3⟩ := hq;exact h3.elim
      | goto l => exact hq.elim
      | panic c => exact hq.elim
      | outgrown => exact hq.elim
theorem enterMSZ (X : R5) {f : Nat} {fn : Func} {c : Code} (args : List Value) {w : World} {h : Hp} {s0 : List Ch} (h0 : Ok w s0 w) {R : Value -> Hp -> List Ch -> Prop} (rs : List ResultVar) (hf : X.P.funcs[f]? = some fn) (hwp : WP X c (λe t s => match e with
      | .exit _ => False
      | _ => oY X s t rs λv => ∃ h' cs, R v h' cs /\ ∀ w', Ok w s w' -> Ok w (.hp ((Hp.whole w).minus h) :: .hp h' :: cs) w') (pG 0 args) s0) (hX : X.Good := by exact cxg _) (hb : fn.body = some c := by exact rfl) (hn : (fn.name == "runtime.NumGoroutine") = false := by exact rfl) (hr : fn.results = rs.toArray := by exact rfl) (hm : fn.ntmps = X.n := by exact rfl) (hl : R0 args.length X.n = true := by exact rfl) : j6 X.P f args.toArray w (O6 w h R) := Au hX h0 rs hf hb hn hr hm hl hwp
theorem Ok.sub {w0 w:World} {s:List Ch} {i:Nat} {c d:Ch} (hi:m8 s i=some c) (hd:d.h.le c.h) (hok:Ok w0 s w):Ok w0 (x9 s i d) w:=by
 refine⟨hok.os,hok.tape,hok.output,hok.size,hok.drawn,λk x hx=>?_,λj k x y hjk h1 h2=>?_⟩
 ·rw[W0 hi] at hx;split at hx
  ·cases hx;exact λa o e=>hok.mem i c hi a o (hd a o e)
  ·exact hok.mem k x hx
 ·rw[W0 hi] at h1 h2;have hl :∀{h k:Hp},c.h.dj h->d.h.dj h:=λg a=>by
   rcases g a with g | g
   ·refine .inl ?_;cases e:d.h a with
    | none=>rfl
    | some o=>rw[hd a o e] at g;cases g
   ·exact .inr g
  split at h1 <;> split at h2
  ·omega
  ·cases h1;exact hl (k:=Hp.emp) (hok.disj _ _ _ _ om hi h2)
  ·cases h2;exact (hl (k:=Hp.emp) ((hok.disj _ _ _ _ om h1 hi).symm)).symm
  ·exact hok.disj _ _ _ _ hjk h1 h2
theorem jU {P:Program} {s:List Ch} {f:Nat} {args:List Value} {q:TV->List Ch->Prop} {i:Nat} {b T:Nat} {cs:List Value} (hi:m8 s i=some (.box b cs T)) {R:Value->List Value->Prop}
  (hc :∀w0 w,Ok w0 s w->j6 P f args.toArray w (O6 w (Ch.box b cs T).h λv h' cs2=>cs2 = []/\∃cs',(Ch.box b cs' T).h.le h'/\R v cs'))
  (k :∀v cs',R v cs'->q (.v v) (x9 s i (.box b cs' T))):Q8 P s f args q:=by
 refine⟨λw0 w hok=>⟨(hc w0 w hok).1,(hc w0 w hok).2.mono λe w' he=>?_⟩⟩;obtain⟨v,h',cs2,rfl,h1,rfl,cs',hle,hR⟩:=he;have hok1:Ok w0 (x9 s i (.hp (Ch.box b cs T).h)) w:=Ok.same (d:=.hp (Ch.box b cs T).h) hi rfl hok;have hi1:m8 (x9 s i (.hp (Ch.box b cs T).h)) i=some (.hp (Ch.box b cs T).h):=by rw[W0 hi,if_pos rfl]
 have hok3:=hok1.callM hi1 h1;rw[p8] at hok3;have hi3:m8 (x9 (x9 s i (.hp (Ch.box b cs T).h)) i (.hp h')) i=some (.hp h'):=by rw[W0 hi1,if_pos rfl]
 have hok4:=Ok.sub hi3 (d:=.box b cs' T) hle hok3;have e:x9 (x9 (x9 s i (.hp (Ch.box b cs T).h)) i (.hp h')) i (.box b cs' T)=x9 s i (.box b cs' T):=by simp only[S9,List.set_set]
 rw[e] at hok4;exact⟨v,_,rfl,hok4,J6.set hi (λb' cs0 T' e=>by cases e;exact⟨_,_,rfl⟩),k v cs' hR⟩
end Go.Dw
namespace Go.Proofs.YtpjhmeicbjkcdaaGreatDoor
open Go Go.RowKit Go.Dw
inductive AS:Ex->Prop
 | mk {op:Int} {f:gG} {fac:e8} {args:List Ex} (hf:AR f) (hs:fac.length < 1000000) (hn:args.length < 1000000) (ha :∀y∈args,AS y):AS (.mk op f fac args)
theorem jG (g:Nat->Ex->Int×Nat) (k:Nat):Z2 g k []=(0,k):=by unfold Z2;rfl
theorem jH (g:Nat->Ex->Int×Nat) (k:Nat) (x:Ex) (r:List Ex):Z2 g k (x::r)=if (g k x).1≠0 then g k x else Z2 g (g k x).2 r:=by
 conv=>lhs;unfold Z2
theorem LY (n:Int) (k:Nat) (x:Ex):M9 n 0 k x=(15,k):=by unfold M9;rfl
theorem zS (n:Int) (d k:Nat) (op:Int) (f:gG) (fac:e8) (args:List Ex):M9 n (d+1) k (.mk op f fac args)=if 64<=k then (6,k) else if bH n op f fac args.length≠0 then (bH n op f fac args.length,k+1) else Z2 (M9 n d) (k+1) args:=by
 conv=>lhs;unfold M9
abbrev Jn (bv bd bf:Nat):Value:=.func (.func 139) #[] #[pQ bv,pQ bd,pQ bf]
structure Jf (bv bd bf:Nat) (dims:Nat) (k:Hp):Prop where
 cd:k.cell? ⟨bd,0,none⟩=some (iQ dims)
 cf:k.cell? ⟨bf,0,none⟩=some (Jn bv bd bf)
theorem Jf.mono {bv bd bf dims:Nat} {h k:Hp} (r:Jf bv bd bf dims h) (l:h.le k):Jf bv bd bf dims k:=⟨l.cell r.cd,l.cell r.cf⟩
set_option maxRecDepth 10000 in
set_option maxHeartbeats 1000000 in
theorem JQ {bv bd bf dims:Nat} (hd:dims < 1000000) :∀(d e k lv:Nat) (x:Ex) (cs:List Value) (w:World),lv+d=9->AS x->(Ch.box bv [iQ k] 3).h.In w->Jf bv bd bf dims ((Hp.whole w).minus (Ch.box bv [iQ k] 3).h)->P5 e ((Hp.whole w).minus (Ch.box bv [iQ k] 3).h) x cs->
  j6 Tryz.prog 139 #[.agg cs.toArray,iQ lv,pQ bv,pQ bd,pQ bf] w
   (O6 w (Ch.box bv [iQ k] 3).h λv h' cs2=>cs2 = []/\∃cs',(Ch.box bv cs' 3).h.le h'/\v=iQ (M9 dims d k x).1/\cs' = [iQ (M9 dims d k x).2]):=by
 intro d;induction d with
 | zero=>
  intro e k lv x cs w hlv hx hin hR he;match e,he with
  | e+1,he=>
  obtain⟨op,f,fac,args⟩:=x;obtain⟨a,n,c,a1,n1,c1,rfl,hf,ha⟩:=he;rw[LY];obtain⟨c0,hc0⟩ :∃c0,c0=(Hp.whole w).minus (Ch.box bv [iQ k] 3).h:=⟨_,rfl⟩
  have ok0:Ok w [.hp c0,.box bv [iQ k] 3] w:=by rw[hc0];exact Ok.same (s:=[.hp ((Hp.whole w).minus (Ch.box bv [iQ k] 3).h),.hp (Ch.box bv [iQ k] 3).h]) (i:=1) (c:=.hp (Ch.box bv [iQ k] 3).h) (d:=.box bv [iQ k] 3) rfl rfl (Ok.start2 w hin)
  refine enterMSZ (cx 42) [.agg #[iQ op,sv f.1,.slice a n c,sv fac,.slice a1 n1 c1],iQ lv,pQ bv,pQ bd,pQ bf] ok0 [.tmp 7] Tryz.func139 ?_;rw[<-hc0] at hR hf ha ⊢;intro b5;refine d8 (λh1=>?_) (λh1=>by omega);exact⟨(Ch.box bv [iQ k] 3).h,[],⟨rfl,_,λ_ _ h=>h,rfl,rfl⟩,λw' h=>(h.pick [0,1] rfl rfl).boxHp⟩
 | succ d ih=>
  intro e k lv x cs w hlv hx hin hR he;match e,he with
  | e+1,he=>
  obtain⟨op,f,fac,args⟩:=x;obtain⟨a,n,c,a1,n1,c1,rfl,hf,ha⟩:=he;cases hx with
  | mk hxf hxs hxn hxa=>
  have hla:=ha.len;rw[zS,<-hla];obtain⟨c0,hc0⟩ :∃c0,c0=(Hp.whole w).minus (Ch.box bv [iQ k] 3).h:=⟨_,rfl⟩
  have ok0:Ok w [.hp c0,.box bv [iQ k] 3] w:=by rw[hc0];exact Ok.same (s:=[.hp ((Hp.whole w).minus (Ch.box bv [iQ k] 3).h),.hp (Ch.box bv [iQ k] 3).h]) (i:=1) (c:=.hp (Ch.box bv [iQ k] 3).h) (d:=.box bv [iQ k] 3) rfl rfl (Ok.start2 w hin)
  refine enterMSZ (cx 42) [.agg #[iQ op,sv f.1,.slice a n c,sv fac,.slice a1 n1 c1],iQ lv,pQ bv,pQ bd,pQ bf] ok0 [.tmp 7] Tryz.func139 ?_;rw[<-hc0] at hR hf ha ⊢;intro b5;refine d8 (λh1=>by omega) λh1=>?_;refine lR 1 0 ?_;refine d8 (λh2=>?_) λh2=>?_
  ·rw[if_pos om];exact⟨(Ch.box bv [iQ k] 3).h,[],⟨rfl,_,λ_ _ h=>h,rfl,rfl⟩,λw' h=>(h.pick [0,1] rfl rfl).boxHp⟩
  rw[if_neg om];refine lR 1 0 ?_;refine nwo ?_;refine fI cQ (i:=1) (j:=0) rfl rfl rfl sQ rfl rfl ?_;refine lQ 0 hR.cd ?_;refine k7 _ (λw' hm=>AI dims w' (hf.mono (j7 _) (hm 0 _ rfl).whole) hxf hxs hd) ?_;refine d8 (λh3=>?_) λh3=>?_
  ·rw[if_pos h3];exact⟨(Ch.box bv [iQ ((k+1:Nat):Int)] 3).h,[],⟨rfl,_,λ_ _ h=>h,rfl,rfl⟩,λw' h=>(h.pick [0,1] rfl rfl).boxHp⟩
  rw[if_neg h3];refine u6.mk (Nat×Nat) (λg=>[(1,.v (iQ lv)),(2,.v (pQ bv)),(3,.v (pQ bd)),(4,.v (pQ bf)),(27,.v (.slice a1 n1 c1)),(28,.v (iQ n1)),(29,.v (iQ g.1))]) (λg=>[.hp c0,.box bv [iQ g.2] 3])
   (λg=>g.1<=n1/\Z2 (M9 dims d) (k+1) args=Z2 (M9 dims d) g.2 (args.drop g.1)) (λg=>n1 - g.1) (0,k+1) ⟨f8 _,rfl⟩ (v6.mk (pj [0,1]) rfl rfl) ?_
  rintro⟨i,m⟩ ⟨hi,hE⟩;dsimp only at hi hE ⊢;rw[hE];refine d8 (λh4=>?_) λh4=>?_
  ·have hil:i < args.length:=om
   obtain⟨y,hy⟩ :∃y,y=args[i]:=⟨_,rfl⟩
   have hym:y∈args:=by rw[hy];exact j0 hil
   rw[r5 hil,<-hy,jH] at hE ⊢;refine I1 cQ (e:=44) rfl ha i rfl hil λb9 o9 cs hcs hR9 hcell=>?_;rw[<-hy] at hR9;match e,hR9 with
   | e+1,hR9=>
   obtain⟨op',f',fac',args'⟩:=y;have hR9':=hR9;obtain⟨a',n',c',a1',n1',c1',rfl,hf',ha'⟩:=hR9;refine T7 cQ (i:=0) rfl hcell rfl ?_;intro b10;refine lQ 0 hR.cf ?_;refine nwo ?_;refine jU (i:=1) rfl (λw0 w1 hok=>ih (e+1) m (lv+1) _ _ w1 om (hxa _ hym) (hok.mem 1 _ rfl) (hR.mono (Hp.le_minus (hok.mem 0 _ rfl).whole (hok.disj 0 1 _ _ dc rfl rfl))) (q7 _ _ _ _ _ (Hp.le_minus (hok.mem 0 _ rfl).whole (hok.disj 0 1 _ _ dc rfl rfl)) hR9')) ?_;rintro _ _ ⟨rfl,rfl⟩;refine d8 (λh6=>?_) λh6=>?_
   ·rw[if_pos h6];exact⟨(Ch.box bv [iQ _] 3).h,[],⟨rfl,_,λ_ _ h=>h,rfl,rfl⟩,λw' h=>(h.pick [0,1] rfl rfl).boxHp⟩
   ·refine nwo ?_;exact⟨(i+1,_),⟨by dsimp only;omega,if_neg h6⟩,by dsimp only;omega,v6.mk (pj [0,1]) rfl rfl⟩
  ·rw[H4 om,jG];exact⟨(Ch.box bv [iQ m] 3).h,[],⟨rfl,_,λ_ _ h=>h,rfl,rfl⟩,λw' h=>(h.pick [0,1] rfl rfl).boxHp⟩
theorem bP (b:Nat) (v:Value) (T:Nat):(Ch.box b [v] T).h.cell? ⟨b,0,none⟩=some v:=by simp[Hp.cell?,Ch.h,Hp.one]
set_option maxRecDepth 10000 in
theorem mT {dims e:Nat} {x:Ex} {cs:List Value} (w:World) (hd:dims < 1000000) (hx:AS x) (he:P5 e (Hp.whole w) x cs) :
  j6 Tryz.prog 67 #[.agg cs.toArray,iQ dims] w (v7 w (iQ (pL dims x))):=by
 match e,he with
 | e+1,he=>
 obtain⟨op,f,fac,args⟩:=x;have he':=he;obtain⟨a,n,c,a1,n1,c1,rfl,hf,ha⟩:=he;refine enterZ (cx 11) [.agg #[iQ op,sv f.1,.slice a n c,sv fac,.slice a1 n1 c1],iQ dims] [.tmp 4] Tryz.func67 ?_;intro b2 b3 b5 b6;refine jU (i:=3) rfl (λw0 w1 hok=>JQ (bf:=b6) hd 8 (e+1) 0 1 _ _ w1 dc hx (hok.mem 3 _ rfl)
  ⟨(Hp.le_minus (hok.mem 2 _ rfl).whole (hok.disj 2 3 _ _ dc rfl rfl)).cell (bP b3 _ 3),(Hp.le_minus (hok.mem 4 _ rfl).whole (hok.disj 4 3 _ _ dc rfl rfl)).cell (bP b6 _ _)⟩
  (q7 _ _ _ _ _ (Hp.le_minus (hok.mem 0 _ rfl).whole (hok.disj 0 3 _ _ dc rfl rfl)) he')) ?_
 rintro _ _ ⟨rfl,rfl⟩;exact⟨[],⟨rfl,rfl⟩,pk [0]⟩
end Go.Proofs.YtpjhmeicbjkcdaaGreatDoor
namespace Go.Dw
open Go Go.RowKit
section
variable {X:R5} {s:List Ch}
theorem XR (hX:X.Good) {T n e:Nat} {ti:TI} (hT:I2 X.tt T=some ti) (hk:ti.k=.ar n e):X.P.underlying T=some (.array n e):=by
 have:=(Good.und hX hT).2;rw[hk] at this;exact this
theorem Je (hX:X.Good) {T n e:Nat} {ti te:TI} (hT:I2 X.tt T=some ti) (hk:ti.k=.ar n e) (he:I2 X.tt e=some te) {b off:Nat} {q:TV->Prop}
  (hq:q (.v (.slice (some ⟨b,off,none⟩) n n))):B7 X.P s (Instr.sliceAt T (.pointer (some ⟨b,off,none⟩)) none none none) q:=by
 have hu:=XR hX hT hk;refine⟨_,λw _=>?_,hq⟩;have h1:=(Good.und hX he).size w;simp[Instr.sliceAt,run_underlying hu,Instr.sliceBounds,Instr.sureAddr,h1];intro _;simp[Addr.add]
theorem Lh (hX:X.Good) {T n e:Nat} {ti te:TI} (hT:I2 X.tt T=some ti) (hk:ti.k=.ar n e) (he:I2 X.tt e=some te) (ha:te.agg=false) {cs:List Value} {k:IntKind} {j:Nat} {x:Int} (hx:x=j) (hj:j < n) {v:Value} (hc:cs[j*te.size]?=some v) {q:TV->Prop}
  (hq:q (.v v)):B7 X.P s (Instr.index T (.agg cs.toArray) (.int k x)) q:=by
 subst hx;have hu:=XR hX hT hk;refine⟨_,λw _=>?_,hq⟩;have h1:=(Good.und hX he).size w;have h2:=(Good.und hX he).agg w;rw[ha] at h2;simp[Instr.index,asIntOf,run_underlying hu,h1,h2,part,hj,hc]
theorem Bx {α:Type} {f:α->List Value} {sz b T:Nat} {cs:List Value} {w:World} (hin:(Ch.box b cs T).h.In w) {off:Nat} {L:List α} (hs :∀x,(f x).length=sz) (hc :∀i (hi:i < L.length) j v,(f L[i])[j]?=some v->cs[off+i*sz+j]?=some v) :
  Sl (B0 f) sz (Hp.whole w) (some ⟨b,off,none⟩) L.length L.length L:=by
 refine⟨rfl,k8 _,λi hi=>⟨b,off,f L[i],rfl,hs _,rfl,λj v hj=>?_⟩⟩;refine (Hp.In.whole hin).cell ?_;have:=hc i hi j v hj;simp[Hp.cell?,Ch.h,Hp.one,this]
end
end Go.Dw
namespace Go.Proofs.YtpjhmeicbjkcdaaGreatDoor
open Go Go.RowKit Go.Dw
def Gf (x:Int):List Value:=[iQ x]
def Du (p:W3) (cs:List Value):Prop:=∃a n c,cs = [sv p.1,iQ p.2.1,.slice a n c]
def ZG (d:S1) (cs:List Value):Prop:=cs=O1 d
theorem pI {a:Option Addr} {n c:Nat} {L:List Int} (g:Nat) (p:Int->Bool) (w:World) (hL:Sl (B0 Gf) 1 (Hp.whole w) a n c L) (hn:n < 1000000000)
  (hp :∀w',(Hp.whole w).In w'->∀x∈L,j6 Tryz.prog g #[iQ x] w' (v7 w' (.bool (p x)))) :
  j6 Tryz.prog 179 #[.slice a n c,.func (.func g) #[] #[]] w (v7 w (iQ (Z8 p L))):=by
 have hlen:=hL.len;refine enterZ (cx 19) [.slice a n c,.func (.func g) #[] #[]] [.tmp 4] Tryz.func179 ?_;refine u6.mk Nat (λk=>[(0,.v (.slice a n c)),(1,.v (.func (.func g) #[] #[])),(7,.v (iQ n)),(8,.v (iQ k))]) (λ_=>[.hp (Hp.whole w)])
  (λk=>k<=n/\∀y∈L.take k,p y=false) (λk=>n - k) 0 ⟨f8 _,sQ⟩ (v6.mk (λ_ _ h=>h) rfl rfl) ?_
 rintro k ⟨hk,ho⟩;refine d8 (λhlt=>?_) λhge=>?_
 ·have hlt':k < L.length:=om
  refine I1 cQ (e:=3) rfl hL k rfl hlt' λb o cs hcs hR hcell=>?_;subst hR;refine lQ 0 (hcell 0 _ rfl) ?_;refine k7 (.bool (p L[k])) (λw' hm=>hp w' (hm 0 _ rfl) L[k] (j0 hlt')) ?_;refine s8 (λhb=>?_) λhb=>?_
  ·exact⟨[],⟨by rw[nG p L k hlt' ho hb],rfl⟩,pk [0]⟩
  ·refine nwo ?_;exact⟨k+1,⟨om,aC hlt' ho hb⟩,om,v6.mk (λ_ _ h=>h) rfl rfl⟩
 ·exact⟨[],⟨by rw[jR p L k om ho],rfl⟩,pk [0]⟩
theorem cC {a:Option Addr} {n c:Nat} {L:List Int} (g:Nat) (p:Int->Bool) (w:World) (hL:Sl (B0 Gf) 1 (Hp.whole w) a n c L) (hn:n < 1000000000)
  (hp :∀w',(Hp.whole w).In w'->∀x∈L,j6 Tryz.prog g #[iQ x] w' (v7 w' (.bool (p x)))) :
  j6 Tryz.prog 111 #[.slice a n c,.func (.func g) #[] #[]] w (v7 w (.bool (L.any p))):=by
 refine enterZ (cx 9) [.slice a n c,.func (.func g) #[] #[]] [.tmp 4] Tryz.func111 ?_;refine call (λw' hm=>pI g p w' (hL.mono (j7 _) (hm 0 _ rfl)) hn (λw2 h2=>hp w2 (h2.le (hm 0 _ rfl)))) ?_;rintro _ _ ⟨rfl,rfl⟩;exact⟨[],⟨by rw[<-jA],rfl⟩,λw' h=>h⟩
theorem pH {a:Option Addr} {n c:Nat} {L:List W3} (g:Nat) (cv:Value) (p:W3->Bool) (w:World) (hL:Sl bN 3 (Hp.whole w) a n c L) (hn:n < 1000000000)
  (hp :∀w',(Hp.whole w).In w'->∀x∈L,∀cs,cs.length=3->Du x cs->j6 Tryz.prog g #[.agg cs.toArray,cv] w' (v7 w' (.bool (p x)))) :
  j6 Tryz.prog 180 #[.slice a n c,.func (.func g) #[] #[cv]] w (v7 w (iQ (Z8 p L))):=by
 have hlen:=hL.len;refine enterZ (cx 19) [.slice a n c,.func (.func g) #[] #[cv]] [.tmp 4] Tryz.func180 ?_;refine u6.mk Nat (λk=>[(0,.v (.slice a n c)),(1,.v (.func (.func g) #[] #[cv])),(7,.v (iQ n)),(8,.v (iQ k))]) (λ_=>[.hp (Hp.whole w)])
  (λk=>k<=n/\∀y∈L.take k,p y=false) (λk=>n - k) 0 ⟨f8 _,sQ⟩ (v6.mk (λ_ _ h=>h) rfl rfl) ?_
 rintro k ⟨hk,ho⟩;refine d8 (λhlt=>?_) λhge=>?_
 ·have hlt':k < L.length:=om
  refine I1 cQ (e:=83) rfl hL k rfl hlt' λb o cs hcs hR hcell=>?_;obtain⟨a3,n3,c3,rfl,hs3⟩:=hR;refine T7 cQ (i:=0) rfl hcell rfl ?_;refine k7 (.bool (p L[k])) (λw' hm=>hp w' (hm 0 _ rfl) L[k] (j0 hlt') _ rfl ⟨a3,n3,c3,rfl⟩) ?_;refine s8 (λhb=>?_) λhb=>?_
  ·exact⟨[],⟨by rw[nG p L k hlt' ho hb],rfl⟩,pk [0]⟩
  ·refine nwo ?_;exact⟨k+1,⟨om,aC hlt' ho hb⟩,om,v6.mk (λ_ _ h=>h) rfl rfl⟩
 ·exact⟨[],⟨by rw[jR p L k om ho],rfl⟩,pk [0]⟩
theorem cB {a:Option Addr} {n c:Nat} {L:List W3} (g:Nat) (cv:Value) (p:W3->Bool) (w:World) (hL:Sl bN 3 (Hp.whole w) a n c L) (hn:n < 1000000000)
  (hp :∀w',(Hp.whole w).In w'->∀x∈L,∀cs,cs.length=3->Du x cs->j6 Tryz.prog g #[.agg cs.toArray,cv] w' (v7 w' (.bool (p x)))) :
  j6 Tryz.prog 115 #[.slice a n c,.func (.func g) #[] #[cv]] w (v7 w (.bool (L.any p))):=by
 refine enterZ (cx 9) [.slice a n c,.func (.func g) #[] #[cv]] [.tmp 4] Tryz.func115 ?_;refine call (λw' hm=>pH g cv p w' (hL.mono I9 (hm 0 _ rfl)) hn (λw2 h2=>hp w2 (h2.le (hm 0 _ rfl)))) ?_;rintro _ _ ⟨rfl,rfl⟩;exact⟨[],⟨by rw[<-jA],rfl⟩,λw' h=>h⟩
theorem pJ {a:Option Addr} {n c:Nat} {L:List S1} (g:Nat) (p:S1->Bool) (w:World) (hL:Sl (B0 O1) 4 (Hp.whole w) a n c L) (hn:n < 1000000000)
  (hp :∀w',(Hp.whole w).In w'->∀x∈L,∀cs,cs.length=4->ZG x cs->j6 Tryz.prog g #[.agg cs.toArray] w' (v7 w' (.bool (p x)))) :
  j6 Tryz.prog 191 #[.slice a n c,.func (.func g) #[] #[]] w (v7 w (iQ (Z8 p L))):=by
 have hlen:=hL.len;refine enterZ (cx 19) [.slice a n c,.func (.func g) #[] #[]] [.tmp 4] Tryz.func191 ?_;refine u6.mk Nat (λk=>[(0,.v (.slice a n c)),(1,.v (.func (.func g) #[] #[])),(7,.v (iQ n)),(8,.v (iQ k))]) (λ_=>[.hp (Hp.whole w)])
  (λk=>k<=n/\∀y∈L.take k,p y=false) (λk=>n - k) 0 ⟨f8 _,sQ⟩ (v6.mk (λ_ _ h=>h) rfl rfl) ?_
 rintro k ⟨hk,ho⟩;refine d8 (λhlt=>?_) λhge=>?_
 ·have hlt':k < L.length:=om
  refine I1 cQ (e:=48) rfl hL k rfl hlt' λb o cs hcs hR hcell=>?_;subst hR;refine T7 cQ (i:=0) rfl hcell rfl ?_;refine k7 (.bool (p L[k])) (λw' hm=>hp w' (hm 0 _ rfl) L[k] (j0 hlt') _ rfl rfl) ?_;refine s8 (λhb=>?_) λhb=>?_
  ·exact⟨[],⟨by rw[nG p L k hlt' ho hb],rfl⟩,pk [0]⟩
  ·refine nwo ?_;exact⟨k+1,⟨om,aC hlt' ho hb⟩,om,v6.mk (λ_ _ h=>h) rfl rfl⟩
 ·exact⟨[],⟨by rw[jR p L k om ho],rfl⟩,pk [0]⟩
theorem kR {a:Option Addr} {n c:Nat} {L:List S1} (g:Nat) (p:S1->Bool) (w:World) (hL:Sl (B0 O1) 4 (Hp.whole w) a n c L) (hn:n < 1000000000)
  (hp :∀w',(Hp.whole w).In w'->∀x∈L,∀cs,cs.length=4->ZG x cs->j6 Tryz.prog g #[.agg cs.toArray] w' (v7 w' (.bool (p x)))) :
  j6 Tryz.prog 141 #[.slice a n c,.func (.func g) #[] #[]] w (v7 w (.bool (L.any p))):=by
 refine enterZ (cx 9) [.slice a n c,.func (.func g) #[] #[]] [.tmp 4] Tryz.func141 ?_;refine call (λw' hm=>pJ g p w' (hL.mono (j7 _) (hm 0 _ rfl)) hn (λw2 h2=>hp w2 (h2.le (hm 0 _ rfl)))) ?_;rintro _ _ ⟨rfl,rfl⟩;exact⟨[],⟨by rw[<-jA],rfl⟩,λw' h=>h⟩
theorem fV {a:Option Addr} {n c:Nat} {L:List S1} (g:Nat) (cv:Value) (p:S1->Bool) (w:World) (hL:Sl (B0 O1) 4 (Hp.whole w) a n c L) (hn:n < 1000000000)
  (hp :∀w',(Hp.whole w).In w'->∀x∈L,∀cs,cs.length=4->ZG x cs->j6 Tryz.prog g #[.agg cs.toArray,cv] w' (v7 w' (.bool (p x)))) :
  j6 Tryz.prog 191 #[.slice a n c,.func (.func g) #[] #[cv]] w (v7 w (iQ (Z8 p L))):=by
 have hlen:=hL.len;refine enterZ (cx 19) [.slice a n c,.func (.func g) #[] #[cv]] [.tmp 4] Tryz.func191 ?_;refine u6.mk Nat (λk=>[(0,.v (.slice a n c)),(1,.v (.func (.func g) #[] #[cv])),(7,.v (iQ n)),(8,.v (iQ k))]) (λ_=>[.hp (Hp.whole w)])
  (λk=>k<=n/\∀y∈L.take k,p y=false) (λk=>n - k) 0 ⟨f8 _,sQ⟩ (v6.mk (λ_ _ h=>h) rfl rfl) ?_
 rintro k ⟨hk,ho⟩;refine d8 (λhlt=>?_) λhge=>?_
 ·have hlt':k < L.length:=om
  refine I1 cQ (e:=48) rfl hL k rfl hlt' λb o cs hcs hR hcell=>?_;subst hR;refine T7 cQ (i:=0) rfl hcell rfl ?_;refine k7 (.bool (p L[k])) (λw' hm=>hp w' (hm 0 _ rfl) L[k] (j0 hlt') _ rfl rfl) ?_;refine s8 (λhb=>?_) λhb=>?_
  ·exact⟨[],⟨by rw[nG p L k hlt' ho hb],rfl⟩,pk [0]⟩
  ·refine nwo ?_;exact⟨k+1,⟨om,aC hlt' ho hb⟩,om,v6.mk (λ_ _ h=>h) rfl rfl⟩
 ·exact⟨[],⟨by rw[jR p L k om ho],rfl⟩,pk [0]⟩
theorem kP {a:Option Addr} {n c:Nat} {L:List S1} (g:Nat) (cv:Value) (p:S1->Bool) (w:World) (hL:Sl (B0 O1) 4 (Hp.whole w) a n c L) (hn:n < 1000000000)
  (hp :∀w',(Hp.whole w).In w'->∀x∈L,∀cs,cs.length=4->ZG x cs->j6 Tryz.prog g #[.agg cs.toArray,cv] w' (v7 w' (.bool (p x)))) :
  j6 Tryz.prog 141 #[.slice a n c,.func (.func g) #[] #[cv]] w (v7 w (.bool (L.any p))):=by
 refine enterZ (cx 9) [.slice a n c,.func (.func g) #[] #[cv]] [.tmp 4] Tryz.func141 ?_;refine call (λw' hm=>fV g cv p w' (hL.mono (j7 _) (hm 0 _ rfl)) hn (λw2 h2=>hp w2 (h2.le (hm 0 _ rfl)))) ?_;rintro _ _ ⟨rfl,rfl⟩;exact⟨[],⟨by rw[<-jA],rfl⟩,λw' h=>h⟩
end Go.Proofs.YtpjhmeicbjkcdaaGreatDoor
namespace Go.Proofs.YtpjhmeicbjkcdaaGreatDoor
open Go Go.RowKit Go.Dw
theorem qK (n most:Int) (h0:0<=most) (hm:most < 4611686018427387904) (w:World):j6 Tryz.prog 113 #[iQ n,iQ most] w (v7 w (.bool (!aH n most))):=by
 obtain⟨m,rfl⟩:=aS h0;exact FP n m om w
theorem KK {α:Type} (M:List α) (z:α) :∀i,i<=M.length->(z8 i).map (λk=>M.getD k z)=M.take i:=λi hi=>by
 apply Fw
 ·simp;omega
 ·intro j h1 h2;simp only[l7,L9] at h1;simp[i7,i6 (show j < M.length by omega)]
def eB {α:Type} (f:α->e8) (L:List α) (k:Nat):e8:=(L.map f).getD k []
theorem fN {α:Type} (f:α->e8) (L:List α) (i:Nat) (hi:i<=L.length):(z8 i).map (eB f L)=(L.take i).map f:=by
 unfold eB;rw[KK _ _ _ (by rw[l7];exact hi),List.map_take]
theorem aF {α:Type} (f:α->e8) (L:List α) (i:Nat) (hi:i < L.length):eB f L i=f L[i]:=by
 unfold eB;rw[i7,i6 (by rw[l7];exact hi),eJ];rfl
theorem MA {a:Option Addr} {n c b:Nat} {L:List S1} (k:Nat) (w:World) (hc:(Hp.whole w).cell? ⟨b,0,none⟩=some (.slice a n c)) (hL:Sl (B0 O1) 4 (Hp.whole w) a n c L) (hk:k < L.length) :
  j6 Tryz.prog 119 #[iQ k,pQ b] w (v7 w (sv (eB (·.1) L k))):=by
 rw[aF _ _ _ hk];refine enterZ (cx 9) [iQ k,pQ b] [.tmp 3] Tryz.func119 ?_;refine lQ 0 hc ?_;refine I1 cQ (e:=48) rfl hL k rfl hk λb9 o9 cs hcs hR hcell=>?_;subst hR;refine lQ 0 (hcell 0 _ rfl) ?_;exact⟨[],⟨rfl,rfl⟩,pk [0]⟩
def RA {α:Type} (l:List α) (nm:α->e8) (f:α->Int) (i:Nat):Int:=match l[i]? with | some x=>oE (wH ((l.take i).map nm) (nm x)) (f x) | none=>0
theorem rW {α:Type} {l:List α} {nm:α->e8} {f:α->Int} {i:Nat} (hi:i < l.length):RA l nm f i=oE (wH ((l.take i).map nm) (nm l[i])) (f l[i]):=by unfold RA;rw[i6 hi]
theorem rU {α:Type} (most:Nat) (l:List α) (nm:α->e8) (f:α->Int):bC most l nm f=if most < l.length then 6 else mO (RA l nm f) l.length:=rfl
set_option maxRecDepth 10000 in
theorem oJ {a:Option Addr} {n c:Nat} {L:List S1} (i:Nat) (w:World) (hL:Sl (B0 O1) 4 (Hp.whole w) a n c L) (hn:L.length < 1000000) (hi:i < L.length) :
  j6 Tryz.prog 47 #[.slice a n c,iQ i] w (v7 w (iQ (RA L (·.1) wM i))):=by
 rw[rW hi];obtain⟨d,hd⟩ :∃d,d=L[i]:=⟨_,rfl⟩
 have hnm:wH ((z8 i).map (eB (·.1) L)) (eB (·.1) L i)=wH ((L.take i).map (·.1)) d.1:=by rw[fN _ _ _ om,aF _ _ _ hi,hd]
 rw[<-hd];obtain⟨nm,d1,d2,d3⟩:=d;dsimp only at hnm ⊢;have hE:wM (nm,d1,d2,d3)=if (aH d1 1073741824 || (aH d2 1073741824 || aH d3 1073741824))=true then 2 else if d3 < d2 then 8 else 0:=rfl
 refine enterZ (cx 40) [.slice a n c,iQ i] [.tmp 4] Tryz.func47 ?_;intro b2;refine I1 cQ (e:=48) rfl hL i rfl hi λb9 o9 cs hcs hR hcell=>?_;rw[<-hd] at hR;subst hR;refine T7 cQ (i:=0) rfl hcell rfl ?_;intro b5;refine k7 _ (λw' hm=>fO (K:=119) (p:=pQ b2) (nm:=eB (λd:S1=>d.1) L) i om w' (λk hk w2 h2=>MA k w2 ((h2.le (hm 1 _ rfl).whole).whole.cell (bP b2 _ _)) (hL.mono (j7 _) (h2.le (hm 0 _ rfl).whole).whole) om)) ?_;rw[hnm];refine d8 (λh2=>?_) λh2=>?_
 ·rw[gS h2];exact⟨[],⟨rfl,rfl⟩,pk [0]⟩
 have h2:wH ((L.take i).map (·.1)) nm=0:=j9 h2;rw[h2,P7,hE];refine k7 _ (λw' hm=>qK d1 1073741824 dc dc w') ?_;refine s8 (λh3=>?_) λh3=>?_
 ·rw[kC] at h3;rw[if_pos (by rw[h3];rfl)];exact⟨[],⟨rfl,rfl⟩,pk [0]⟩
 rw[kC] at h3;refine k7 _ (λw' hm=>qK d2 1073741824 dc dc w') ?_;refine s8 (λh4=>?_) λh4=>?_
 ·rw[kC] at h4;rw[if_pos (by rw[h4,h3];rfl)];exact⟨[],⟨rfl,rfl⟩,pk [0]⟩
 rw[kC] at h4;refine k7 _ (λw' hm=>qK d3 1073741824 dc dc w') ?_;refine s8 (λh5=>?_) λh5=>?_
 ·rw[kC] at h5;rw[if_pos (by rw[h5,h4,h3];rfl)];exact⟨[],⟨rfl,rfl⟩,pk [0]⟩
 rw[kC] at h5;rw[if_neg (by rw[h5,h4,h3];decide)];refine d8 (λh6=>?_) λh6=>?_
 ·rw[if_pos om];exact⟨[],⟨rfl,rfl⟩,pk [0]⟩
 ·rw[if_neg om];exact⟨[],⟨rfl,rfl⟩,pk [0]⟩
end Go.Proofs.YtpjhmeicbjkcdaaGreatDoor
namespace Go.Proofs.YtpjhmeicbjkcdaaGreatDoor
open Go Go.RowKit Go.Dw
theorem KO {a:Option Addr} {n c b:Nat} {L:List W3} (k:Nat) (w:World) (hc:(Hp.whole w).cell? ⟨b,0,none⟩=some (.slice a n c)) (hL:Sl bN 3 (Hp.whole w) a n c L) (hk:k < L.length) :
  j6 Tryz.prog 110 #[iQ k,pQ b] w (v7 w (sv (eB (λp:W3=>p.1) L k))):=by
 rw[aF _ _ _ hk];refine enterZ (cx 9) [iQ k,pQ b] [.tmp 3] Tryz.func110 ?_;refine lQ 0 hc ?_;refine I1 cQ (e:=83) rfl hL k rfl hk λb9 o9 cs hcs hR hcell=>?_;obtain⟨a3,n3,c3,rfl,hs3⟩:=hR;refine lQ 0 (hcell 0 _ rfl) ?_;exact⟨[],⟨rfl,rfl⟩,pk [0]⟩
theorem WI (x:Int) (w:World):j6 Tryz.prog 112 #[iQ x] w (v7 w (.bool (aH x 4096))):=by
 refine enterZ (cx 6) [iQ x] [.tmp 2] Tryz.func112 ?_;refine k7 _ (λw' hm=>qK x 4096 dc dc w') ?_;exact⟨[],⟨by rw[kC],rfl⟩,pk [0]⟩
structure MS (p:W3):Prop where
 len:p.2.2.length < 1000000
 cel :∀x∈p.2.2,x.length < 1000000
theorem zN {f:Nat->Int} {k n:Nat} (hz :∀j,j < k->f j=0) (hk:k < n) {e:Int} (he:f k=e) (h0:e≠0):mO f n=e:=by rw[nM hz (by rw[he];exact h0) hk,he]
set_option maxRecDepth 10000 in
set_option maxHeartbeats 1000000 in
theorem AH {a:Option Addr} {n c:Nat} {L:List W3} (i:Nat) (w:World) (hL:Sl bN 3 (Hp.whole w) a n c L) (hn:L.length < 1000000) (hi:i < L.length) (hs :∀p∈L,MS p) :
  j6 Tryz.prog 41 #[.slice a n c,iQ i] w (v7 w (iQ (RA L (·.1) wF i))):=by
 rw[rW hi];obtain⟨d,hd⟩ :∃d,d=L[i]:=⟨_,rfl⟩
 have hds:MS d:=hs d (by rw[hd];exact j0 hi);have hnm:wH ((z8 i).map (eB (λp:W3=>p.1) L)) (eB (λp:W3=>p.1) L i)=wH ((L.take i).map (λp:W3=>p.1)) d.1:=by rw[fN _ _ _ om,aF _ _ _ hi,hd]
 rw[<-hd];obtain⟨nm,cap,cells⟩:=d;obtain⟨hs1,hs2⟩:=hds;dsimp only at hnm hs1 hs2 ⊢;have hE:wF (nm,cap,cells)=if cap < 1\/1048576 < cap then 2 else if 6 < cells.length then 6 else mO (λi=>IX (cells.getD i [])) cells.length:=rfl
 refine enterZ (cx 57) [.slice a n c,iQ i] [.tmp 4] Tryz.func41 ?_;intro b2;refine I1 cQ (e:=83) rfl hL i rfl hi λb9 o9 cs hcs hR hcell=>?_;rw[<-hd] at hR;have hR :∃a n c,cs = [sv nm,iQ cap,.slice a n c]/\Sl pN 1 (Hp.whole w) a n c cells:=hR;obtain⟨a3,n3,c3,rfl,hs3⟩:=hR;have hl3:=hs3.len;refine T7 cQ (i:=0) rfl hcell rfl ?_;intro b5;refine k7 _ (λw' hm=>fO (K:=110) (p:=pQ b2) (nm:=eB (λp:W3=>p.1) L) i om w' (λk hk w2 h2=>KO k w2 ((h2.le (hm 1 _ rfl).whole).whole.cell (bP b2 _ _)) (hL.mono I9 (h2.le (hm 0 _ rfl).whole).whole) om)) ?_;rw[hnm];refine d8 (λh2=>?_) λh2=>?_
 ·rw[gS h2];exact⟨[],⟨rfl,rfl⟩,pk [0]⟩
 have h2:wH ((L.take i).map (λp:W3=>p.1)) nm=0:=j9 h2;rw[h2,P7,hE];refine d8 (λh3=>?_) λh3=>?_
 ·rw[if_pos (Or.inl h3)];exact⟨[],⟨rfl,rfl⟩,pk [0]⟩
 refine d8 (λh4=>?_) λh4=>?_
 ·rw[if_pos (Or.inr h4)];exact⟨[],⟨rfl,rfl⟩,pk [0]⟩
 rw[if_neg om];refine d8 (λh5=>?_) λh5=>?_
 ·rw[if_pos om];exact⟨[],⟨rfl,rfl⟩,pk [0]⟩
 rw[if_neg om];refine u6.mk Nat (λk=>[(36,.v (.slice a3 n3 c3)),(37,.v (iQ n3)),(38,.v (iQ k))]) (λ_=>[.hp (Hp.whole w)])
  (λk=>k<=n3/\∀j,j < k->IX (cells.getD j [])=0) (λk=>n3 - k) 0 ⟨f8 _,λj hj=>absurd hj (H5 _)⟩ (v6.mk (pj [0]) rfl rfl) ?_
 rintro k ⟨hk,hz⟩;dsimp only at hk hz ⊢;refine d8 (λh6=>?_) λh6=>?_
 ·have hkl:k < cells.length:=om
  obtain⟨x,hx⟩ :∃x,x=cells[k]:=⟨_,rfl⟩
  have hxs:x.length < 1000000:=hs2 x (by rw[hx];exact j0 hkl);have hgd:cells.getD k []=x:=by rw[i7,i6 hkl,hx];rfl
  have hK:IX (cells.getD k [])=if 16 < x.length then 6 else if x.any tQ=true then 2 else 0:=by rw[hgd];rfl
  refine I1 cQ (e:=86) rfl hs3 k rfl hkl λb9 o9 cs hcs hR hcell7=>?_;rw[<-hx] at hR;obtain⟨a4,n4,c4,rfl,hs4⟩:=hR;have hl4:=hs4.len;refine T7 cQ (i:=0) rfl hcell7 rfl ?_;intro b8;refine d8 (λh8=>?_) λh8=>?_
  ·rw[if_pos om] at hK;rw[zN hz hkl hK dc];exact⟨[],⟨rfl,rfl⟩,pk [0]⟩
  rw[if_neg om] at hK;refine u6.mk Nat (λj=>[(36,.v (.slice a3 n3 c3)),(37,.v (iQ n3)),(38,.v (iQ k)),(47,.v (.slice a4 n4 c4)),(48,.v (iQ n4)),(49,.v (iQ j))]) (λ_=>[.hp (Hp.whole w)])
   (λj=>j<=n4/\∀y∈x.take j,tQ y=false) (λj=>n4 - j) 0 ⟨f8 _,sQ⟩ (v6.mk (pj [0]) rfl rfl) ?_
  rintro j ⟨hj,hv⟩;dsimp only at hj hv ⊢;refine d8 (λh9=>?_) λh9=>?_
  ·have hjl:j < x.length:=om
   obtain⟨v,hvv⟩ :∃v,v=x[j]:=⟨_,rfl⟩
   have hvm:v∈x:=by rw[hvv];exact j0 hjl
   refine I1 cQ (e:=122) rfl hs4 j rfl hjl λb9 o9 cs hcs hR hcell10=>?_;rw[<-hvv] at hR;obtain⟨v1,v2,v3⟩:=v;have hR:cs = [iQ v1,iQ v2,iQ v3]:=hR;subst hR;refine T7 cQ (i:=0) rfl hcell10 rfl ?_;intro b10;refine Je cQ rfl rfl (e:=3) rfl ?_;refine k7 _ (λw' hm=>cC (L:=[v1,v2,v3]) 112 (λz=>aH z 4096) w' (Bx (f:=Gf) (off:=0) (cs:=[iQ v1,iQ v2,iQ v3]) (L:=[v1,v2,v3]) (hm 1 _ rfl) (λ_=>rfl) (λi hi j v hj=>by
    match i,j,hi,hj with
    | 0,0,_,hj=>exact hj
    | 1,0,_,hj=>exact hj
    | 2,0,_,hj=>exact hj)) dc (λw2 _ z _=>WI z w2)) ?_
   refine s8 (λh11=>?_) λh11=>?_
   ·have:tQ (v1,v2,v3)=true:=by unfold tQ;simpa using h11
    rw[if_pos (E6.2 ⟨_,hvm,this⟩)] at hK;rw[zN hz hkl hK dc];exact⟨[],⟨rfl,rfl⟩,pk [0]⟩
   ·have:tQ (v1,v2,v3)=false:=by unfold tQ;simpa using h11
    refine nwo ?_;exact⟨j+1,⟨om,aC (P:=λy=>tQ y=false) hjl hv (by rw[<-hvv];exact this)⟩,by (try dsimp only);omega,v6.mk (pj [0]) rfl rfl⟩
  ·have:x.any tQ=false:=by
    rw[J8];intro y hy;rw[u7 om] at hv;rw[hv y hy];decide
   rw[if_neg (by rw[this];decide)] at hK;refine nwo ?_;exact⟨k+1,⟨om,λj hj=>(K8 j k).elim (hz j) (λg=>by rw[show j=k by omega];exact hK)⟩,by (try dsimp only);omega,v6.mk (pj [0]) rfl rfl⟩
 ·rw[V8.2 (λj hj=>hz j om)];exact⟨[],⟨rfl,rfl⟩,pk [0]⟩
end Go.Proofs.YtpjhmeicbjkcdaaGreatDoor
namespace Go.Proofs.YtpjhmeicbjkcdaaGreatDoor
open Go Go.RowKit Go.Dw
theorem LS {a:Option Addr} {n c b:Nat} {L:List mX} (k:Nat) (w:World) (hc:(Hp.whole w).cell? ⟨b,0,none⟩=some (.slice a n c)) (hL:Sl (B0 dM) 9 (Hp.whole w) a n c L) (hk:k < L.length) :
  j6 Tryz.prog 114 #[iQ k,pQ b] w (v7 w (sv (eB (λp:mX=>p.1) L k))):=by
 rw[aF _ _ _ hk];refine enterZ (cx 9) [iQ k,pQ b] [.tmp 3] Tryz.func114 ?_;refine lQ 0 hc ?_;refine I1 cQ (e:=93) rfl hL k rfl hk λb9 o9 cs hcs hR hcell=>?_;subst hR;refine lQ 0 (hcell 0 _ rfl) ?_;exact⟨[],⟨rfl,rfl⟩,pk [0]⟩
theorem LR {b:Nat} {p:W3} {pt:e8} {cs:List Value} (w:World) (hp:Du p cs) (hc:(Hp.whole w).cell? ⟨b,1,none⟩=some (sv pt)) :
  j6 Tryz.prog 116 #[.agg cs.toArray,pQ b] w (v7 w (.bool (decide (p.1=pt)))):=by
 obtain⟨a,n,c,rfl⟩:=hp;refine enterZ (cx 9) [.agg #[sv p.1,iQ p.2.1,.slice a n c],pQ b] [.tmp 3] Tryz.func116 ?_;intro b2;refine lQ 0 hc ?_;refine W8 ?_;exact⟨[],⟨rfl,rfl⟩,pk [0]⟩
theorem LX (x:Int) (w:World):j6 Tryz.prog 117 #[iQ x] w (v7 w (.bool (aH x 12))):=by
 refine enterZ (cx 6) [iQ x] [.tmp 2] Tryz.func117 ?_;refine k7 _ (λw' hm=>qK x 12 dc dc w') ?_;exact⟨[],⟨by rw[kC],rfl⟩,pk [0]⟩
structure Br (x:mX):Prop where
 o1:x.2.2.2.1.length < 1000000
 o2:x.2.2.2.2.1.length < 1000000
 o3:x.2.2.2.2.2.length < 1000000
set_option maxRecDepth 10000 in
set_option maxHeartbeats 1000000 in
theorem pZ {a1 a2:Option Addr} {n1 c1 n2 c2:Nat} {P:List W3} {L:List mX} (i:Nat) (w:World) (hP:Sl bN 3 (Hp.whole w) a1 n1 c1 P) (hL:Sl (B0 dM) 9 (Hp.whole w) a2 n2 c2 L) (hpn:P.length < 1000000) (hn:L.length < 1000000) (hi:i < L.length) (hs :∀p∈L,Br p) :
  j6 Tryz.prog 44 #[.agg #[.slice a1 n1 c1,.slice a2 n2 c2],iQ i] w (v7 w (iQ (RA L (·.1) (wL (P.map (·.1))) i))):=by
 rw[rW hi];have hlP:=hP.len;obtain⟨d,hd⟩ :∃d,d=L[i]:=⟨_,rfl⟩
 have hds:Br d:=hs d (by rw[hd];exact j0 hi);have hnm:wH ((z8 i).map (eB (λp:mX=>p.1) L)) (eB (λp:mX=>p.1) L i)=wH ((L.take i).map (λp:mX=>p.1)) d.1:=by rw[fN _ _ _ om,aF _ _ _ hi,hd]
 rw[<-hd];obtain⟨nm,pt,⟨r1,r2,r3,r4⟩,o1,o2,o3⟩:=d;obtain⟨hs1,hs2,hs3⟩:=hds;dsimp only at hnm hs1 hs2 hs3 ⊢;have hE:wL (P.map (·.1)) (nm,pt,(r1,r2,r3,r4),o1,o2,o3)=if pt∉P.map (·.1) then 16 else if (aH r1 12 || (aH r2 12 || (aH r3 12 || aH r4 12)))=true then 2 else oE (I7 o1) (oE (I7 o2) (I7 o3)):=rfl
 have hany:P.any (λp=>decide (p.1=pt))=decide (pt∈P.map (·.1)):=by
  rw[L6,E6,decide_eq_true_eq,G6];exact⟨λ⟨p,h1,h2⟩=>⟨p,h1,of_decide_eq_true h2⟩,λ⟨p,h1,h2⟩=>⟨p,h1,decide_eq_true h2⟩⟩
 refine enterZ (cx 45) [.agg #[.slice a1 n1 c1,.slice a2 n2 c2],iQ i] [.tmp 4] Tryz.func44 ?_;intro b2;refine s6.cut (Nat×Nat) (λg=>[(1,.v (iQ i)),(2,.bx 1 0),(5,.bx 2 0),(6,.bx 3 0)]) (λg=>[.hp (Hp.whole w),.box b2 [.slice a1 n1 c1,.slice a2 n2 c2] 25,.box g.1 [.slice a2 n2 c2] 23,.box g.2 [sv nm,sv pt,iQ r1,iQ r2,iQ r3,iQ r4,sv o1,sv o2,sv o3] 93]) (λ_=>True) (s6.by_order cQ (.take 0 <| .take 1 <| .take 2 <| .take 3 <| .take 4 <| .take 5 <| .take 6 <| .two 7 (.run 8 <| .run 9 <| .run 10 <| .done) 8 (.run 7 <| .run 9 <| .run 10 <| .done)) kr ?_) ?_
 ·refine I1 cQ (e:=93) rfl hL i rfl hi λb9 o9 cs hcs hR hcell1=>?_;rw[<-hd] at hR;have hR:cs = [sv nm,sv pt,iQ r1,iQ r2,iQ r3,iQ r4,sv o1,sv o2,sv o3]:=hR;subst hR;refine T7 cQ (i:=0) rfl hcell1 rfl ?_;constructor
  ·intro b5;refine⟨sK,?_⟩;intro b6;(iterate 2 refine⟨sK,?_⟩);exact⟨(b5,b6),trivial,v6.mk (pj [0,1,2,3]) rfl rfl⟩
  ·intro b6;refine⟨sK,?_⟩;intro b5;(iterate 2 refine⟨sK,?_⟩);exact⟨(b5,b6),trivial,v6.mk (pj [0,1,3,2]) rfl rfl⟩
 rintro⟨b5,b6⟩ _ hsat;dsimp only;refine k7 _ (λw' hm=>fO (K:=114) (p:=pQ b5) (nm:=eB (λp:mX=>p.1) L) i om w' (λk hk w2 h2=>LS k w2 ((h2.le (hm 2 _ rfl).whole).whole.cell (bP b5 _ _)) (hL.mono (j7 _) (h2.le (hm 0 _ rfl).whole).whole) om)) ?_;rw[hnm];refine d8 (λh2=>?_) λh2=>?_
 ·rw[gS h2];exact⟨[],⟨rfl,rfl⟩,pk [0]⟩
 have h2:wH ((L.take i).map (λp:mX=>p.1)) nm=0:=j9 h2;rw[h2,P7,hE];refine k7 _ (λw' hm=>cB 116 (pQ b6) (λp=>decide (p.1=pt)) w' (hP.mono I9 (hm 0 _ rfl).whole) om (λw2 h2 p _ cs _ hp=>LR w2 hp ((h2.le (hm 3 _ rfl).whole).whole.cell (by simp[Hp.cell?,Ch.h,Hp.one])))) ?_;rw[hany];refine s8 (λh3=>?_) λh3=>?_
 ·rw[if_pos (by simpa using h3)];exact⟨[],⟨rfl,rfl⟩,pk [0]⟩
 rw[if_neg (by simpa using h3)];refine Je cQ rfl rfl (e:=3) rfl ?_;refine k7 _ (λw' hm=>cC (L:=[r1,r2,r3,r4]) 117 (λz=>aH z 12) w' (Bx (f:=Gf) (off:=2) (cs:=[sv nm,sv pt,iQ r1,iQ r2,iQ r3,iQ r4,sv o1,sv o2,sv o3]) (L:=[r1,r2,r3,r4]) (hm 3 _ rfl) (λ_=>rfl) (λi hi j v hj=>by
  match i,j,hi,hj with
  | 0,0,_,hj=>exact hj
  | 1,0,_,hj=>exact hj
  | 2,0,_,hj=>exact hj
  | 3,0,_,hj=>exact hj)) dc (λw2 _ z _=>LX z w2)) ?_
 refine s8 (λh4=>?_) λh4=>?_
 ·rw[if_pos (by simpa using h4)];exact⟨[],⟨rfl,rfl⟩,pk [0]⟩
 rw[if_neg (by simpa using h4)];refine u6.mk Nat (λk=>[(35,.v (.agg #[sv o1,sv o2,sv o3])),(36,.v (iQ k))]) (λ_=>[.hp (Hp.whole w)])
  (λk=>k<=3/\(0 < k->I7 o1=0)/\(1 < k->I7 o2=0)/\(2 < k->I7 o3=0)) (λk=>3 - k) 0 ⟨f8 _,λh=>absurd h dc,λh=>absurd h dc,λh=>absurd h dc⟩ (v6.mk (pj [0]) rfl rfl) ?_
 rintro k ⟨hk,g1,g2,g3⟩;match k,hk with
 | 0,_=>
  refine Lh cQ rfl rfl (n:=3) rfl rfl (cs:=[sv o1,sv o2,sv o3]) (j:=0) rfl dc rfl ?_;refine k7 _ (λw' hm=>cK o1 hs1 w') ?_;refine d8 (λq1=>?_) λq1=>?_
  ·rw[gS q1];exact⟨[],⟨rfl,rfl⟩,pk [0]⟩
  ·have q1:I7 o1=0:=j9 q1;refine nw dc dc ?_;exact⟨1,⟨dc,λ_=>q1,λh=>absurd h dc,λh=>absurd h dc⟩,by (try dsimp only);omega,v6.mk (pj [0]) rfl rfl⟩
 | 1,_=>
  rw[g1 dc,P7];refine Lh cQ rfl rfl (n:=3) rfl rfl (cs:=[sv o1,sv o2,sv o3]) (j:=1) rfl dc rfl ?_;refine k7 _ (λw' hm=>cK o2 hs2 w') ?_;refine d8 (λq1=>?_) λq1=>?_
  ·rw[gS q1];exact⟨[],⟨rfl,rfl⟩,pk [0]⟩
  ·have q1:I7 o2=0:=j9 q1;refine nw dc dc ?_;exact⟨2,⟨dc,λ_=>rfl,λ_=>q1,λh=>absurd h dc⟩,by (try dsimp only);omega,v6.mk (pj [0]) rfl rfl⟩
 | 2,_=>
  rw[g1 dc,P7,g2 dc,P7];refine Lh cQ rfl rfl (n:=3) rfl rfl (cs:=[sv o1,sv o2,sv o3]) (j:=2) rfl dc rfl ?_;refine k7 _ (λw' hm=>cK o3 hs3 w') ?_;refine d8 (λq1=>?_) λq1=>?_
  ·exact⟨[],⟨rfl,rfl⟩,pk [0]⟩
  ·have q1:I7 o3=0:=j9 q1;refine nw dc dc ?_;exact⟨3,⟨dc,λ_=>rfl,λ_=>rfl,λ_=>q1⟩,by (try dsimp only);omega,v6.mk (pj [0]) rfl rfl⟩
 | 3,_=>
  rw[g1 dc,P7,g2 dc,P7,g3 dc];exact⟨[],⟨rfl,rfl⟩,pk [0]⟩
end Go.Proofs.YtpjhmeicbjkcdaaGreatDoor
namespace Go.Proofs.YtpjhmeicbjkcdaaGreatDoor
open Go Go.RowKit Go.Dw
theorem xQ :∀(M:List Nat) (j d:Nat) (hj:j < M.length),u9 (M.set j d)+Bs ^ j*M[j]=u9 M+Bs ^ j*d
 | [],j,d,hj=>absurd hj (H5 _)
 | x::M,0,d,hj=>by
  show d+Bs*u9 M+1*x=x+Bs*u9 M+1*d
  omega
 | x::M,j+1,d,hj=>by
  have ih:=xQ M j d (by simpa using hj);show x+Bs*u9 (M.set j d)+Bs ^ (j+1)*M[j]'(by simpa using hj)=x+Bs*u9 M+Bs ^ (j+1)*d
  rw[O3,q8 (Bs ^ j) Bs,A0,A0];have e:=congrArg (Bs * ·) ih;simp only[B9] at e;omega
theorem P3.set {M:List Nat} (h:P3 M) {j d:Nat} (hd:d < Bs):P3 (M.set j d):=λx hx=>by
 rcases List.mem_or_eq_of_mem_set hx with g | g
 ·exact h x g
 ·rw[g];exact hd
structure FH (La Lb:List Nat) (i x k c:Nat) (M:List Nat):Prop where
 len:M.length=La.length+Lb.length
 lim:P3 M
 car:c < Bs
 val:u9 M+Bs ^ (i+k)*c=u9 (La.take i)*u9 Lb+Bs ^ i*(x*u9 (Lb.take k))
 tail :∀j (hj:j < M.length),i+Lb.length<=j->M[j]=0
theorem VI {a b p q c m t d e:Nat} (ht:t=c+(a*b+m)) (he:t=d+Bs*e) {v v':Nat} (hs:v'+p*m=v+p*d) (hv:v+p*c=q):v'+p*Bs*e=q+p*(a*b):=by
 have h1:p*t=p*d+p*Bs*e:=by rw[he,B9,A0]
 have h2:p*t=p*c+(p*(a*b)+p*m):=by rw[ht,B9,B9]
 omega
theorem FH.step {La Lb:List Nat} {i x k c:Nat} {M:List Nat} (h:FH La Lb i x k c M) (hx:x < Bs) (hk:k < Lb.length) (hlb:P3 Lb) (hj:i+k < M.length) :
  c+(x*Lb[k]+M[i+k]) < Bs*Bs/\FH La Lb i x (k+1) ((c+(x*Lb[k]+M[i+k])) / Bs) (M.set (i+k) ((c+(x*Lb[k]+M[i+k])) % Bs)):=by
 have hy:=hlb Lb[k] (j0 hk);have hm:=h.lim M[i+k] (j0 hj);have hc:=h.car;have hxy:x*Lb[k]<=(Bs - 1)*(Bs - 1):=Q9 om om;have hB:(Bs - 1)*(Bs - 1)=Bs*Bs - 2*Bs+1:=by unfold Bs;rfl
 have hlt:c+(x*Lb[k]+M[i+k]) < Bs*Bs:=by unfold Bs at *;omega
 refine⟨hlt,by rw[N8];exact h.len,h.lim.set (C8 _ (by unfold Bs;omega)),Nat.div_lt_of_lt_mul hlt,?_,λj hj2 hj3=>?_⟩
 ·have hs:=xQ M (i+k) ((c+(x*Lb[k]+M[i+k])) % Bs) hj;have:=VI (a:=x) (b:=Lb[k]) (p:=Bs ^ (i+k)) (d:=(c+(x*Lb[k]+M[i+k])) % Bs) (e:=(c+(x*Lb[k]+M[i+k])) / Bs) rfl (by have:=Nat.mod_add_div (c+(x*Lb[k]+M[i+k])) Bs;omega) hs h.val;rw[show i+(k+1)=(i+k)+1 by omega,O3,this,I8 Lb k hk,Y8,j8,Y5 om,B9,B9,iO];have:Bs ^ i*Bs ^ k*(x*Lb[k])=Bs ^ i*(x*(Bs ^ k*Lb[k])):=by rw[A0,jZ (Bs ^ k) x]
  omega
 ·rw[Fv,if_neg om];exact h.tail j (by rw[N8] at hj2;exact hj2) hj3
theorem FH.done {La Lb:List Nat} {i c:Nat} {M:List Nat} (hi:i < La.length) (h:FH La Lb i La[i] Lb.length c M) (hj:i+Lb.length < M.length):(M.set (i+Lb.length) c).length=La.length+Lb.length/\P3 (M.set (i+Lb.length) c)/\
  u9 (M.set (i+Lb.length) c)=u9 (La.take (i+1))*u9 Lb/\∀j (hj:j < (M.set (i+Lb.length) c).length),i+1+Lb.length<=j->(M.set (i+Lb.length) c)[j]=0:=by
 refine⟨by rw[N8];exact h.len,h.lim.set h.car,?_,λj hj2 hj3=>?_⟩
 ·have hs:=xQ M (i+Lb.length) c hj;rw[h.tail _ hj (k8 _),jY,G3,h.val,p9] at hs;rw[hs,I8 La i hi,Y8,j8,Y5 om,D9,A0]
 ·rw[Fv,if_neg om];exact h.tail j (by rw[N8] at hj2;exact hj2) om
theorem FH.start {La Lb:List Nat} {i x:Nat} {M:List Nat} (h1:M.length=La.length+Lb.length) (h2:P3 M) (h3:u9 M=u9 (La.take i)*u9 Lb) (h4 :∀j (hj:j < M.length),i+Lb.length<=j->M[j]=0):FH La Lb i x 0 0 M:=
 ⟨h1,h2,by unfold Bs;omega,by rw[h3,R1];show _+0=_+Bs ^ i*(x*0);simp,h4⟩
theorem xO :∀n,u9 (p7 n 0)=0
 | 0=>rfl
 | n+1=>by show 0+Bs*u9 (p7 n 0)=0;rw[xO n];rfl
set_option maxRecDepth 10000 in
set_option maxHeartbeats 1000000 in
theorem tJ {g1 g2:Bool} {a1 a2:Option Addr} {n1 c1 n2 c2 x y:Nat} {La Lb:List Nat} (w:World) (ha:Sl (B0 fW) 1 (Hp.whole w) a1 n1 c1 La) (hb:Sl (B0 fW) 1 (Hp.whole w) a2 n2 c2 Lb) (hca:fG La x) (hcb:fG Lb y) (h1:La.length < 300000) (h2:Lb.length < 300000) :
  j6 Tryz.prog 146 #[U9 g1 a1 n1 c1,U9 g2 a2 n2 c2] w (fD w λv cs=>∃g a n c,v=U9 ((!(g1==g2)) && decide (0 < x*y)) a n c/\cs = [.hp g]/\bT g (.slice a n c) (x*y)):=by
 have hla:=ha.len;have hlb:=hb.len;refine enterZ (cx 77) [U9 g1 a1 n1 c1,U9 g2 a2 n2 c2] [.cell 4 139] Tryz.func146 ?_;intro b2 b3 b4;refine nwo ?_;refine Er (f:=fW) cQ (e:=247) rfl (La.length+Lb.length) 0 rfl om om rfl om λo18 ho18n ho18=>?_;refine u6.mk (Nat×Dw.Os×List Nat) (λg=>[(2,.bx 1 0),(3,.bx 2 0),(4,.bx 3 0),(5,.v g.2.1.v),(20,.v (.slice a1 n1 c1)),(21,.v (iQ n1)),(22,.v (iQ g.1))])
  (λg=>[.hp (Hp.whole w),.box b2 [.bool g1,.slice a1 n1 c1] 139,.box b3 [.bool g2,.slice a2 n2 c2] 139,.box b4 [.bool false,zl] 139,.hp g.2.1.h])
  (λg=>g.1<=La.length/\w8 fW 247 1 g.2.1 g.2.2/\(g.2.2.length=La.length+Lb.length/\P3 g.2.2/\u9 g.2.2=u9 (La.take g.1)*u9 Lb/\∀j (hj:j < g.2.2.length),g.1+Lb.length<=j->g.2.2[j]=0)) (λg=>La.length - g.1) (0,o18,p7 (La.length+Lb.length) 0)
  ⟨f8 _,ho18,O9,λd hd=>by rw[List.eq_of_mem_replicate hd];unfold Bs;omega,by rw[xO,R1];exact (Z4 _).symm,λj hj _=>by simp⟩ (v6.mk (λ_ _ h=>h) rfl rfl) ?_
 rintro⟨i,o,M⟩ ⟨hi,ho,hM1,hM2,hM3,hM4⟩;dsimp only at hi ho hM1 hM2 hM3 hM4 ⊢;refine d8 (λh3=>?_) λh3=>?_
 ·have hi':i < La.length:=om
  have hxB:=hca.l La[i] (j0 hi');refine I1 cQ (e:=247) rfl ha i rfl hi' λb9 o9 cs hcs hR hcell2=>?_;subst hR;refine lQ 0 (hcell2 0 _ rfl) ?_;refine u6.mk (Nat×Nat×Dw.Os×List Nat) (λg=>[(2,.bx 1 0),(3,.bx 2 0),(4,.bx 3 0),(5,.v g.2.2.1.v),(6,.v (iQ i)),(7,.v (.int .u32 La[i])),(8,.v (.int .u64 g.2.1)),(20,.v (.slice a1 n1 c1)),(21,.v (iQ n1)),(22,.v (iQ i)),(28,.v (.slice a2 n2 c2)),(29,.v (iQ n2)),(30,.v (iQ g.1))])
   (λg=>[.hp (Hp.whole w),.box b2 [.bool g1,.slice a1 n1 c1] 139,.box b3 [.bool g2,.slice a2 n2 c2] 139,.box b4 [.bool false,zl] 139,.hp g.2.2.1.h])
   (λg=>g.1<=Lb.length/\w8 fW 247 1 g.2.2.1 g.2.2.2/\FH La Lb i La[i] g.1 g.2.1 g.2.2.2) (λg=>Lb.length - g.1) (0,0,o,M)
   ⟨f8 _,ho,FH.start hM1 hM2 hM3 hM4⟩ (v6.mk (λ_ _ h=>h) rfl rfl) ?_
  rintro⟨k,c,o,M⟩ ⟨hk,ho,hI⟩;dsimp only at hk ho hI ⊢;have hIl:=hI.len;have hIc:=hI.car;refine d8 (λh4=>?_) λh4=>?_
  ·have hk':k < Lb.length:=om
   have hyB:=hcb.l Lb[k] (j0 hk');have hj:i+k < M.length:=om
   have hmB:=hI.lim M[i+k] (j0 hj);obtain⟨hlt,hN⟩:=hI.step hxB hk' hcb.l hj;have hxy:La[i]*Lb[k]<=(Bs - 1)*(Bs - 1):=Q9 om om;refine I1 cQ (e:=247) rfl hb k rfl hk' λb9 o9 cs hcs hR hcell4=>?_;subst hR;refine lQ 0 (hcell4 0 _ rfl) ?_;refine J9 La[i] rfl (by unfold Bs at hxB;omega) ?_;refine J9 Lb[k] rfl (by unfold Bs at hyB;omega) ?_;refine J9 (La[i]*Lb[k]) sQ (by unfold Bs at hxy;omega) ?_;refine nwo ?_;refine aW cQ (e:=247) rfl rfl ho (i+k) sQ hj λb5 hb5=>?_;refine rQ (g:=λx:Nat=>.int .u32 x) (λ_=>rfl) cQ (i:=4) rfl hb5 ho hj rfl ?_;refine J9 M[i+k] rfl (by unfold Bs at hmB;omega) ?_;refine J9 (La[i]*Lb[k]+M[i+k]) sQ (by unfold Bs at hlt;omega) ?_;refine J9 (c+(La[i]*Lb[k]+M[i+k])) sQ (by unfold Bs at hlt;omega) ?_;refine nwo ?_;refine gU (c+(La[i]*Lb[k]+M[i+k])) rfl ?_;refine aW cQ (e:=247) rfl rfl ho (i+k) sQ hj λb6 hb6=>?_;refine kI (g:=λx:Nat=>.int .u32 x) (λ_=>rfl) cQ (i:=4) rfl hb6 ho hj rfl rfl ((c+(La[i]*Lb[k]+M[i+k])) % Bs) rfl rfl rfl λo2 f1 f2 f3 ho2=>?_;refine pA (c+(La[i]*Lb[k]+M[i+k])) 32 rfl rfl dc ?_;refine nwo ?_;refine⟨(k+1,(c+(La[i]*Lb[k]+M[i+k])) / Bs,o2,_),⟨by dsimp only;omega,ho2,hN⟩,by dsimp only;omega,v6.mk (pj [0,1,2,3,4]) ?_ rfl⟩;dsimp only[Os.v];rw[f1,f2,f3];rfl
  ·have hk':k=Lb.length:=om
   subst hk';have hj:i+Lb.length < M.length:=om
   obtain⟨e1,e2,e3,e4⟩:=hI.done hi' hj;refine nwo ?_;refine gU c rfl ?_;rw[C9 (show c < 4294967296 from hIc)];refine aW cQ (e:=247) rfl rfl ho (i+Lb.length) om hj λb6 hb6=>?_;refine kI (g:=λx:Nat=>.int .u32 x) (λ_=>rfl) cQ (i:=4) rfl hb6 ho hj rfl rfl c rfl rfl rfl λo2 f1 f2 f3 ho2=>?_;refine nwo ?_;refine⟨(i+1,o2,_),⟨by dsimp only;omega,ho2,e1,e2,e3,e4⟩,by dsimp only;omega,v6.mk (pj [0,1,2,3,4]) ?_ rfl⟩;dsimp only[Os.v];rw[f1,f2,f3];rfl
 ·have hi':i=La.length:=om
  subst hi';rw[p9,hca.v,hcb.v] at hM3;refine UJ ?_;have ho3:=w8.sl (f:=fW) (sz:=1) (λ_=>rfl) dc ho;have hcan:=W2 hM2;rw[hM3] at hcan;have hz:decide (0 < trN M)=decide (0 < x*y):=by
   rw[decide_eq_decide,<-gP];have:=hcan.zero;rw[<-M0] at this;omega
  refine k7 _ (λw' hm=>aV _ w' (ho3.mono (j7 _) (hm 4 _ rfl).whole) om) ?_;rw[hz];refine⟨[.hp o.h],⟨_,_,_,_,rfl,rfl,_,_,_,_,rfl,iA ho3,hcan,by have:=lK M;rw[gP];omega⟩,pk [0,4]⟩
end Go.Proofs.YtpjhmeicbjkcdaaGreatDoor
namespace Go.Proofs.YtpjhmeicbjkcdaaGreatDoor
open Go Go.RowKit Go.Dw
def mV (h:Hp) (a:Option Addr) (n c x:Nat):Prop:=∃L,Sl (B0 fW) 1 h a n c L/\fG L x/\L.length < 300000
theorem mV.mono {h k:Hp} {a:Option Addr} {n c x:Nat} (hl:h.le k):mV h a n c x->mV k a n c x
 | ⟨L,h1,h2,h3⟩=>⟨L,h1.mono (j7 _) hl,h2,h3⟩
theorem mV.mag {h:Hp} {a:Option Addr} {n c x:Nat}:mV h a n c x->bT h (.slice a n c) x
 | ⟨L,h1,h2,h3⟩=>⟨a,n,c,L,rfl,h1,h2,om⟩
structure JC (h:Hp) (n1:Bool) (a1:Option Addr) (k1 c1:Nat) (a2:Option Addr) (k2 c2:Nat) (x y:Nat):Prop where
 num:mV h a1 k1 c1 x
 den:mV h a2 k2 c2 y
 sg:n1=true->0 < x
theorem JC.mono {h k:Hp} {n1:Bool} {a1:Option Addr} {k1 c1:Nat} {a2:Option Addr} {k2 c2:Nat} {x y:Nat} (hl:h.le k) (r:JC h n1 a1 k1 c1 a2 k2 c2 x y):JC k n1 a1 k1 c1 a2 k2 c2 x y:=⟨r.num.mono hl,r.den.mono hl,r.sg⟩
theorem CH (w:World):j6 Tryz.prog 195 #[] w (fD w λv cs=>∃g a n c,v=U9 false a n c/\cs = [.hp g]/\mV g a n c 1):=by
 refine enterZ (cx 2) [] [.cell 0 139] Tryz.func195 ?_;intro b0;refine call (λw' hm=>uB 1 dc dc w') ?_;rintro _ _ ⟨g,a,n,c,L,rfl,rfl,hs,hc⟩;exact⟨[.hp g],⟨g,a,n,c,rfl,rfl,L,hs,hc,by
  rcases K8 L.length 2 with h | h
  ·omega
  ·have:=hc.ge om;have h2:Bs ^ 1<=Bs ^ (L.length - 1):=I4 (by unfold Bs;omega) om;unfold Bs at *;exfalso
   have:Int.natAbs 1=1:=rfl;omega⟩,pk [0,2]⟩
def iH (y:Nat):Nat:=if y=0 then 1 else y
theorem tL {h0:Hp} {n1:Bool} {a1:Option Addr} {k1 c1:Nat} {a2:Option Addr} {k2 c2:Nat} {x y:Nat} (w:World) (hin:h0.In w) (hr0:JC h0 n1 a1 k1 c1 a2 k2 c2 x y) :
  j6 Tryz.prog 147 #[cF n1 a1 k1 c1 false a2 k2 c2] w (fD w λv cs=>∃g a n c,v=U9 false a n c/\cs = [.hp g]/\∀W,h0.le W->g.le W->mV W a n c (iH y)):=by
 have hr:=hr0.mono hin.whole;refine enterZ (cx 10) [.agg #[.bool n1,.slice a1 k1 c1,.bool false,.slice a2 k2 c2]] [.cell 2 139] Tryz.func147 ?_;intro b1 b2;refine k7 _ (λw' hm=>cD (neg:=false) w' (hr.den.mono (hm 0 _ rfl).whole).mag) ?_;refine d8 (λh1=>?_) λh1=>?_
 ·have hy:y=0:=by
   rcases w6 y with h | h
   ·exact h
   ·rw[if_neg om,if_neg dc] at h1;exact absurd h1 dc
  refine call (λw' hm=>CH w') ?_;rintro _ _ ⟨g,a,n,c,rfl,rfl,hg⟩;exact⟨[.hp g],⟨g,a,n,c,rfl,rfl,λW _ hW=>by unfold iH;rw[if_pos hy];exact hg.mono hW⟩,pk [0,3]⟩
 ·have hy:y≠0:=λe=>by rw[if_pos e] at h1;exact h1 rfl
  exact⟨[.hp Hp.emp],⟨Hp.emp,a2,k2,c2,rfl,rfl,λW hW _=>by unfold iH;rw[if_neg hy];exact hr0.den.mono hW⟩,λw' h=>Ok.emp (h.pick [0] rfl rfl)⟩
theorem ES (m:Nat):aG false m=(m:Int):=rfl
theorem xL {n1:Bool} {a1:Option Addr} {k1 c1:Nat} {a2:Option Addr} {k2 c2:Nat} {x y:Nat} (w:World) (hr:JC (Hp.whole w) n1 a1 k1 c1 a2 k2 c2 x y) :
  j6 Tryz.prog 149 #[cF n1 a1 k1 c1 false a2 k2 c2] w (v7 w (.bool (decide (iH y=1)))):=by
 refine enterZ (cx 14) [.agg #[.bool n1,.slice a1 k1 c1,.bool false,.slice a2 k2 c2]] [.tmp 2] Tryz.func149 ?_;intro b1;refine s6.cut Unit (λ_=>[(2,.v (.bool (decide (iH y=1))))]) (λ_=>[.hp (Hp.whole w)]) (λ_=>True) (s6.by_order cQ (.take 0 <| .take 1 <| .run 2 <| .take 3 <| .take 4 <| .take 5 <| .take 6 <| .run 7 <| .run 8 <| .take 9 <| .take 10 <| .take 11 <| .done) kr ?_) ?_
 ·refine k7 _ (λw' hm=>cD (neg:=false) w' (hr.den.mono (hm 0 _ rfl).whole).mag) ?_;refine⟨sK,?_⟩;refine d8 (λh1=>?_) λh1=>?_
  ·have hy:y=0:=by
    rcases w6 y with h | h
    ·exact h
    ·rw[if_neg om,if_neg dc] at h1;exact absurd h1 dc
   (iterate 2 refine⟨sK,?_⟩);subst hy;exact⟨(),trivial,v6.mk (pj [0]) rfl rfl⟩
  ·have hy:y≠0:=λe=>by rw[if_pos e] at h1;exact h1 rfl
   refine call (λw' hm=>CH w') ?_;rintro _ _ ⟨g,a,n,c,rfl,rfl,hg⟩;refine⟨sK,?_⟩;obtain⟨L1,p1,p2,p3⟩:=hg;obtain⟨L2,q1,q2,q3⟩:=hr.den;refine k7 _ (λw' hm=>cU (g1:=false) (g2:=false) w' (q1.mono (j7 _) (hm 0 _ rfl).whole) (p1.mono (j7 _) (hm 2 _ rfl).whole) q2 p2 om om nofun nofun) ?_;refine⟨sK,?_⟩;have e:decide (iC (aG false y) (aG false 1)=0)=decide (iH y=1):=by
    rw[decide_eq_decide];rw[ES,ES];unfold iC iH;rw[if_neg hy];split
    ·omega
    ·split <;> omega
   refine⟨(),trivial,v6.mk (pj [0]) ?_ rfl⟩;rw[<-e];rfl
 rintro _ _ _;exact⟨[],⟨rfl,rfl⟩,pk [0]⟩
theorem HS {g:Bool} {x d:Nat}:aG ((!(g==false)) && decide (0 < x*d)) (x*d)=aG g x*d:=by
 cases g with
 | false=>show ((x*d:Nat):Int)=(x:Int)*d;rw[Int.natCast_mul]
 | true=>
  rcases w6 (x*d) with h | h
  ·rw[h];show (0:Int) = -(x:Int)*d
   rw[Int.neg_mul,<-Int.natCast_mul,h];rfl
  ·rw[decide_eq_true h];show -((x*d:Nat):Int) = -(x:Int)*d
   rw[Int.neg_mul,Int.natCast_mul]
theorem ZX {a b:Int} {d e:Nat} (hd:d=1) (he:e=1):iC a b=iC (a*e) (b*d):=by subst hd he;rw[show ((1:Nat):Int)=1 from rfl,Int.mul_one,Int.mul_one]
set_option maxRecDepth 10000 in
theorem cS {m1 m2:Bool} {a1 a2 a3 a4:Option Addr} {k1 c1 k2 c2 k3 c3 k4 c4 x1 y1 x2 y2:Nat} (w:World) (h1:JC (Hp.whole w) m1 a1 k1 c1 a2 k2 c2 x1 y1) (h2:JC (Hp.whole w) m2 a3 k3 c3 a4 k4 c4 x2 y2) :
  j6 Tryz.prog 128 #[cF m1 a1 k1 c1 false a2 k2 c2,cF m2 a3 k3 c3 false a4 k4 c4] w (v7 w (iQ (iC (aG m1 x1*iH y2) (aG m2 x2*iH y1)))):=by
 have hy :∀{y},decide (iH y=1)=false->True:=λ_=>trivial;obtain⟨L1,p1,p2,p3⟩:=h1.num;obtain⟨L3,q1,q2,q3⟩:=h2.num;refine enterZ (cx 27) [.agg #[.bool m1,.slice a1 k1 c1,.bool false,.slice a2 k2 c2],.agg #[.bool m2,.slice a3 k3 c3,.bool false,.slice a4 k4 c4]] [.tmp 4] Tryz.func128 ?_;intro b2 b3;refine k7 _ (λw' hm=>xL w' (h1.mono (hm 0 _ rfl).whole)) ?_;refine d8 (λg1=>?_) λg1=>?_;focus
  refine k7 _ (λw' hm=>xL w' (h2.mono (hm 0 _ rfl).whole)) ?_;refine d8 (λg2=>?_) λg2=>?_
  ·refine k7 _ (λw' hm=>cU w' (p1.mono (j7 _) (hm 0 _ rfl).whole) (q1.mono (j7 _) (hm 0 _ rfl).whole) p2 q2 om om h1.sg h2.sg) ?_;exact⟨[],⟨by rw[ZX g1 g2],rfl⟩,pk [0]⟩
  focus
   skip
 rotate_left
 focus
  skip
 all_goals
  refine s6.by_order cQ (.take 0 <| .take 1 <| .take 2 <| .take 5 <| .take 6 <| .take 7 <| .run 3 <| .run 4 <| .run 8 <| .run 9 <| .run 10 <| .take 11 <| .done) kr ?_;refine call (λw' hm=>tL w' (hm 0 _ rfl) h2) ?_;rintro _ _ ⟨gd,ad,nd,cd,rfl,rfl,hg⟩;refine⟨sK,?_⟩;refine call (λw' hm=>by
   obtain⟨Ld,d1,d2,d3⟩:=hg _ (hm 0 _ rfl).whole (hm 3 _ rfl).whole;exact tJ w' (p1.mono (j7 _) (hm 0 _ rfl).whole) d1 p2 d2 p3 d3) ?_
  rintro _ _ ⟨gm,am,nm,cm,rfl,rfl,hgm⟩;refine⟨sK,?_⟩;refine call (λw' hm=>tL w' (hm 0 _ rfl) h1) ?_;rintro _ _ ⟨ge,ae,ne,ce,rfl,rfl,he⟩;refine⟨sK,?_⟩;refine call (λw' hm=>by
   obtain⟨Ld,d1,d2,d3⟩:=he _ (hm 0 _ rfl).whole (hm 5 _ rfl).whole;exact tJ w' (q1.mono (j7 _) (hm 0 _ rfl).whole) d1 q2 d2 q3 d3) ?_
  rintro _ _ ⟨gn,an,nn,cn,rfl,rfl,hgn⟩;refine⟨sK,?_⟩;refine k7 (iQ (iC (aG m1 x1*iH y2) (aG m2 x2*iH y1))) (λw' hm=>by
   obtain⟨_,_,_,Lm,e,u1,u2,u3⟩:=hgm.mono (hm 4 _ rfl).whole;cases e;obtain⟨_,_,_,Ln,e,v1,v2,v3⟩:=hgn.mono (hm 6 _ rfl).whole;cases e;have:=cU (g1:=(!(m1==false)) && decide (0 < x1*iH y2)) (g2:=(!(m2==false)) && decide (0 < x2*iH y1)) w' u1 v1 u2 v2 om om (λe=>by rw[k6,decide_eq_true_eq] at e;exact e.2) (λe=>by rw[k6,decide_eq_true_eq] at e;exact e.2);rw[HS,HS] at this;exact this) ?_
  refine⟨sK,?_⟩;exact⟨[],⟨rfl,rfl⟩,pk [0]⟩
end Go.Proofs.YtpjhmeicbjkcdaaGreatDoor
namespace Go.Proofs.YtpjhmeicbjkcdaaGreatDoor
open Go Go.RowKit Go.Dw
theorem Bi {L:List Nat} {x n:Nat} (h:fG L x) (hx:x < 10 ^ n) (hn:n<=400):L.length < 300000:=by
 rcases w6 L.length with h0 | h0
 ·omega
 ·have h1:=h.ge h0;have h2:10 ^ n<=Bs ^ n:=Nat.pow_le_pow_left (by unfold Bs;decide) n;have h3:Bs ^ (L.length - 1) < Bs ^ n:=om
  have:=(Nat.pow_lt_pow_iff_right (show 1 < Bs by unfold Bs;decide)).1 h3;omega
theorem OB {h:Hp} {a:Option Addr} {n c x m:Nat} (hm:bT h (.slice a n c) x) (hx:x < 10 ^ m) (hm4:m<=400):mV h a n c x:=by
 obtain⟨_,_,_,L,e,h1,h2,h3⟩:=hm;cases e;exact⟨L,h1,h2,Bi h2 hx hm4⟩
abbrev BP:=Bool×(Option Addr×Nat×Nat)×(Option Addr×Nat×Nat)
def fR (r:BP):List Value:=[.bool r.1,.slice r.2.1.1 r.2.1.2.1 r.2.1.2.2,.bool false,.slice r.2.2.1 r.2.2.2.1 r.2.2.2.2]
def SI (s:e8) (h:Hp) (r:BP):Prop:=∃x y,JC h r.1 r.2.1.1 r.2.1.2.1 r.2.1.2.2 r.2.2.1 r.2.2.2.1 r.2.2.2.2 x y/\aG r.1 x=dF s/\(iH y:Int)=dG s
theorem OX (s:e8):(L0 s).1.length<=s.length/\(L0 s).2.1.length<=s.length:=by
 unfold L0;split
 ·simp;omega
 ·simp
theorem TR (s:e8):(T0 s).length<=s.length:=by
 unfold T0;split
 ·simp
 ·exact k8 _
theorem QQ {s:e8} (h:I7 s=0):s.length<=400/\(T0 (L0 s).1).all l8=true/\((L0 s).2.2=true->(L0 s).2.1.all l8=true/\T8 (L0 s).2.1≠0):=by
 unfold I7 bB at h;split at h
 ·cases h
 ·rename_i h1
  split at h
  ·cases h
  ·rename_i h2
   split at h
   ·cases h
   ·rename_i h3
    have hA:dZ (T0 (L0 s).1)=true:=by
     cases hd:dZ (T0 (L0 s).1) with
     | true=>rfl
     | false=>exact absurd (by rw[hd];rfl) h2
    refine⟨om,?_,λhc=>?_⟩
    ·unfold dZ at hA;exact ((k6 _ _).mp hA).2
    ·have hB:dZ (L0 s).2.1=true:=by
      cases hd:dZ (L0 s).2.1 with
      | true=>rfl
      | false=>exact absurd (by rw[hA,hd,hc];rfl) h2
     unfold dZ at hB;have hB:=((k6 _ _).mp hB).2;refine⟨hB,λhz=>h3 ?_⟩;rw[hc,F6,z6];intro c hc2;have h0:=sX.1 hz (c.toNat - 48) (G6.2 ⟨c,hc2,rfl⟩);have:=z6.1 hB c hc2;unfold l8 at this;rw[k6,decide_eq_true_eq,decide_eq_true_eq] at this;have h48:(48:UInt8).toNat<=c.toNat:=this.1;have e48:(48:UInt8).toNat=48:=rfl;exact decide_eq_true (UInt8.toNat_inj.1 om)
theorem HG {h:Hp} {a:Option Addr} {n c x:Nat} (hm:bT h (.slice a n c) x) (hx :∃m,m<=400/\x < 10 ^ m):mV h a n c x:=by
 obtain⟨m,h4,hx⟩:=hx;exact OB hm hx h4
theorem NP {s:e8} {g:Hp} {v:Value} (h:FG 400 s g v) (hn:I7 s=0) :∃r,v=.tuple #[.agg (fR r).toArray,iQ (I7 s)]/\SI s g r:=by
 obtain⟨n1,a1,k1,c1,a2,k2,c2,x,y,hv,m1,m2,hp,h0,_⟩:=h;obtain⟨e1,e2,e3⟩:=h0 hn;obtain⟨q1,q2,q3⟩:=QQ hn;have l1:=(OX s).1;have l2:=(OX s).2;have l3:=TR (L0 s).1;refine⟨(n1,(a1,k1,c1),(a2,k2,c2)),hv,x,y,⟨HG m1 ?_,HG m2 ?_,hp⟩,?_,?_⟩
 ·rw[e2];exact⟨_,om,AD q2⟩
 ·rw[e3];split
  ·rename_i hc
   exact⟨_,om,AD (q3 hc).1⟩
  ·exact⟨0,f8 _,Nat.zero_lt_one⟩
 ·unfold dF aG;rw[e1,e2]
 ·unfold dG iH;rw[e3];by_cases hc:(L0 s).2.2=true
  ·rw[if_pos hc,if_pos hc,if_neg (q3 hc).2]
  ·rw[if_neg hc,if_neg hc];rfl
theorem KE {d:Nat} {a:Option Addr} {n c b:Nat} {L:List kV} (k:Nat) (w:World) (hc:(Hp.whole w).cell? ⟨b,0,none⟩=some (.slice a n c)) (hL:Sl (jJ d) 8 (Hp.whole w) a n c L) (hk:k < L.length) :
  j6 Tryz.prog 123 #[iQ k,pQ b] w (v7 w (sv (eB (λp:kV=>p.1) L k))):=by
 rw[aF _ _ _ hk];refine enterZ (cx 9) [iQ k,pQ b] [.tmp 3] Tryz.func123 ?_;refine lQ 0 hc ?_;refine I1 cQ (e:=74) rfl hL k rfl hk λb9 o9 cs hcs hR hcell=>?_;obtain⟨xs,rfl,hx⟩:=hR;refine lQ 0 (hcell 0 _ rfl) ?_;exact⟨[],⟨rfl,rfl⟩,pk [0]⟩
theorem QB {d:Nat} {a:Option Addr} {n c b5 b3:Nat} {L:List kV} (i:Nat) (w:World) (h5:(Hp.whole w).cell? ⟨b5,0,none⟩=some (.slice a n c)) (h3:(Hp.whole w).cell? ⟨b3,0,none⟩=some (iQ i)) (hL:Sl (jJ d) 8 (Hp.whole w) a n c L) (hi:i < L.length) (hn:L.length < 1000000) :
  j6 Tryz.prog 122 #[pQ b5,pQ b3] w (v7 w (iQ (wH ((L.take i).map (λp:kV=>p.1)) L[i].1))):=by
 have hnm:wH ((z8 i).map (eB (λp:kV=>p.1) L)) (eB (λp:kV=>p.1) L i)=wH ((L.take i).map (λp:kV=>p.1)) L[i].1:=by rw[fN _ _ _ om,aF _ _ _ hi]
 rw[<-hnm];refine enterZ (cx 6) [pQ b5,pQ b3] [.tmp 2] Tryz.func122 ?_;refine lQ 0 h3 ?_;refine k7 _ (λw' hm=>fO (K:=123) (p:=pQ b5) (nm:=eB (λp:kV=>p.1) L) i om w' (λk hk w2 h2=>KE k w2 ((h2.le (hm 0 _ rfl).whole).whole.cell h5) (hL.mono (M8 d) (h2.le (hm 0 _ rfl).whole).whole) om)) ?_;exact⟨[],⟨rfl,rfl⟩,pk [0]⟩
set_option maxRecDepth 10000 in
theorem QA {d dims:Nat} {x:Ex} {xs:List Value} {a:Option Addr} {c b6 b2:Nat} (w:World) (h6 :∀j v,xs[j]?=some v->(Hp.whole w).cell? ⟨b6,1+j,none⟩=some v) (h2:(Hp.whole w).cell? ⟨b2,3,none⟩=some (.slice a dims c)) (he:P5 d (Hp.whole w) x xs) (hx:AS x) (hd:dims < 1000000) :
  j6 Tryz.prog 124 #[pQ b6,pQ b2] w (v7 w (iQ (pL dims x))):=by
 match d,he with
 | d+1,he=>
 obtain⟨op,f,fac,args⟩:=x;have he':=he;obtain⟨a2,n2,c2,a1,n1,c1,rfl,_⟩:=he;refine enterZ (cx 9) [pQ b6,pQ b2] [.tmp 2] Tryz.func124 ?_;refine T7 cQ (i:=0) rfl h6 rfl ?_;refine lQ 0 h2 ?_;refine k7 _ (λw' hm=>mT w' hd hx (q7 _ _ _ _ _ (hm 0 _ rfl).whole he')) ?_;exact⟨[],⟨rfl,rfl⟩,pk [0]⟩
def JI (s:e8) (h:Hp) (A:List BP):Prop:=(s = []/\A = [])\/(s≠[]/\∃r,A = [r]/\SI s h r)
theorem JI.mono {s:e8} {h k:Hp} {A:List BP} (hl:h.le k):JI s h A->JI s k A
 | .inl e=>.inl e
 | .inr ⟨e,r,h1,x,y,h2,h3,h4⟩=>.inr ⟨e,r,h1,x,y,h2.mono hl,h3,h4⟩
theorem fL {a b:Int}:iC a b > 0↔b < a:=by
 unfold iC;split
 ·omega
 ·split <;> omega
set_option maxRecDepth 10000 in
theorem PZ {b7:Nat} {a:Option Addr} {n c:Nat} {A B:List BP} {lo hi:e8} (w:World) (h7:(Hp.whole w).cell? ⟨b7,0,none⟩=some (.slice a n c)) (hL:Sl (B0 fR) 4 (Hp.whole w) a n c (A++B)) (hA:JI lo (Hp.whole w) A) (hB:JI hi (Hp.whole w) B) :
  j6 Tryz.prog 127 #[pQ b7] w (v7 w (iQ (if (lo≠[]/\hi≠[])/\dF hi*dG lo < dF lo*dG hi then 8 else 0))):=by
 have hlen:=hL.len;refine enterZ (cx 15) [pQ b7] [.tmp 1] Tryz.func127 ?_;refine s6.cut Bool (λq=>[(1,.v (iQ 0)),(14,.v (.bool q))]) (λ_=>[.hp (Hp.whole w)]) (λq=>q=true↔((lo≠[]/\hi≠[])/\dF hi*dG lo < dF lo*dG hi)) (s6.by_order cQ (.take 0 <| .take 1 <| .take 2 <| .take 3 <| .take 4 <| .take 5 <| .take 6 <| .take 7 <| .take 8 <| .take 9 <| .run 10 <| .take 11 <| .take 12 <| .done) kr ?_) ?_
 ·refine lQ 0 h7 ?_;refine d8 (λh1=>?_) λh1=>?_
  ·obtain⟨hlo,r,hAr,x1,y1,r1,r2,r3⟩:lo≠[]/\∃r,A = [r]/\SI lo (Hp.whole w) r:=by
    rcases hA with ⟨_,e⟩ | e
    ·rcases hB with ⟨_,e2⟩ | ⟨_,r,e2,_⟩
     ·subst e e2;simp at hlen;omega
     ·subst e e2;simp at hlen;omega
    ·exact e
   obtain⟨hhi,u,hBu,x2,y2,u1,u2,u3⟩:hi≠[]/\∃r,B = [r]/\SI hi (Hp.whole w) r:=by
    rcases hB with ⟨_,e⟩ | e
    ·subst e hAr;simp at hlen;omega
    ·exact e
   subst hAr hBu;refine lQ 0 h7 ?_;refine I1 cQ (e:=141) rfl hL 0 rfl sQ λb9 o9 cs hcs hR hcell2=>?_;have hR:cs=fR r:=hR;subst hR;refine T7 cQ (i:=0) rfl hcell2 rfl ?_;refine lQ 0 h7 ?_;refine I1 cQ (e:=141) rfl hL 1 rfl sQ λb9 o9 cs hcs hR hcell3=>?_;have hR:cs=fR u:=hR;subst hR;refine T7 cQ (i:=0) rfl hcell3 rfl ?_;refine k7 _ (λw' hm=>cS w' (r1.mono (hm 0 _ rfl).whole) (u1.mono (hm 0 _ rfl).whole)) ?_;rw[r2,r3,u2,u3];refine⟨sK,?_⟩;refine⟨decide (iC (dF lo*dG hi) (dF hi*dG lo) > 0),?_,v6.mk (pj [0]) rfl rfl⟩;rw[decide_eq_true_eq,fL];exact⟨λg=>⟨⟨hlo,hhi⟩,g⟩,λg=>g.2⟩
  ·refine⟨sK,?_⟩;refine⟨false,⟨λg=>(H0 g).elim,λg=>?_⟩,v6.mk (pj [0]) rfl rfl⟩;obtain⟨⟨g1,g2⟩,_⟩:=g;rcases hA with ⟨e,_⟩ | ⟨_,r,e,_⟩
   ·exact absurd e g1
   ·rcases hB with ⟨e2,_⟩ | ⟨_,u,e2,_⟩
    ·exact absurd e2 g2
    ·subst e e2;exact absurd hlen (by simp;omega)
 rintro q hq hsat;dsimp only;refine s8 (λh4=>?_) λh4=>?_
 ·rw[if_pos (hq.1 h4)];exact⟨[],⟨rfl,rfl⟩,pk [0]⟩
 ·rw[if_neg (λg=>by rw[hq.2 g] at h4;cases h4)];exact⟨[],⟨rfl,rfl⟩,pk [0]⟩
end Go.Proofs.YtpjhmeicbjkcdaaGreatDoor
namespace Go.Proofs.YtpjhmeicbjkcdaaGreatDoor
open Go Go.RowKit Go.Dw
theorem yI {s:e8} {g:Hp} {v:Value} (h:FG 400 s g v) :∃r,v=.tuple #[.agg (fR r).toArray,iQ (I7 s)]/\(I7 s=0->SI s g r):=by
 by_cases hn:I7 s=0
 ·obtain⟨r,h1,h2⟩:=NP h hn;exact⟨r,h1,λ_=>h2⟩
 ·obtain⟨n1,a1,k1,c1,a2,k2,c2,x,y,hv,_⟩:=h;exact⟨(n1,(a1,k1,c1),(a2,k2,c2)),hv,λe=>absurd e hn⟩
theorem J3 (b:Nat) {cs:List Value} (T:Nat) {j:Nat} {v:Value} (h:cs[j]?=some v):(Ch.box b cs T).h.cell? ⟨b,j,none⟩=some v:=by simp[Hp.cell?,Ch.h,Hp.one,h]
theorem Av {s:e8} {h:Hp} {A:List BP} (hA:JI s h A):A.length<=1:=by
 rcases hA with ⟨_,e⟩ | ⟨_,r,e,_⟩ <;> subst e <;> simp
structure XS (r:kV):Prop where
 ex:AS r.2.1
 lo:r.2.2.1.length < 1000000
 hi:r.2.2.2.length < 1000000
set_option maxRecDepth 20000 in
set_option maxHeartbeats 1000000 in
theorem kT {d:Nat} {nm0:e8} {a1 a2 a3 a4 a5:Option Addr} {n1 c1 n2 c2 n3 c3 n4 c4 n5 c5:Nat} {L:List kV} (i:Nat) (w:World) (hL:Sl (jJ d) 8 (Hp.whole w) a5 n5 c5 L) (hn:L.length < 1000000) (hi:i < L.length) (hs :∀p∈L,XS p) (hd:n3 < 1000000) :
  j6 Tryz.prog 55 #[.agg #[sv nm0,.slice a1 n1 c1,.slice a2 n2 c2,.slice a3 n3 c3,.slice a4 n4 c4,.slice a5 n5 c5],iQ i] w (v7 w (iQ (RA L (·.1) (wE n3) i))):=by
 rw[rW hi];obtain⟨r,hr⟩ :∃r,r=L[i]:=⟨_,rfl⟩
 have hrs:XS r:=hs r (by rw[hr];exact j0 hi);rw[<-hr];have hE0:wE n3 r=oE (pL n3 r.2.1) (oE (if r.2.2.1 = [] then 0 else I7 r.2.2.1) (oE (if r.2.2.2 = [] then 0 else I7 r.2.2.2) (if (r.2.2.1≠[]/\r.2.2.2≠[])/\dF r.2.2.2*dG r.2.2.1 < dF r.2.2.1*dG r.2.2.2 then 8 else 0))):=rfl;obtain⟨nm,x,lo,hb⟩:=r;obtain⟨hx,hlo,hhi⟩:=hrs;dsimp only at hx hlo hhi hE0 ⊢;rw[hE0];match d,hL with
 | 0,hL=>
  obtain⟨_,_,_,_,_,hR,_⟩:=hL.cells i hi;obtain⟨_,_,hR⟩:=hR;exact hR.elim
 | d+1,hL=>
 obtain⟨op,f,fac,args⟩:=x;have hnm1:L[i].1=nm:=by rw[<-hr]
 refine enterZ (cx 24) [.agg #[sv nm0,.slice a1 n1 c1,.slice a2 n2 c2,.slice a3 n3 c3,.slice a4 n4 c4,.slice a5 n5 c5],iQ i] [.tmp 4] Tryz.func55 ?_;intro b2 b3;refine s6.cut (Nat×Nat×(Option Addr×Nat×Nat)×(Option Addr×Nat×Nat)) (λg=>[(2,.bx 1 0),(3,.bx 2 0),(5,.bx 3 0),(6,.bx 4 0)]) (λg=>[.hp (Hp.whole w),.box b2 [sv nm0,.slice a1 n1 c1,.slice a2 n2 c2,.slice a3 n3 c3,.slice a4 n4 c4,.slice a5 n5 c5] 30,.box b3 [iQ i] 3,.box g.1 [.slice a5 n5 c5] 28,
   .box g.2.1 [sv nm,iQ op,sv f.1,.slice g.2.2.1.1 g.2.2.1.2.1 g.2.2.1.2.2,sv fac,.slice g.2.2.2.1 g.2.2.2.2.1 g.2.2.2.2.2,sv lo,sv hb] 74])
  (λg=>P5 (d+1) (Hp.whole w) (.mk op f fac args) [iQ op,sv f.1,.slice g.2.2.1.1 g.2.2.1.2.1 g.2.2.1.2.2,sv fac,.slice g.2.2.2.1 g.2.2.2.2.1 g.2.2.2.2.2]) (s6.by_order cQ (.take 0 <| .take 1 <| .take 2 <| .take 3 <| .take 4 <| .take 5 <| .take 6 <| .two 7 (.run 8 <| .run 9 <| .run 10 <| .done) 8 (.run 7 <| .run 9 <| .run 10 <| .done)) kr ?_) ?_
 ·refine I1 cQ (e:=74) rfl hL i rfl hi λb9 o9 cs hcs hR hcell1=>?_;rw[<-hr] at hR;obtain⟨xs,rfl,hxe⟩:=hR;have hxe2:=hxe;obtain⟨p1,p2,p3,q1,q2,q3,rfl,_⟩:=hxe;refine T7 cQ (i:=0) rfl hcell1 rfl ?_;constructor
  ·intro b5;refine⟨sK,?_⟩;intro b6;(iterate 2 refine⟨sK,?_⟩);exact⟨(b5,b6,(p1,p2,p3),(q1,q2,q3)),hxe2,v6.mk (pj [0,1,2,3,4]) rfl rfl⟩
  ·intro b6;refine⟨sK,?_⟩;intro b5;(iterate 2 refine⟨sK,?_⟩);exact⟨(b5,b6,(p1,p2,p3),(q1,q2,q3)),hxe2,v6.mk (pj [0,1,2,4,3]) rfl rfl⟩
 rintro⟨b5,b6,⟨p1,p2,p3⟩,q1,q2,q3⟩ hxe hsat;dsimp only at hxe ⊢;intro b7 b8 b9;refine enterFZ (cx 18) [.slice (some ⟨b9,0,none⟩) 5 5] [.tmp 2] Tryz.func37 ?_;refine u6.mk (Nat×Dw.Os×List BP×List BP×Hp×Hp) (λg=>[(6,.v (.slice (some ⟨b9,0,none⟩) 5 5)),(7,.v (iQ 5)),(8,.v (iQ g.1))])
  (λg=>[.hp (Hp.whole w),.box b2 [sv nm0,.slice a1 n1 c1,.slice a2 n2 c2,.slice a3 n3 c3,.slice a4 n4 c4,.slice a5 n5 c5] 30,.box b3 [iQ i] 3,.box b5 [.slice a5 n5 c5] 28,
   .box b6 [sv nm,iQ op,sv f.1,.slice p1 p2 p3,sv fac,.slice q1 q2 q3,sv lo,sv hb] 74,
   .box b7 [g.2.1.v] 192,.box b8 [.func (.func 120) #[] #[pQ b7]] 181,
   .box b9 [.func (.func 122) #[] #[pQ b5,pQ b3],.func (.func 124) #[] #[pQ b6,pQ b2],.func (.func 125) #[] #[pQ b8,pQ b6],.func (.func 126) #[] #[pQ b8,pQ b6],.func (.func 127) #[] #[pQ b7]] 106,
   .hp g.2.1.h,.hp g.2.2.2.2.1,.hp g.2.2.2.2.2])
  (λg=>g.1<=5/\w8 fR 141 4 g.2.1 (g.2.2.1++g.2.2.2.1)/\(g.1<=2->g.2.2.1 = [])/\(g.1<=3->g.2.2.2.1 = [])/\(2 < g.1->JI lo g.2.2.2.2.1 g.2.2.1)/\(3 < g.1->JI hb g.2.2.2.2.2 g.2.2.2.1)/\
   (0 < g.1->wH ((L.take i).map (λp:kV=>p.1)) nm=0)/\(1 < g.1->pL n3 (.mk op f fac args)=0)/\(2 < g.1->(if lo = [] then 0 else I7 lo)=0)/\(3 < g.1->(if hb = [] then 0 else I7 hb)=0)/\(4 < g.1->(if (lo≠[]/\hb≠[])/\dF hb*dG lo < dF lo*dG hb then (8:Int) else 0)=0))
  (λg=>5 - g.1) (0,Dw.Os.nil,[],[],Hp.emp,Hp.emp) ⟨dc,w8.nil _ _ _,λ_=>rfl,λ_=>rfl,λh=>by simp at h,λh=>by simp at h,λh=>by simp at h,λh=>by simp at h,λh=>by simp at h,λh=>by simp at h,λh=>by simp at h⟩
  (v6.mk (λ_ _ h=>Ok.emp (Ok.emp (Ok.emp h))) rfl rfl) ?_
 rintro⟨k,o,A,B,h1,h2⟩ ⟨hk,ho,hA,hB,hPA,hPB,z0,z1,z2,z3,z4⟩;dsimp only at hk ho hA hB hPA hPB z0 z1 z2 z3 z4 ⊢;match k,hk with
 | 0,_=>
  refine dB cQ (e:=106) rfl rfl 0 0 rfl dc rfl ?_;refine lR 7 0 ?_;refine k7 _ (λw' hm=>QB i w' ((hm 3 _ rfl).whole.cell (bP b5 _ _)) ((hm 2 _ rfl).whole.cell (bP b3 _ _)) (hL.mono (M8 _) (hm 0 _ rfl).whole) hi hn) ?_;rw[hnm1];refine d8 (λe1=>?_) λe1=>?_
  ·rw[gS e1];exact⟨⟨rfl,rfl,rfl,rfl,rfl,rfl,rfl,trivial⟩,[],⟨rfl,rfl⟩,pk [0]⟩
  ·have e1:=j9 e1;refine nw dc dc ?_;exact⟨(1,o,A,B,h1,h2),⟨sQ,ho,λ_=>hA dc,λ_=>hB dc,λh=>by simp at h,λh=>by simp at h,λ_=>e1,λh=>by simp at h,λh=>by simp at h,λh=>by simp at h,λh=>by simp at h⟩,by dsimp only;omega,v6.mk (pj [0,1,2,3,4,5,6,7,8,9,10]) rfl rfl⟩
 | 1,_=>
  refine dB cQ (e:=106) rfl rfl 1 1 rfl dc rfl ?_;refine lR 7 1 ?_;have y0:=z0 dc;rw[y0,P7];refine k7 _ (λw' hm=>QA (d:=d+1) w' (λj v hj=>(hm 4 _ rfl).whole.cell (J3 b6 _ (by
   match j,hj with
   | 0,hj=>exact hj
   | 1,hj=>exact hj
   | 2,hj=>exact hj
   | 3,hj=>exact hj
   | 4,hj=>exact hj))) ((hm 1 _ rfl).whole.cell (J3 b2 _ rfl)) (q7 _ _ _ _ _ (hm 0 _ rfl).whole hxe) hx hd) ?_
  refine d8 (λe1=>?_) λe1=>?_
  ·rw[gS e1];exact⟨⟨rfl,rfl,rfl,rfl,rfl,rfl,rfl,trivial⟩,[],⟨rfl,rfl⟩,pk [0]⟩
  ·have e1:=j9 e1;refine nw dc dc ?_;exact⟨(2,o,A,B,h1,h2),⟨sQ,ho,λ_=>hA dc,λ_=>hB dc,λh=>by simp at h,λh=>by simp at h,λ_=>by first | rfl | exact z0 dc,λ_=>e1,λh=>by simp at h,λh=>by simp at h,λh=>by simp at h⟩,by dsimp only;omega,v6.mk (pj [0,1,2,3,4,5,6,7,8,9,10]) rfl rfl⟩
 | 2,_=>
  refine dB cQ (e:=106) rfl rfl 2 2 rfl dc rfl ?_;refine lR 7 2 ?_;have y0:=z0 dc;rw[y0,P7];have y1:=z1 dc;rw[y1,P7];have hA0:=hA dc;have hB0:=hB dc;subst hA0 hB0;refine enterFZ (cx 7) [pQ b8,pQ b6] [.tmp 2] Tryz.func125 ?_;refine lR 6 0 ?_;refine lR 4 6 ?_;refine enterFZ (cx 18) [sv lo,pQ b7] [.tmp 3] Tryz.func120 ?_;refine W8 (b:=[]) ?_;refine d8 (λe1=>?_) λe1=>?_
  ·refine⟨⟨rfl,rfl,rfl,rfl,rfl,rfl,rfl,trivial⟩,?_⟩;refine⟨⟨rfl,rfl,rfl,rfl,rfl,rfl,rfl,trivial⟩,?_⟩;refine nw dc dc ?_;exact⟨(3,o,[],[],h1,h2),⟨sQ,ho,λh=>by simp at h,λ_=>rfl,λ_=>.inl ⟨e1,rfl⟩,λh=>by simp at h,λ_=>by first | rfl | exact z0 dc,λ_=>by first | rfl | exact z1 dc,λ_=>if_pos e1,λh=>by simp at h,λh=>by simp at h⟩,by dsimp only;omega,v6.mk (pj [0,1,2,3,4,5,6,7,8,9,10]) rfl rfl⟩
  ·refine call (λw' hm=>R3 lo hlo w') ?_;rintro _ _ ⟨g,rfl,hr2⟩;obtain⟨⟨m1,⟨u1,u2,u3⟩,v1,v2,v3⟩,rfl,hrS⟩:=yI hr2;intro b4;refine lR 5 0 ?_;intro b41;refine gF (f:=fR) cQ (e:=141) rfl (i:=8) rfl ho (j:=13) ((m1,(u1,u2,u3),v1,v2,v3):BP) rfl rfl rfl rfl dc λo2 ho2=>?_;refine fI cQ (i:=5) (j:=0) rfl rfl rfl sQ rfl rfl ?_;(iterate 2 refine⟨⟨rfl,rfl,rfl,rfl,rfl,rfl,rfl,trivial⟩,?_⟩);refine d8 (λe2=>?_) λe2=>?_
   ·rw[if_neg e1,gS e2];exact⟨⟨rfl,rfl,rfl,rfl,rfl,rfl,rfl,trivial⟩,[],⟨rfl,rfl⟩,pk [0]⟩
   ·have e2:=j9 e2;refine nw dc dc ?_;exact⟨(3,o2,[(m1,(u1,u2,u3),v1,v2,v3)],[],g,h2),⟨sQ,by simpa using ho2,λh=>by simp at h,λ_=>rfl,λ_=>.inr ⟨e1,_,rfl,hrS e2⟩,λh=>by simp at h,λ_=>by first | rfl | exact z0 dc,λ_=>by first | rfl | exact z1 dc,λ_=>by rw[if_neg e1];exact e2,λh=>by simp at h,λh=>by simp at h⟩,by dsimp only;omega,v6.mk (pj [0,1,2,3,4,5,6,7,8,11,10]) rfl rfl⟩
 | 3,_=>
  refine dB cQ (e:=106) rfl rfl 3 3 rfl dc rfl ?_;refine lR 7 3 ?_;have y0:=z0 dc;rw[y0,P7];have y1:=z1 dc;rw[y1,P7];have y2:=z2 dc;rw[y2,P7];have hB0:=hB dc;subst hB0;have hPA0:=hPA dc;refine enterFZ (cx 7) [pQ b8,pQ b6] [.tmp 2] Tryz.func126 ?_;refine lR 6 0 ?_;refine lR 4 7 ?_;refine enterFZ (cx 18) [sv hb,pQ b7] [.tmp 3] Tryz.func120 ?_;refine W8 (b:=[]) ?_;refine d8 (λe1=>?_) λe1=>?_
  ·refine⟨⟨rfl,rfl,rfl,rfl,rfl,rfl,rfl,trivial⟩,?_⟩;refine⟨⟨rfl,rfl,rfl,rfl,rfl,rfl,rfl,trivial⟩,?_⟩;refine nw dc dc ?_;exact⟨(4,o,A,[],h1,h2),⟨sQ,ho,λh=>by simp at h,λh=>by simp at h,λ_=>hPA0,λ_=>.inl ⟨e1,rfl⟩,λ_=>by first | rfl | exact z0 dc,λ_=>by first | rfl | exact z1 dc,λ_=>by first | rfl | exact z2 dc,λ_=>if_pos e1,λh=>by simp at h⟩,by dsimp only;omega,v6.mk (pj [0,1,2,3,4,5,6,7,8,9,10]) rfl rfl⟩
  ·refine call (λw' hm=>R3 hb hhi w') ?_;rintro _ _ ⟨g,rfl,hr2⟩;obtain⟨⟨m1,⟨u1,u2,u3⟩,v1,v2,v3⟩,rfl,hrS⟩:=yI hr2;intro b4;refine lR 5 0 ?_;intro b41;refine gF (f:=fR) cQ (e:=141) rfl (i:=8) rfl ho (j:=13) ((m1,(u1,u2,u3),v1,v2,v3):BP) rfl rfl rfl rfl (by have:=Av hPA0;simp;omega) λo2 ho2=>?_;refine fI cQ (i:=5) (j:=0) rfl rfl rfl sQ rfl rfl ?_;(iterate 2 refine⟨⟨rfl,rfl,rfl,rfl,rfl,rfl,rfl,trivial⟩,?_⟩);refine d8 (λe2=>?_) λe2=>?_
   ·rw[if_neg e1,gS e2];exact⟨⟨rfl,rfl,rfl,rfl,rfl,rfl,rfl,trivial⟩,[],⟨rfl,rfl⟩,pk [0]⟩
   ·have e2:=j9 e2;refine nw dc dc ?_;exact⟨(4,o2,A,[(m1,(u1,u2,u3),v1,v2,v3)],h1,g),⟨sQ,by simpa using ho2,λh=>by simp at h,λh=>by simp at h,λ_=>hPA0,λ_=>.inr ⟨e1,_,rfl,hrS e2⟩,λ_=>by first | rfl | exact z0 dc,λ_=>by first | rfl | exact z1 dc,λ_=>by first | rfl | exact z2 dc,λ_=>by rw[if_neg e1];exact e2,λh=>by simp at h⟩,by dsimp only;omega,v6.mk (pj [0,1,2,3,4,5,6,7,8,9,11]) rfl rfl⟩
 | 4,_=>
  refine dB cQ (e:=106) rfl rfl 4 4 rfl dc rfl ?_;refine lR 7 4 ?_;have y0:=z0 dc;rw[y0,P7];have y1:=z1 dc;rw[y1,P7];have y2:=z2 dc;rw[y2,P7];have y3:=z3 dc;rw[y3,P7];have hPA0:=hPA dc;have hPB0:=hPB dc;refine k7 _ (λw' hm=>PZ w' ((hm 5 _ rfl).whole.cell (bP b7 _ _)) ((w8.sl (f:=fR) (sz:=4) (λ_=>rfl) dc ho).mono (j7 _) (hm 8 _ rfl).whole) (hPA0.mono (hm 9 _ rfl).whole) (hPB0.mono (hm 10 _ rfl).whole)) ?_;refine d8 (λe1=>?_) λe1=>?_
  ·exact⟨⟨rfl,rfl,rfl,rfl,rfl,rfl,rfl,trivial⟩,[],⟨rfl,rfl⟩,pk [0]⟩
  ·have e1:=j9 e1;refine nw dc dc ?_;exact⟨(5,o,A,B,h1,h2),⟨sQ,ho,λh=>by simp at h,λh=>by simp at h,λ_=>hPA0,λ_=>hPB0,λ_=>by first | rfl | exact z0 dc,λ_=>by first | rfl | exact z1 dc,λ_=>by first | rfl | exact z2 dc,λ_=>by first | rfl | exact z3 dc,λ_=>e1⟩,by dsimp only;omega,v6.mk (pj [0,1,2,3,4,5,6,7,8,9,10]) rfl rfl⟩
 | 5,_=>
  have y0:=z0 dc;have y1:=z1 dc;have y2:=z2 dc;have y3:=z3 dc;have y4:=z4 dc;rw[y0,P7,y1,P7,y2,P7,y3,P7,y4];exact⟨⟨rfl,rfl,rfl,rfl,rfl,rfl,rfl,trivial⟩,[],⟨rfl,rfl⟩,pk [0]⟩
end Go.Proofs.YtpjhmeicbjkcdaaGreatDoor
namespace Go.Proofs.YtpjhmeicbjkcdaaGreatDoor
open Go Go.RowKit Go.Dw
structure SJ (p:jL):Prop where
 nm:p.nm.length < 1000000
 np:p.parts.length < 1000000
 ni:p.insts.length < 1000000
 nd:p.dims.length < 1000000
 nc:p.cons.length < 1000000
 nr:p.reqs.length < 1000000
 sp :∀x∈p.parts,MS x
 si :∀x∈p.insts,Br x
 sc :∀x∈p.cons,AR x.2
 sr :∀x∈p.reqs,XS x
theorem SB {b:Nat} {a1 a2:Option Addr} {n1 c1 n2 c2:Nat} {P:List W3} (w:World) (hc :∀j v,[Value.slice a1 n1 c1,.slice a2 n2 c2][j]?=some v->(Hp.whole w).cell? ⟨b,j,none⟩=some v) (hP:Sl bN 3 (Hp.whole w) a1 n1 c1 P) (hn:P.length < 1000000) (hs :∀x∈P,MS x) :
  j6 Tryz.prog 38 #[pQ b] w (v7 w (iQ (bC 64 P (·.1) wF))):=by
 have hlen:=hP.len;rw[rU,<-hlen];refine enterZ (cx 7) [pQ b] [.tmp 1] Tryz.func38 ?_;refine lQ 0 (hc 0 _ rfl) ?_;refine k7 _ (λw' hm=>jI (K:=40) (p:=pQ b) (f:=RA P (λp:W3=>p.1) wF) n1 64 om dc w' (λk hk w2 h2=>?_)) ?_
 ·have hc2:=(h2.le (hm 0 _ rfl).whole).whole;refine enterZ (cx 8) [iQ k,pQ b] [.tmp 3] Tryz.func40 ?_;refine lQ 0 (hc2.cell (hc 0 _ rfl)) ?_;refine k7 _ (λw3 h3=>AH k w3 (hP.mono I9 (λ_ _ e=>(h3 0 _ rfl).whole _ _ (hc2 _ _ e))) hn om hs) ?_;exact⟨[],⟨rfl,rfl⟩,pk [0]⟩
 ·exact⟨[],⟨rfl,rfl⟩,pk [0]⟩
theorem SA {b:Nat} {a1 a2:Option Addr} {n1 c1 n2 c2:Nat} {P:List W3} {L:List mX} (w:World) (hc :∀j v,[Value.slice a1 n1 c1,.slice a2 n2 c2][j]?=some v->(Hp.whole w).cell? ⟨b,j,none⟩=some v) (hP:Sl bN 3 (Hp.whole w) a1 n1 c1 P) (hL:Sl (B0 dM) 9 (Hp.whole w) a2 n2 c2 L) (hpn:P.length < 1000000) (hn:L.length < 1000000) (hs :∀x∈L,Br x) :
  j6 Tryz.prog 42 #[pQ b] w (v7 w (iQ (bC 12 L (·.1) (wL (P.map (λp:W3=>p.1)))))):=by
 have hlen:=hL.len;rw[rU,<-hlen];refine enterZ (cx 7) [pQ b] [.tmp 1] Tryz.func42 ?_;refine lQ 0 (hc 1 _ rfl) ?_;refine k7 _ (λw' hm=>jI (K:=43) (p:=pQ b) (f:=RA L (λp:mX=>p.1) (wL (P.map (λp:W3=>p.1)))) n2 12 om dc w' (λk hk w2 h2=>?_)) ?_
 ·have hc2:=(h2.le (hm 0 _ rfl).whole).whole;refine enterZ (cx 7) [iQ k,pQ b] [.tmp 3] Tryz.func43 ?_;refine T7 cQ (i:=0) rfl (cs:=[Value.slice a1 n1 c1,.slice a2 n2 c2]) (λj v hj=>by rw[y8];exact hc2.cell (hc j v hj)) rfl ?_;refine k7 _ (λw3 h3=>pZ k w3 (hP.mono I9 (λ_ _ e=>(h3 0 _ rfl).whole _ _ (hc2 _ _ e))) (hL.mono (j7 _) (λ_ _ e=>(h3 0 _ rfl).whole _ _ (hc2 _ _ e))) hpn hn om hs) ?_;exact⟨[],⟨rfl,rfl⟩,pk [0]⟩
 ·exact⟨[],⟨rfl,rfl⟩,pk [0]⟩
theorem RZ {b:Nat} {a:Option Addr} {n c:Nat} {L:List S1} (w:World) (hc:(Hp.whole w).cell? ⟨b,3,none⟩=some (.slice a n c)) (hL:Sl (B0 O1) 4 (Hp.whole w) a n c L) (hn:L.length < 1000000) :
  j6 Tryz.prog 45 #[pQ b] w (v7 w (iQ (bC 64 L (·.1) wM))):=by
 have hlen:=hL.len;rw[rU,<-hlen];refine enterZ (cx 7) [pQ b] [.tmp 1] Tryz.func45 ?_;refine lQ 0 hc ?_;refine k7 _ (λw' hm=>jI (K:=46) (p:=pQ b) (f:=RA L (λp:S1=>p.1) wM) n 64 om dc w' (λk hk w2 h2=>?_)) ?_
 ·have hc2:=(h2.le (hm 0 _ rfl).whole).whole;refine enterZ (cx 8) [iQ k,pQ b] [.tmp 3] Tryz.func46 ?_;refine lQ 0 (hc2.cell hc) ?_;refine k7 _ (λw3 h3=>oJ k w3 (hL.mono (j7 _) (λ_ _ e=>(h3 0 _ rfl).whole _ _ (hc2 _ _ e))) hn om) ?_;exact⟨[],⟨rfl,rfl⟩,pk [0]⟩
 ·exact⟨[],⟨rfl,rfl⟩,pk [0]⟩
theorem MD {a:Option Addr} {n c b:Nat} {L:List kY} (k:Nat) (w:World) (hc:(Hp.whole w).cell? ⟨b,0,none⟩=some (.slice a n c)) (hL:Sl kM 3 (Hp.whole w) a n c L) (hk:k < L.length) :
  j6 Tryz.prog 51 #[iQ k,pQ b] w (v7 w (sv (eB (λp:kY=>p.1) L k))):=by
 rw[aF _ _ _ hk];refine enterZ (cx 9) [iQ k,pQ b] [.tmp 3] Tryz.func51 ?_;refine lQ 0 hc ?_;refine I1 cQ (e:=96) rfl hL k rfl hk λb9 o9 cs hcs hR hcell=>?_;obtain⟨a3,n3,c3,rfl,hs3⟩:=hR;refine lQ 0 (hcell 0 _ rfl) ?_;exact⟨[],⟨rfl,rfl⟩,pk [0]⟩
theorem ME {b:Nat} {a a3:Option Addr} {n c n3 c3:Nat} {L:List kY} (k:Nat) (w:World) (h3:(Hp.whole w).cell? ⟨b,3,none⟩=some (.slice a3 n3 c3)) (h4:(Hp.whole w).cell? ⟨b,4,none⟩=some (.slice a n c)) (hL:Sl kM 3 (Hp.whole w) a n c L) (hn:L.length < 1000000) (hk:k < L.length) (hs :∀x∈L,AR x.2) (hd:n3 < 1000000) :
  j6 Tryz.prog 49 #[iQ k,pQ b] w (v7 w (iQ (RA L (·.1) (λx=>jD n3 x.2) k))):=by
 rw[rW hk];obtain⟨d,hd'⟩ :∃d,d=L[k]:=⟨_,rfl⟩
 have hds:AR d.2:=hs d (by rw[hd'];exact j0 hk);have hnm:wH ((z8 k).map (eB (λp:kY=>p.1) L)) (eB (λp:kY=>p.1) L k)=wH ((L.take k).map (λp:kY=>p.1)) d.1:=by rw[fN _ _ _ om,aF _ _ _ hk,hd']
 rw[<-hd'];obtain⟨nm,fc,ts⟩:=d;dsimp only at hnm hds ⊢;refine enterZ (cx 23) [iQ k,pQ b] [.tmp 3] Tryz.func49 ?_;refine lQ 0 h4 ?_;intro b4;refine k7 _ (λw' hm=>fO (K:=51) (p:=pQ b4) (nm:=eB (λp:kY=>p.1) L) k om w' (λj hj w2 h2=>MD j w2 ((h2.le (hm 1 _ rfl).whole).whole.cell (bP b4 _ _)) (hL.mono S5 (h2.le (hm 0 _ rfl).whole).whole) om)) ?_;rw[hnm];refine d8 (λe1=>?_) λe1=>?_
 ·rw[gS e1];exact⟨[],⟨rfl,rfl⟩,pk [0]⟩
 have e1:=j9 e1;rw[e1,P7];refine s6.by_order cQ (.take 0 <| .take 1 <| .take 2 <| .take 3 <| .take 4 <| .take 5 <| .take 6 <| .take 7 <| .run 8 <| .take 9 <| .done) kr ?_;refine I1 cQ (e:=96) rfl hL k rfl hk λb9 o9 cs hcs hR hcell2=>?_;rw[<-hd'] at hR;have hR :∃a n c,cs = [sv nm,sv fc,.slice a n c]/\Sl (B0 U0) 2 (Hp.whole w) a n c ts:=hR;obtain⟨a5,n5,c5,rfl,hs5⟩:=hR;refine T7 cQ (i:=0) rfl (cs:=[sv fc,.slice a5 n5 c5]) (λj v hj=>by
  rw[nX];match j,hj with
  | 0,hj=>exact hcell2 1 v hj
  | 1,hj=>exact hcell2 2 v hj) rfl ?_
 refine lQ 0 h3 ?_;refine k7 _ (λw' hm=>mS (f:=(fc,ts)) n3 w' (hs5.mono (j7 _) (hm 0 _ rfl).whole) hds hd) ?_;refine⟨sK,?_⟩;exact⟨[],⟨rfl,rfl⟩,pk [0]⟩
theorem RY {b:Nat} {a a3:Option Addr} {n c n3 c3:Nat} {L:List kY} (w:World) (h3:(Hp.whole w).cell? ⟨b,3,none⟩=some (.slice a3 n3 c3)) (h4:(Hp.whole w).cell? ⟨b,4,none⟩=some (.slice a n c)) (hL:Sl kM 3 (Hp.whole w) a n c L) (hn:L.length < 1000000) (hs :∀x∈L,AR x.2) (hd:n3 < 1000000) :
  j6 Tryz.prog 48 #[pQ b] w (v7 w (iQ (bC 64 L (·.1) λx=>jD n3 x.2))):=by
 have hlen:=hL.len;rw[rU,<-hlen];refine enterZ (cx 7) [pQ b] [.tmp 1] Tryz.func48 ?_;refine lQ 0 h4 ?_;refine k7 _ (λw' hm=>jI (K:=49) (p:=pQ b) (f:=RA L (λp:kY=>p.1) (λx=>jD n3 x.2)) n 64 om dc w' (λk hk w2 h2=>by
  have hc2:=(h2.le (hm 0 _ rfl).whole).whole;exact ME k w2 (hc2.cell h3) (hc2.cell h4) (hL.mono S5 hc2) hn om hs hd)) ?_
 exact⟨[],⟨rfl,rfl⟩,pk [0]⟩
theorem RX {d b:Nat} {nm0:e8} {a1 a2 a3 a4 a5:Option Addr} {n1 c1 n2 c2 n3 c3 n4 c4 n5 c5:Nat} {L:List kV} (w:World) (hc :∀j v,[Value.string (bs nm0),.slice a1 n1 c1,.slice a2 n2 c2,.slice a3 n3 c3,.slice a4 n4 c4,.slice a5 n5 c5][j]?=some v->(Hp.whole w).cell? ⟨b,j,none⟩=some v)
  (hL:Sl (jJ d) 8 (Hp.whole w) a5 n5 c5 L) (hn:L.length < 1000000) (hs :∀x∈L,XS x) (hd:n3 < 1000000) :
  j6 Tryz.prog 53 #[pQ b] w (v7 w (iQ (bC 64 L (·.1) (wE n3)))):=by
 have hlen:=hL.len;rw[rU,<-hlen];refine enterZ (cx 7) [pQ b] [.tmp 1] Tryz.func53 ?_;refine lQ 0 (hc 5 _ rfl) ?_;refine k7 _ (λw' hm=>jI (K:=54) (p:=pQ b) (f:=RA L (λp:kV=>p.1) (wE n3)) n5 64 om dc w' (λk hk w2 h2=>?_)) ?_
 ·have hc2:=(h2.le (hm 0 _ rfl).whole).whole;refine enterZ (cx 7) [iQ k,pQ b] [.tmp 3] Tryz.func54 ?_;refine T7 cQ (i:=0) rfl (cs:=[Value.string (bs nm0),.slice a1 n1 c1,.slice a2 n2 c2,.slice a3 n3 c3,.slice a4 n4 c4,.slice a5 n5 c5]) (λj v hj=>by rw[y8];exact hc2.cell (hc j v hj)) rfl ?_;refine k7 _ (λw3 h3=>kT k w3 (hL.mono (M8 d) (λ_ _ e=>(h3 0 _ rfl).whole _ _ (hc2 _ _ e))) hn om hs hd) ?_;exact⟨[],⟨rfl,rfl⟩,pk [0]⟩
 ·exact⟨[],⟨rfl,rfl⟩,pk [0]⟩
set_option maxRecDepth 10000 in
theorem NA {d:Nat} {p:jL} {cs:List Value} (w:World) (hp:qB d (Hp.whole w) p cs) (hs:SJ p) :
  j6 Tryz.prog 12 #[.agg cs.toArray] w (v7 w (iQ (IW p))):=by
 obtain⟨a1,n1,c1,a2,n2,c2,a3,n3,c3,a4,n4,c4,a5,n5,c5,rfl,h1,h2,h3,h4,h5⟩:=hp.ex;have hl3:=h3.len;have hE:IW p=if H8 p.nm=false then 11 else oE (bC 64 p.parts (·.1) wF) (oE (bC 12 p.insts (·.1) (wL (p.parts.map (λp:W3=>p.1)))) (oE (bC 64 p.dims (·.1) wM) (oE (bC 64 p.cons (·.1) λc=>jD n3 c.2) (bC 64 p.reqs (·.1) (wE n3))))):=by rw[hl3];rfl
 rw[hE];refine enterZ (cx 17) [.agg #[sv p.nm,.slice a1 n1 c1,.slice a2 n2 c2,.slice a3 n3 c3,.slice a4 n4 c4,.slice a5 n5 c5]] [.tmp 2] Tryz.func12 ?_;intro b1;refine k7 _ (λw' hm=>dK p.nm w') ?_;refine s8 (λe1=>?_) λe1=>?_
 ·rw[Z7] at e1;rw[if_pos e1];exact⟨[],⟨rfl,rfl⟩,pk [0]⟩
 rw[iM] at e1;rw[if_neg (by rw[e1];decide)];intro b3 b15;refine k7 _ (λw' hm=>IF (e0:=bC 64 p.parts (λx:W3=>x.1) wF) (e1:=bC 12 p.insts (λx:mX=>x.1) (wL (p.parts.map (λp:W3=>p.1)))) (e2:=bC 64 p.dims (λx:S1=>x.1) wM) (e3:=bC 64 p.cons (λx:kY=>x.1) λc=>jD n3 c.2) (e4:=bC 64 p.reqs (λx:kV=>x.1) (wE n3)) w' (Sl.box (f:=Me) (λ_=>rfl) dc (hm 3 _ rfl) [.func (.func 38) #[] #[pQ b3],.func (.func 42) #[] #[pQ b3],.func (.func 45) #[] #[pQ b1],.func (.func 48) #[] #[pQ b1],.func (.func 53) #[] #[pQ b1]] rfl rfl sQ)
  (λw2 g=>?_) (λw2 g=>?_) (λw2 g=>?_) (λw2 g=>?_) (λw2 g=>?_)) ?_
 ·have hW:=(g.le (hm 0 _ rfl).whole).whole;exact SB w2 (λj v hj=>((g.le (hm 2 _ rfl).whole).whole).cell (J3 b3 _ hj)) (h1.mono I9 hW) hs.np hs.sp
 ·have hW:=(g.le (hm 0 _ rfl).whole).whole;exact SA w2 (λj v hj=>((g.le (hm 2 _ rfl).whole).whole).cell (J3 b3 _ hj)) (h1.mono I9 hW) (h2.mono (j7 _) hW) hs.np hs.ni hs.si
 ·have hW:=(g.le (hm 0 _ rfl).whole).whole;exact RZ w2 (((g.le (hm 1 _ rfl).whole).whole).cell (J3 b1 _ rfl)) (h3.mono (j7 _) hW) hs.nd
 ·have hW:=(g.le (hm 0 _ rfl).whole).whole;exact RY w2 (((g.le (hm 1 _ rfl).whole).whole).cell (J3 b1 _ rfl)) (((g.le (hm 1 _ rfl).whole).whole).cell (J3 b1 _ rfl)) (h4.mono S5 hW) hs.nc hs.sc (by have:=hs.nd;omega)
 ·have hW:=(g.le (hm 0 _ rfl).whole).whole;exact RX w2 (λj v hj=>((g.le (hm 1 _ rfl).whole).whole).cell (J3 b1 _ hj)) (h5.mono (M8 d) hW) hs.nr hs.sr (by have:=hs.nd;omega)
 ·exact⟨[],⟨rfl,rfl⟩,pk [0]⟩
end Go.Proofs.YtpjhmeicbjkcdaaGreatDoor
namespace Go.Proofs.YtpjhmeicbjkcdaaGreatDoor
open Go
def x8 (r:RS) (s:e8):RS:=if aA r s=true then E5 r else y7 r 14
def J2 (r:RS) (count most:Nat):RS:=if most<=count then y7 r 6 else r
def LW (r:RS):RS:=if (C7 r).1≠5 then y7 r 14 else r
def J5 (r:RS):Nat:=if r.e≠0 then 0 else r.ts.length
def dY (names:List e8) (s:e8):Int:=if s∈names then 9 else 0
def zJ (t:kX):Prop:=t.1=1\/t.1=3
instance (t:kX):Decidable (zJ t):=by unfold zJ;exact inferInstance
def namC (r:RS) (chk:e8->Int):RS:=if zJ (C7 r) then (if H8 (C7 r).2.1=false then y7 r 11 else y7 r (chk (C7 r).2.1)) else r
def P2 (r:RS) (chk:e8->Int):RS×e8:=if (C7 r).1=3 then O4 (namC r chk) 3 else O4 (namC r chk) 1
def R6 (r:RS):RS×e8:=(if 400 < (aM r).2.length then y7 (aM r).1 5 else (aM r).1,(aM r).2)
def AZ (r:RS):RS×e8:=aM (if (C7 r).1≠2 then y7 r 14 else r)
def bY {α:Type} (tk:RS->RS×α):Nat->RS->RS×List α
 | 0,r=>(r,[])
 | n+1,r=>((tk (if 0 < n then x8 (bY tk n r).1 [44] else (bY tk n r).1)).1,(bY tk n r).2++[(tk (if 0 < n then x8 (bY tk n r).1 [44] else (bY tk n r).1)).2])
def mD {α:Type} (tk:RS->RS×α) (n:Nat) (r:RS):RS×List α:=(x8 (bY tk n (x8 r [40])).1 [41],(bY tk n (x8 r [40])).2)
def PG (r:RS):RS×V3:=((mD (λr=>Z1 r (-4096) 4096) 3 r).1,(mD (λr=>Z1 r (-4096) 4096) 3 r).2.getD 0 0,(mD (λr=>Z1 r (-4096) 4096) 3 r).2.getD 1 0,(mD (λr=>Z1 r (-4096) 4096) 3 r).2.getD 2 0)
def DL:Nat->RS->List V3->RS×List V3
 | 0,r,out=>(r,out)
 | f+1,r,out=>if aA r [40]=true then DL f (PG (J2 r out.length 16)).1 (out++[(PG (J2 r out.length 16)).2]) else (r,out)
def lG:e8:=[99,101,108,108]
def vC:e8:=[112,97,114,116]
def SZ:e8:=[100,101,110,115,105,116,121]
def vD:e8:=[105,110,115,116,97,110,99,101]
def Jk:e8:=[111,102]
def SX:e8:=[116,117,114,110]
def SY:e8:=[115,104,105,102,116]
def qO:e8:=[100,105,109,101,110,115,105,111,110]
def qP:e8:=[99,111,110,115,116,114,97,105,110,116]
def qN:e8:=[114,101,113,117,105,114,101]
def xN:e8:=[102,114,111,109]
def YO:e8:=[116,111]
def NF:e8:=[112,114,111,100,117,99,116]
def celV (r:RS) (cnt:Nat):RS×List V3:=DL (J5 (x8 (J2 r cnt 6) lG)) (x8 (J2 r cnt 6) lG) []
def tC:Nat->RS->List (List V3)->RS×List (List V3)
 | 0,r,out=>(r,out)
 | f+1,r,out=>if aA r lG=true then tC f (x8 (celV r out.length).1 [59]) (out++[(celV r out.length).2]) else (r,out)
def oB (names:List e8) (r0:RS):RS×W3:=
 let a:=P2 (x8 (J2 r0 names.length 64) vC) (dY names)
 let b:=Z1 (x8 a.1 SZ) 1 1048576
 let r:=x8 b.1 [123]
 let c:=tC (J5 r) r []
 (x8 c.1 [125],(a.2,b.2,c.2))
def TB (parts:List e8) (s:e8):Int:=if s∈parts then 0 else 16
def BD (parts names:List e8) (r0:RS):RS×mX:=
 let a:=P2 (x8 (J2 r0 names.length 12) vD) (dY names)
 let b:=P2 (x8 a.1 Jk) (TB parts)
 let c:=mD (λr=>Z1 r (-12) 12) 4 (x8 b.1 SX)
 let d:=mD R6 3 (x8 c.1 SY)
 (x8 d.1 [59],(a.2,b.2,(c.2.getD 0 0,c.2.getD 1 0,c.2.getD 2 0,c.2.getD 3 0),(d.2.getD 0 [],d.2.getD 1 [],d.2.getD 2 [])))
def wI (r:RS):RS×Int:=Z1 r (-1073741824) 1073741824
def BJ (names:List e8) (r0:RS):RS×S1:=
 let a:=P2 (x8 (J2 r0 names.length 64) qO) (dY names)
 let b:=wI (x8 a.1 [61])
 let c:=wI (x8 b.1 [91])
 let d:=wI (x8 c.1 [44])
 let r:=x8 d.1 [93]
 (x8 (if aA r [59]=true/\d.2 < c.2 then y7 r 8 else r) [59],(a.2,b.2,c.2,d.2))
def mK (names:List e8) (s:e8):Int:=if s∈names then ((names.idxOf s:Nat):Int) else -1
def kJ (names:List e8) (last:Int) (s:e8):Int:=if mK names s < 0 then 16 else if mK names s<=last then 8 else 0
def XO (names:List e8) (r:RS):Int:=if zJ (C7 r)/\H8 (C7 r).2.1=true then mK names (C7 r).2.1 else -1
def nY (r0:RS) (cnt:Nat):RS×e8:=
 let r1:=J2 r0 cnt 64
 let n:=AZ (E5 r1)
 let x:=if aA r1 [45]=true then 45::n.2 else n.2
 (if 400 < x.length then y7 n.1 5 else if aA n.1 [42]=true/\(x = [48]\/x = [45,48]) then y7 n.1 19 else n.1,x)
def iR (names:List e8) (last:Int) (r0:RS) (cnt:Nat):RS×JL:=
 let n:=nY r0 cnt
 let r:=x8 n.1 [42]
 ((P2 r (kJ names last)).1,(XO names r,n.2))
def iP (names:List e8):Nat->RS->Int->List JL->RS×List JL
 | 0,r,_,out=>(r,out)
 | f+1,r,last,out=>if aA r [43]=true\/aA r [45]=true then iP names f (iR names last r out.length).1 (iR names last r out.length).2.1 (out++[(iR names last r out.length).2]) else (r,out)
def sA (names:List e8) (r0:RS):RS×gG:=
 let c:=R6 (x8 r0 [91])
 let p:=iP names (J5 c.1) c.1 (-1) []
 (x8 p.1 [93],(c.2,p.2))
def KW (s:e8):Option Int:=if s = [97,100,100] then some 1 else if s = [115,99,97,108,101] then some 2 else if s = [109,105,110] then some 3 else if s = [109,97,120] then some 4 else if s = [97,98,115] then some 5 else none
def uA (t:kX):Bool:=(KW t.2.1).isSome && decide (t.1=1)
def dR (g:RS->Nat->RS×Nat×Ex):Nat->RS->Nat->List Ex->RS×Nat×List Ex
 | 0,r,k,out=>(r,k,out)
 | f+1,r,k,out=>if aA r [44]=true then dR g f (g (E5 r) k).1 (g (E5 r) k).2.1 (out++[(g (E5 r) k).2.2]) else (r,k,out)
def expS (d:Nat) (r:RS) (k:Nat):RS:=if uA (C7 r)=false/\aA r [91]=false then y7 r 14 else if d=0 then y7 r 15 else J2 r k 64
abbrev Kp:Ex:=.mk 0 ([],[]) [] []
def R4 (names:List e8):Nat->RS->Nat->RS×Nat×Ex
 | 0,r,k=>(expS 0 r k,k+1,Kp)
 | d+1,r,k=>
  if (expS (d+1) r k).e≠0 then (expS (d+1) r k,k+1,Kp)
  else if uA (C7 r)=false then ((sA names r).1,k+1,.mk 0 (sA names r).2 [] [])
  else
   let op:=(KW (C7 r).2.1).getD 0
   let p:=if op=2 then R6 (E5 r) else (E5 r,[])
   let a:=R4 names d (x8 p.1 [40]) (k+1)
   let b:=if op≠2/\op≠5 then dR (R4 names d) (J5 a.1) a.1 a.2.1 [a.2.2] else (a.1,a.2.1,[a.2.2])
   (x8 b.1 [41],b.2.1,.mk op ([],[]) p.2 b.2.2)
def wN (names dims:List e8) (r0:RS):RS×kY:=
 let a:=P2 (x8 (J2 r0 names.length 64) qP) (dY names)
 let f:=sA dims (x8 a.1 [58])
 let r:=x8 f.1 [60,61]
 (x8 (E5 (if (C7 r).1≠2\/(C7 r).2.1≠[48] then y7 r 14 else r)) [59],(a.2,f.2))
def rH (names dims:List e8) (r0:RS):RS×kV:=
 let a:=P2 (x8 (J2 r0 names.length 64) qN) (dY names)
 let x:=R4 dims 8 (x8 a.1 [58]) 0
 let l:=if aA x.1 xN=true then R6 (E5 x.1) else (x.1,[])
 let h:=if aA l.1 YO=true then R6 (E5 l.1) else (l.1,[])
 (x8 (if (l.2≠[]/\h.2≠[])/\aA h.1 [59]=true/\dF h.2*dG l.2 < dF l.2*dG h.2 then y7 h.1 8 else h.1) [59],(a.2,x.2.2,l.2,h.2))
def pF {α:Type} (w:e8) (tk:List α->RS->RS×α):Nat->RS->List α->RS×List α
 | 0,r,out=>(r,out)
 | f+1,r,out=>if aA r w=true then pF w tk f (tk out r).1 (out++[(tk out r).2]) else (r,out)
def He (r0:RS):RS×jL:=
 let a:=P2 (x8 r0 NF) (λ_=>0)
 let r:=x8 a.1 [59]
 let p:=pF vC (λout r=>oB (out.map (·.1)) r) (J5 r) r []
 let i:=pF vD (λout r=>BD (p.2.map (·.1)) (out.map (·.1)) r) (J5 p.1) p.1 []
 let d:=pF qO (λout r=>BJ (out.map (·.1)) r) (J5 i.1) i.1 []
 let c:=pF qP (λout r=>wN (out.map (·.1)) (d.2.map (·.1)) r) (J5 d.1) d.1 []
 let q:=pF qN (λout r=>rH (out.map (·.1)) (d.2.map (·.1)) r) (J5 c.1) c.1 []
 (LW q.1,⟨a.2,p.2,i.2,d.2,c.2,q.2⟩)
def yN (s:e8):RS×jL:=He (yV s)
end Go.Proofs.YtpjhmeicbjkcdaaGreatDoor
namespace Go.Proofs.YtpjhmeicbjkcdaaGreatDoor
open Go
structure A7 (r r':RS):Prop where
 st:r.e≠0->r'=r
 sf:r'.e=0->r'.ts <:+ r.ts
 en:(r.e=0->cP r.ts)->r'.e=0->cP r'.ts
 sb :∀t∈r'.ts,t∈r.ts
theorem A7.refl (r:RS):A7 r r:=⟨λ_=>rfl,λ_=>List.suffix_rfl,λh=>h,λ_ h=>h⟩
theorem A7.ok {r r':RS} (h:A7 r r') (h':r'.e=0):r.e=0:=j9 λc=>c (by rw[<-h.st c];exact h')
theorem A7.trans {r s t:RS} (a:A7 r s) (b:A7 s t):A7 r t:=
 ⟨λh=>by have e:=a.st h;rw[b.st (by rw[e];exact h),e],λh=>(b.sf h).trans (a.sf (b.ok h)),λh h'=>b.en (a.en h) h',λt ht=>a.sb t (b.sb t ht)⟩
theorem A7.bad {r r':RS} (h:A7 r r') (hr:r.e≠0):r'.e≠0:=by rw[h.st hr];exact hr
theorem A7.good {r r':RS} (h:A7 r r') (g:Y3 r):Y3 r':=⟨h.en g.l,λt ht=>g.t t (h.sb t ht)⟩
theorem A7.rem {r r':RS} (h:A7 r r'):J5 r'<=J5 r:=by
 unfold J5;by_cases h':r'.e=0
 ·rw[if_neg (λc=>c h'),if_neg (λc=>c (h.ok h'))];exact (h.sf h').length_le
 ·rw[if_pos h'];exact f8 _
theorem A7.ite {r a b:RS} {c:Prop} [Decidable c] (h1:A7 r a) (h2:A7 r b):A7 r (if c then a else b):=by split <;> assumption
theorem A7.next (r:RS):A7 r (E5 r):=by
 unfold E5;by_cases h:r.e=0/\(C7 r).1≠5
 ·rw[if_pos h];refine⟨λc=>absurd h.1 c,λ_=>List.tail_suffix _,λhe _=>?_,λt ht=>List.mem_of_mem_tail ht⟩;have h5:=h.2;unfold C7 at h5;rw[if_neg (λc=>c h.1)] at h5;exact (he h.1).tail h5
 ·rw[if_neg h];exact A7.refl r
theorem A7.fail (r:RS) (e:Int):A7 r (y7 r e):=by
 unfold y7;by_cases h:r.e=0
 ·rw[if_neg (λc=>c h)];by_cases he:e=0
  ·rw[if_neg (λc=>c he)];exact A7.refl r
  ·rw[if_pos he];exact⟨λc=>absurd h c,λc=>absurd c he,λ_ c=>absurd c he,λ_ ht=>ht⟩
 ·rw[if_pos h];exact A7.refl r
theorem A7.exp (r:RS) (s:e8):A7 r (x8 r s):=(A7.next r).ite (A7.fail r 14)
theorem A7.lim (r:RS) (c m:Nat):A7 r (J2 r c m):=(A7.fail r 6).ite (A7.refl r)
theorem A7.take (r:RS) (s:e8):A7 r (U5 r s):=(A7.next r).ite (A7.refl r)
theorem A7.kind (r:RS) (z:Int):A7 r (O4 r z).1:=by
 unfold O4;split
 ·exact A7.fail r 14
 ·exact A7.next r
theorem A7.num (r:RS):A7 r (aM r).1:=by
 unfold aM tM;dsimp only;exact (((A7.take r [45]).trans (A7.fail _ 3)).ite (A7.take r [45])).trans (A7.kind _ 2)
theorem A7.int (r:RS) (lo hi:Int):A7 r (Z1 r lo hi).1:=by
 unfold Z1;split
 ·exact A7.num r
 ·split
  ·exact A7.fail r 2
  ·split
   ·exact A7.fail r 2
   ·exact A7.num r
theorem A7.namC (r:RS) (chk:e8->Int):A7 r (namC r chk):=((A7.fail r 11).ite (A7.fail r _)).ite (A7.refl r)
theorem A7.nam (r:RS) (chk:e8->Int):A7 r (P2 r chk).1:=by
 unfold P2;split
 ·exact (A7.namC r chk).trans (A7.kind _ 3)
 ·exact (A7.namC r chk).trans (A7.kind _ 1)
theorem A7.numb (r:RS):A7 r (R6 r).1:=by
 unfold R6;exact ((A7.num r).trans (A7.fail _ 5)).ite (A7.num r)
theorem A7.uns (r:RS):A7 r (AZ r).1:=by
 unfold AZ;exact ((A7.fail r 14).ite (A7.refl r)).trans (A7.num _)
theorem A7.itm {α:Type} {tk:RS->RS×α} (h :∀r,A7 r (tk r).1) :∀n r,A7 r (bY tk n r).1
 | 0,r=>A7.refl r
 | n+1,r=>by
  unfold bY;exact (((A7.itm h n r).trans (A7.exp _ _)).ite (A7.itm h n r)).trans (h _)
theorem A7.lst {α:Type} {tk:RS->RS×α} (h :∀r,A7 r (tk r).1) (n:Nat) (r:RS):A7 r (mD tk n r).1:=((A7.exp r _).trans (A7.itm h n _)).trans (A7.exp _ _)
theorem A7.ver (r:RS):A7 r (PG r).1:=A7.lst (λr=>A7.int r _ _) 3 r
theorem A7.vrs :∀f r out,A7 r (DL f r out).1
 | 0,r,_=>A7.refl r
 | f+1,r,out=>by
  unfold DL;split
  ·exact ((A7.lim r _ _).trans (A7.ver _)).trans (A7.vrs f _ _)
  ·exact A7.refl r
theorem A7.celV (r:RS) (cnt:Nat):A7 r (celV r cnt).1:=((A7.lim r _ _).trans (A7.exp _ _)).trans (A7.vrs _ _ _)
theorem A7.cels :∀f r out,A7 r (tC f r out).1
 | 0,r,_=>A7.refl r
 | f+1,r,out=>by
  unfold tC;split
  ·exact ((A7.celV r _).trans (A7.exp _ _)).trans (A7.cels f _ _)
  ·exact A7.refl r
theorem A7.tmN (r:RS) (cnt:Nat):A7 r (nY r cnt).1:=by
 unfold nY;dsimp only;have h:=((A7.lim r cnt 64).trans (A7.next _)).trans (A7.uns _);exact (h.trans (A7.fail _ 5)).ite ((h.trans (A7.fail _ 19)).ite h)
theorem A7.trm (names:List e8) (last:Int) (r:RS) (cnt:Nat):A7 r (iR names last r cnt).1:=by
 unfold iR;dsimp only;exact ((A7.tmN r cnt).trans (A7.exp _ _)).trans (A7.nam _ _)
theorem A7.trms (names:List e8) :∀f r last out,A7 r (iP names f r last out).1
 | 0,r,_,_=>A7.refl r
 | f+1,r,last,out=>by
  unfold iP;split
  ·exact (A7.trm names last r _).trans (A7.trms names f _ _ _)
  ·exact A7.refl r
theorem A7.for (names:List e8) (r:RS):A7 r (sA names r).1:=by
 unfold sA;dsimp only;exact (((A7.exp r _).trans (A7.numb _)).trans (A7.trms names _ _ _ _)).trans (A7.exp _ _)
theorem A7.args {g:RS->Nat->RS×Nat×Ex} (h :∀r k,A7 r (g r k).1) :∀f r k out,A7 r (dR g f r k out).1
 | 0,r,_,_=>A7.refl r
 | f+1,r,k,out=>by
  unfold dR;split
  ·exact ((A7.next r).trans (h _ _)).trans (A7.args h f _ _ _)
  ·exact A7.refl r
theorem A7.expS (d:Nat) (r:RS) (k:Nat):A7 r (expS d r k):=(A7.fail r 14).ite ((A7.fail r 15).ite (A7.lim r _ _))
theorem A7.expr (names:List e8) :∀d r k,A7 r (R4 names d r k).1
 | 0,r,k=>A7.expS 0 r k
 | d+1,r,k=>by
  unfold R4;split
  ·exact A7.expS (d+1) r k
  ·split
   ·exact A7.for names r
   ·dsimp only;have h1:A7 r (if (KW (C7 r).2.1).getD 0=2 then R6 (E5 r) else (E5 r,[])).1:=by
     split
     ·exact (A7.next r).trans (A7.numb _)
     ·exact A7.next r
    have h2:=(h1.trans (A7.exp _ [40])).trans (A7.expr names d _ (k+1));refine A7.trans ?_ (A7.exp _ _);split
    ·exact h2.trans (A7.args (A7.expr names d) _ _ _ _)
    ·exact h2
theorem A7.opt (r:RS) (w:e8):A7 r (if aA r w=true then R6 (E5 r) else (r,[])).1:=by
 split
 ·exact (A7.next r).trans (A7.numb _)
 ·exact A7.refl r
theorem S2 {r:RS} {s:e8} (h:aA r s=true):r.e=0/\((C7 r).1=1\/(C7 r).1=4)/\(C7 r).2.1=s:=by
 unfold aA at h;rw[k6,U8,decide_eq_true_iff,decide_eq_true_iff,decide_eq_true_iff] at h;refine⟨j9 λc=>?_,h⟩;have h5:(C7 r).1=5:=by unfold C7;rw[if_pos c]
 rcases h.1 with e | e <;> rw[h5] at e <;> exact absurd e dc
theorem EO {r:RS} (he:r.e=0->cP r.ts) (h0:r.e=0) (h5:(C7 r).1≠5):J5 (E5 r) < J5 r:=by
 have hp:=(he h0).pos;unfold E5;rw[if_pos ⟨h0,h5⟩];unfold J5;dsimp only;rw[if_neg (λc=>c h0),if_neg (λc=>c h0),List.length_tail];omega
theorem WL {r:RS} {s:e8} (he:r.e=0->cP r.ts) (h:aA r s=true):J5 (x8 r s) < J5 r:=by
 obtain⟨h0,hk,_⟩:=S2 h;unfold x8;rw[if_pos h];exact EO he h0 (by rcases hk with e | e <;> rw[e] <;> decide)
theorem pE {r:RS} {s:e8} {c m:Nat} (he:r.e=0->cP r.ts) (h:aA r s=true):J5 (x8 (J2 r c m) s) < J5 r:=by
 obtain⟨h0,hk,_⟩:=S2 h;unfold J2;split
 ·have h1:=bK r (show (6:Int)≠0 by decide);have h2:=(A7.exp (y7 r 6) s).bad h1;have hp:=(he h0).pos;unfold J5;rw[if_pos h2,if_neg (λc=>c h0)];exact hp
 ·exact WL he h
theorem jO {r:RS} {s:e8} (he:r.e=0->cP r.ts) (h:aA r s=true):0 < J5 r:=s7 (f8 _) (WL he h)
end Go.Proofs.YtpjhmeicbjkcdaaGreatDoor
namespace Go.Proofs.YtpjhmeicbjkcdaaGreatDoor
open Go Go.RowKit Go.Dw
theorem qL {n1:Bool} {a1 a2:Option Addr} {k1 c1 k2 c2 y:Nat} (w:World) (hM2:bT (Hp.whole w) (.slice a2 k2 c2) y) :
  j6 Tryz.prog 149 #[cF n1 a1 k1 c1 false a2 k2 c2] w (v7 w (.bool (decide (y=0\/y=1)))):=by
 unfold cF;refine enterZ (cx 14) [.agg #[.bool n1,.slice a1 k1 c1,.bool false,.slice a2 k2 c2]] [.tmp 2] Tryz.func149 ?_;intro b1;refine s6.by_order cQ (.take 0 <| .take 1 <| .run 2 <| .take 3 <| .take 4 <| .take 5 <| .take 6 <| .run 7 <| .run 8 <| .take 9 <| .take 10 <| .take 11 <| .done) kr ?_;refine k7 _ (λw' hm=>cD w' (hM2.mono (hm 0 _ rfl).whole)) ?_;refine⟨sK,?_⟩;refine d8 (λh1=>?_) λh1=>?_
 ·have h1:y=0:=by
   refine j9 λc=>?_;rw[if_neg c] at h1;cases h1
  (iterate 2 refine⟨sK,?_⟩);exact⟨[],⟨by rw[decide_eq_true (Or.inl h1)],rfl⟩,pk [0]⟩
 ·have h1:y≠0:=λc=>h1 (by rw[if_pos c]);refine call (λw' hm=>rP w') ?_;rintro _ _ ⟨g3,a3,k3,c3,rfl,rfl,hM3⟩;refine⟨sK,?_⟩;refine k7 _ (λw' hm=>cY w' (hM2.mono (hm 0 _ rfl).whole) (hM3.mono (hm 2 _ rfl).whole) nofun nofun) ?_;refine⟨sK,?_⟩;refine⟨[],⟨?_,rfl⟩,pk [0]⟩;congr 1
  rw[decide_eq_decide,wX];exact⟨λh=>.inr h,λh=>h.resolve_left h1⟩
theorem GN {n1:Bool} {a1 a2:Option Addr} {k1 c1 k2 c2 x y:Nat} (w:World) (hM1:bT (Hp.whole w) (.slice a1 k1 c1) x) (hM2:bT (Hp.whole w) (.slice a2 k2 c2) y) :
  j6 Tryz.prog 204 #[cF n1 a1 k1 c1 false a2 k2 c2] w (v7 w (.tuple #[iQ (if y=0\/y=1 then (oG n1 x).1 else 0),.bool (decide (y=0\/y=1) && (oG n1 x).2)])):=by
 unfold cF;refine enterZ (cx 12) [.agg #[.bool n1,.slice a1 k1 c1,.bool false,.slice a2 k2 c2]] [.tmp 2,.tmp 3] Tryz.func204 ?_;intro b1;refine k7 _ (λw' hm=>by
  have:=qL (n1:=n1) (a1:=a1) (k1:=k1) (c1:=c1) w' (hM2.mono (hm 0 _ rfl).whole);unfold cF at this;exact this) ?_
 by_cases hy:y=0\/y=1
 ·rw[decide_eq_true hy,if_pos hy];refine k7 _ (λw' hm=>VR w' (hM1.mono (hm 0 _ rfl).whole)) ?_;exact⟨[],⟨rfl,rfl⟩,pk [0]⟩
 ·rw[decide_eq_false hy,if_neg hy];exact⟨[],⟨rfl,rfl⟩,pk [0]⟩
theorem YR (r:RS) :∀t∈(E5 r).ts,t∈r.ts:=by
 unfold E5;split
 ·exact λt h=>List.mem_of_mem_tail h
 ·exact λt h=>h
theorem YS (r:RS) (e:Int):(y7 r e).ts=r.ts:=by
 unfold y7;split
 ·rfl
 ·split <;> rfl
theorem Gl (r:RS) :∀t∈(tM r).ts,t∈r.ts:=by
 have h1 :∀t∈(U5 r [45]).ts,t∈r.ts:=by
  unfold U5;split
  ·exact YR r
  ·exact λt h=>h
 unfold tM;split
 ·rw[YS];exact h1
 ·exact h1
theorem UU {r:RS} (h :∀t∈r.ts,t.2.1.length < 900000):(C7 r).2.1.length < 900000:=by
 unfold C7;split
 ·exact O2 _
 ·cases hts:r.ts with
  | nil=>exact O2 _
  | cons t ts=>exact h t (by rw[hts];simp)
theorem VE {r:RS} (h :∀t∈r.ts,t.2.1.length < 900000):(aM r).2.length < 1000000:=by
 have h1:(O4 (tM r) 2).2.length < 900000:=by
  unfold O4;split
  ·exact O2 _
  ·exact UU λt ht=>h t (Gl r t ht)
 unfold aM;dsimp only;split
 ·exact O2 _
 ·rw[d6];split
  ·rw[w7];omega
  ·rw[d9];omega
theorem QE {s:e8} (h:bB 400 s≠0):EI s=none:=by unfold EI;rw[if_neg h]
theorem QF {s:e8} (h : ¬ (GM s=0\/GM s=1)):EI s=none:=by
 unfold EI;rw[if_neg h,ite_self]
theorem UQ {s:e8} (h:bB 400 s=0) (h1:GM s=0\/GM s=1):EI s=Bw (oG (iU (L0 s).1) (T8 (T0 (L0 s).1))):=by unfold EI;rw[if_pos h,if_pos h1]
set_option maxRecDepth 20000 in
set_option maxHeartbeats 1000000 in
theorem tK {k h:Hp} {b:Nat} {r:RS} {lo hi:Int} (w:World) (hin:h.In w) (hk:k.le ((Hp.whole w).minus h)) (hR:G9 k h b r) :
  j6 Tryz.prog 159 #[pQ b,iQ lo,iQ hi] w (O6 w h λv h' cs=>cs = []/\v=iQ (Z1 r lo hi).2/\G9 k h' b (Z1 r lo hi).1):=by
 have hR0:=hR;obtain⟨a,n,c,hO,hS,hE,hB⟩:=hR;have hn:=hS.len;have hlen0:=VE hB;unfold KI at hO;refine enterMZ (cx 57) [pQ b,iQ lo,iQ hi] hin [.tmp 6] Tryz.func159 ?_;refine ZS ?_;refine T7 cQ (i:=1) rfl (λj v hv=>by
  obtain⟨b',arr,e,_,_,h4⟩:=hO.cell hv;cases e;rw[y8];exact h4) rfl ?_
 intro b7;refine l6 (i:=1) rfl (λw0 w' hok=>gW w' (hok.mem 1 _ rfl) (hok.kle rfl rfl hk) hR0) ?_;rintro _ h2 _ ⟨rfl,rfl,hR2⟩;have hlen:(aM r).2.length < 1000000:=hlen0;have hR2':=hR2;obtain⟨a',n',c',hO2,hS2,hE2,hB2⟩:=hR2;unfold KI at hO2;refine bG (j:=3) cQ (i:=1) rfl hO2 rfl rfl ?_;refine d8 (λh3=>?_) λh3=>?_
 ·have h3:(aM r).1.e≠0:=h3;have hI:Z1 r lo hi=((aM r).1,0):=by unfold Z1;rw[if_pos h3]
  exact⟨h2,[],⟨rfl,by rw[hI],by rw[hI];exact hR2'⟩,pk [0,1]⟩
 ·have h3 : ¬ (aM r).1.e≠0:=h3;have hI0:Z1 r lo hi=match EI (aM r).2 with
   | none=>(y7 r 2,0)
   | some n=>if n < lo\/hi < n then (y7 r 2,0) else ((aM r).1,n):=by unfold Z1;rw[if_neg h3] <;> rfl
  refine call (λw' hm=>R3 (aM r).2 hlen w') ?_;rintro _ _ ⟨g,rfl,n1,a1,k1,c1,a2,k2,c2,x,y,rfl,hM1,hM2,hp,hz,hnz⟩;intro b9;refine k7 _ (λw' hm=>GN w' (hM1.mono (hm 3 _ rfl).whole) (hM2.mono (hm 3 _ rfl).whole)) ?_;refine d8 (λh4=>?_) λh4=>?_;focus
   have h4:bB 400 (aM r).2≠0:=h4;have hI:Z1 r lo hi=(y7 r 2,0):=by rw[hI0,QE h4]
  rotate_left
  focus
   have h4:bB 400 (aM r).2=0:=j9 h4;obtain⟨e1,e2,e3⟩:=hz h4;have hpro:EI (aM r).2=if (decide (y=0\/y=1) && (oG n1 x).2)=true then some (if y=0\/y=1 then (oG n1 x).1 else 0) else none:=by
    by_cases hy:y=0\/y=1
    ·rw[UQ h4 (by unfold GM;rw[<-e3];exact hy),<-e1,<-e2,decide_eq_true hy,if_pos hy,F6];rfl
    ·rw[QF (by unfold GM;rw[<-e3];exact hy),decide_eq_false hy];rfl
   generalize (decide (y=0\/y=1) && (oG n1 x).2)=ok at *;generalize (if y=0\/y=1 then (oG n1 x).1 else 0)=val at *;refine s8 (λh5=>?_) λh5=>?_;focus
    have h5:ok=false:=by simpa using h5
    have hI:Z1 r lo hi=(y7 r 2,0):=by rw[hI0,hpro,h5];rfl
   rotate_left
   ·have h5:ok=true:=by simpa using h5
    rw[h5,if_pos rfl] at hpro;rw[hpro] at hI0;dsimp only at hI0;refine d8 (λh6=>?_) λh6=>?_;focus
     have hI:Z1 r lo hi=(y7 r 2,0):=by rw[hI0,if_pos (.inl h6)]
    rotate_left
    focus
     refine d8 (λh7=>?_) λh7=>?_;focus
      have hI:Z1 r lo hi=(y7 r 2,0):=by rw[hI0,if_pos (.inr h7)]
     rotate_left
     ·have hI:Z1 r lo hi=((aM r).1,val):=by rw[hI0,if_neg (λg=>g.elim h6 h7)]
      exact⟨h2,[],⟨rfl,by rw[hI],by rw[hI];exact hR2'⟩,pk [0,1]⟩
    all_goals
     refine SO (j:=0) cQ (i:=1) rfl hO2 rfl rfl rfl dc rfl λh5 hO5=>?_;have hR5:G9 k h5 b r:=⟨a,n,c,hO5,hS,hE,hB⟩
     refine l6 (i:=1) rfl (λw0 w' hok=>G8 (e:=2) w' (hok.mem 1 _ rfl) (hok.kle rfl rfl hk) hR5) ?_;rintro _ h6 _ ⟨rfl,hR6⟩;exact⟨h6,[],⟨rfl,by rw[hI],by rw[hI];exact hR6⟩,pk [0,1]⟩
  all_goals
   refine SO (j:=0) cQ (i:=1) rfl hO2 rfl rfl rfl dc rfl λh5 hO5=>?_;have hR5:G9 k h5 b r:=⟨a,n,c,hO5,hS,hE,hB⟩
   refine l6 (i:=1) rfl (λw0 w' hok=>G8 (e:=2) w' (hok.mem 1 _ rfl) (hok.kle rfl rfl hk) hR5) ?_;rintro _ h6 _ ⟨rfl,hR6⟩;exact⟨h6,[],⟨rfl,by rw[hI],by rw[hI];exact hR6⟩,pk [0,1]⟩
end Go.Proofs.YtpjhmeicbjkcdaaGreatDoor
namespace Go.Proofs.YtpjhmeicbjkcdaaGreatDoor
open Go Go.RowKit Go.Dw
theorem mM {l:List Value} {q:List Value->Prop} (h:q l):jS l q:=by rw[aZ];exact h
structure DR (c k h:Hp) (rb b:Nat) (r:RS):Prop where
 hk:k.le c
 hR:G9 k h b r
 hB:c.cell? ⟨rb,0,none⟩=some (pQ b)
theorem DR.mono {c c' k h:Hp} {rb b:Nat} {r:RS} (hc:c.le c') (d:DR c k h rb b r):DR c' k h rb b r:=⟨d.hk.trans hc,d.hR,hc.cell d.hB⟩
theorem DR.to {c k h h':Hp} {rb b:Nat} {r r':RS} (d:DR c k h rb b r) (hR:G9 k h' b r'):DR c k h' rb b r':=⟨d.hk,hR,d.hB⟩
abbrev SL (w:World) (k h:Hp) (b:Nat) (v:Value) (r':RS):Ending->World->Prop:=O6 w h λv' h' cs=>cs = []/\v'=v/\G9 k h' b r'
section
variable {k h:Hp} {rb b:Nat} {r:RS}
theorem N9 {count most:Int} {n m:Nat} (hn:count=n) (hm:most=m) (w:World) (hin:h.In w) (hd:DR ((Hp.whole w).minus h) k h rb b r) :
  j6 Tryz.prog 156 #[pQ rb,iQ count,iQ most] w (O6 w h λ_ h' cs=>cs = []/\G9 k h' b (J2 r n m)):=by
 subst hn;subst hm;refine enterMZ (cx 14) [pQ rb,iQ (n:Int),iQ (m:Int)] hin [] Tryz.func156 ?_;unfold J2;refine d8 (λh1=>?_) λh1=>?_
 ·rw[if_pos om];refine lQ 0 hd.hB ?_;refine l6 (i:=1) rfl (λw0 w' hok=>G8 w' (hok.mem 1 _ rfl) (hok.kle rfl rfl hd.hk) hd.hR) ?_;rintro _ h3 _ ⟨rfl,hR3⟩;exact⟨h3,[],⟨rfl,hR3⟩,pk [0,1]⟩
 ·rw[if_neg om];exact⟨h,[],⟨rfl,hd.hR⟩,pk [0,1]⟩
theorem W5 (w:World) (hin:h.In w) (hd:DR ((Hp.whole w).minus h) k h rb b r) :
  j6 Tryz.prog 167 #[pQ rb] w (SL w k h b (sv (R6 r).2) (R6 r).1):=by
 refine enterMZ (cx 18) [pQ rb] hin [.tmp 2] Tryz.func167 ?_;refine lQ 0 hd.hB ?_;refine l6 (i:=1) rfl (λw0 w' hok=>gW w' (hok.mem 1 _ rfl) (hok.kle rfl rfl hd.hk) hd.hR) ?_;rintro _ h2 _ ⟨rfl,rfl,hR2⟩;unfold R6;refine d8 (λh1=>?_) λh1=>?_
 ·rw[B6] at h1;rw[if_pos om];refine lQ 0 hd.hB ?_;refine l6 (i:=1) rfl (λw0 w' hok=>G8 w' (hok.mem 1 _ rfl) (hok.kle rfl rfl hd.hk) hR2) ?_;rintro _ h3 _ ⟨rfl,hR3⟩;exact⟨h3,[],⟨rfl,rfl,hR3⟩,pk [0,1]⟩
 ·rw[B6] at h1;rw[if_neg om];exact⟨h2,[],⟨rfl,rfl,hR2⟩,pk [0,1]⟩
theorem wB (w:World) (hin:h.In w) (hd:DR ((Hp.whole w).minus h) k h rb b r) :
  j6 Tryz.prog 205 #[pQ rb] w (SL w k h b (sv (AZ r).2) (AZ r).1):=by
 refine enterMZ (cx 20) [pQ rb] hin [.tmp 2] Tryz.func205 ?_;refine lQ 0 hd.hB ?_;refine k7 _ (λw' hm=>S7 w' (hm 1 _ rfl) (hd.hk.trans (hm 0 _ rfl).whole) hd.hR) ?_;unfold AZ;refine d8 (λh1=>?_) λh1=>?_
 ·have h1':(C7 r).1≠2:=h1;rw[if_pos h1'];refine lQ 0 hd.hB ?_;refine l6 (i:=1) rfl (λw0 w' hok=>G8 w' (hok.mem 1 _ rfl) (hok.kle rfl rfl hd.hk) hd.hR) ?_;rintro _ h3 _ ⟨rfl,hR3⟩;refine lQ 0 hd.hB ?_;refine l6 (i:=1) rfl (λw0 w' hok=>gW w' (hok.mem 1 _ rfl) (hok.kle rfl rfl hd.hk) hR3) ?_;rintro _ h2 _ ⟨rfl,rfl,hR2⟩;exact⟨h2,[],⟨rfl,rfl,hR2⟩,pk [0,1]⟩
 ·have h1' : ¬ (C7 r).1≠2:=h1;rw[if_neg h1'];refine lQ 0 hd.hB ?_;refine l6 (i:=1) rfl (λw0 w' hok=>gW w' (hok.mem 1 _ rfl) (hok.kle rfl rfl hd.hk) hd.hR) ?_;rintro _ h2 _ ⟨rfl,rfl,hR2⟩;exact⟨h2,[],⟨rfl,rfl,hR2⟩,pk [0,1]⟩
theorem T9 (w:World) (hin:h.In w) (hR:G9 k h b r) (hB:(Hp.whole w).cell? ⟨rb,0,none⟩=some (pQ b)) :
  j6 Tryz.prog 208 #[pQ rb] w (v7 w (.bool (decide (r.e≠0)))):=by
 refine enterZ (cx 17) [pQ rb] [.tmp 2] Tryz.func208 ?_;refine lQ 0 hB ?_;refine k7 _ (λw' hm=>AT w' ((hm 0 _ rfl).le hin.whole) hR) ?_;exact⟨[],⟨rfl,rfl⟩,pk [0]⟩
theorem iE (w:World) (hin:h.In w) (hd:DR ((Hp.whole w).minus h) k h rb b r) :
  j6 Tryz.prog 169 #[pQ rb] w (SL w k h b (iQ (wI r).2) (wI r).1):=by
 refine enterMZ (cx 8) [pQ rb] hin [.tmp 2] Tryz.func169 ?_;refine lQ 0 hd.hB ?_;refine l6 (i:=1) rfl (λw0 w' hok=>tK w' (hok.mem 1 _ rfl) (hok.kle rfl rfl hd.hk) hd.hR) ?_;rintro _ h2 _ ⟨rfl,rfl,hR2⟩;exact⟨h2,[],⟨rfl,rfl,hR2⟩,pk [0,1]⟩
theorem BN (s:e8) (w:World):j6 Tryz.prog 78 #[sv s] w (v7 w (iQ 0)):=by
 refine enterZ (cx 3) [sv s] [.tmp 2] Tryz.func78 ?_;exact⟨[],⟨rfl,rfl⟩,pk [0]⟩
set_option maxRecDepth 10000 in
theorem P8 {g:Nat} {cap:List Value} {chk:e8->Int} (w:World) (hin:h.In w) (hd:DR ((Hp.whole w).minus h) k h rb b r)
  (hc :∀w',((Hp.whole w).minus h).In w'->∀s:e8,s.length < 900000->j6 Tryz.prog g (sv s::cap).toArray w' (v7 w' (iQ (chk s)))) :
  j6 Tryz.prog 77 #[pQ rb,.func (.func g) #[] cap.toArray] w (SL w k h b (sv (P2 r chk).2) (P2 r chk).1):=by
 have hpk:=hd.hR.peekB;refine enterMZ (cx 50) [pQ rb,.func (.func g) #[] cap.toArray] hin [.tmp 4] Tryz.func77 ?_;obtain⟨c0,hc0⟩ :∃c0,c0=(Hp.whole w).minus h:=⟨_,rfl⟩
 rw[<-hc0] at hd hc ⊢;refine lQ 0 hd.hB ?_;refine k7 _ (λw' hm=>S7 w' (hm 1 _ rfl) (hd.hk.trans (hm 0 _ rfl).whole) hd.hR) ?_;obtain⟨⟨K,T,ln,co⟩,hP⟩ :∃p,p=C7 r:=⟨_,rfl⟩
 rw[<-hP] at hpk ⊢;dsimp only at hpk;intro b5;refine d8 (λh1=>?_) λh1=>?_;focus
  have hnm:zJ (C7 r):=by rw[<-hP];exact .inl h1
 rotate_left
 focus
  refine d8 (λh2=>?_) λh2=>?_;focus
   have hnm:zJ (C7 r):=by rw[<-hP];exact .inr h2
  rotate_left
  ·have hnm : ¬ zJ (C7 r):=by rw[<-hP];exact λc=>c.elim h1 h2
   have hC:namC r chk=r:=by unfold namC;rw[if_neg hnm]
   refine d8 (λh6=>?_) λh6=>?_
   ·refine lQ 0 hd.hB ?_;refine l6 (i:=1) rfl (λw0 w' hok=>fB w' (hok.mem 1 _ rfl) (hok.kle rfl rfl hd.hk) hd.hR) ?_;rintro _ h2 _ ⟨rfl,rfl,hR2⟩;have e:P2 r chk=O4 r 3:=by unfold P2;rw[<-hP,if_pos h6,hC]
    rw[e];exact⟨h2,[],⟨rfl,rfl,hR2⟩,pk [0,1]⟩
   ·refine lQ 0 hd.hB ?_;refine l6 (i:=1) rfl (λw0 w' hok=>fF w' (hok.mem 1 _ rfl) (hok.kle rfl rfl hd.hk) hd.hR) ?_;rintro _ h2 _ ⟨rfl,rfl,hR2⟩;have e:P2 r chk=O4 r 1:=by unfold P2;rw[<-hP,if_neg h6,hC]
    rw[e];exact⟨h2,[],⟨rfl,rfl,hR2⟩,pk [0,1]⟩
 all_goals
  refine k7 _ (λw' hm=>dK T w') ?_;refine s8 (λh3=>?_) λh3=>?_
  ·have h3:H8 T=false:=by simpa using h3
   have hC:namC r chk=y7 r 11:=by unfold namC;rw[if_pos hnm,<-hP,if_pos h3]
   refine lQ 0 hd.hB ?_;refine l6 (i:=1) rfl (λw0 w' hok=>G8 w' (hok.mem 1 _ rfl) (hok.kle rfl rfl hd.hk) hd.hR) ?_;rintro _ h1 _ ⟨rfl,hR1⟩;refine d8 (λh6=>?_) λh6=>?_
   ·refine lQ 0 hd.hB ?_;refine l6 (i:=1) rfl (λw0 w' hok=>fB w' (hok.mem 1 _ rfl) (hok.kle rfl rfl hd.hk) hR1) ?_;rintro _ h2 _ ⟨rfl,rfl,hR2⟩;have e:P2 r chk=O4 (y7 r 11) 3:=by unfold P2;rw[<-hP,if_pos h6,hC]
    rw[e];exact⟨h2,[],⟨rfl,rfl,hR2⟩,pk [0,1]⟩
   ·refine lQ 0 hd.hB ?_;refine l6 (i:=1) rfl (λw0 w' hok=>fF w' (hok.mem 1 _ rfl) (hok.kle rfl rfl hd.hk) hR1) ?_;rintro _ h2 _ ⟨rfl,rfl,hR2⟩;have e:P2 r chk=O4 (y7 r 11) 1:=by unfold P2;rw[<-hP,if_neg h6,hC]
    rw[e];exact⟨h2,[],⟨rfl,rfl,hR2⟩,pk [0,1]⟩
  ·have h3:H8 T=true:=by simpa using h3
   have hC:namC r chk=y7 r (chk T):=by unfold namC;rw[if_pos hnm,<-hP,if_neg (by rw[h3];decide)]
   refine s6.cut Hp (λ_=>[(0,.v (pQ rb)),(5,.bx 2 0)]) (λg=>[.hp c0,.hp g,.box b5 [iQ K,sv T,iQ ln,iQ co] 211]) (λg=>G9 k g b (y7 r (chk T))) (s6.by_order0 cQ (.take 0 <| .take 1 <| .take 2 <| .take 3 <| .take 4 <| .take 5 <| .take 6 <| .run 7 <| .run 8 <| .done) kr (K9 _ 1) ?_) ?_
   ·refine lQ 0 hd.hB ?_;refine mM ?_;refine k7 _ (λw' hm=>hc w' (hm 0 _ rfl) T hpk) ?_;refine⟨sK,?_⟩;refine l6 (i:=1) rfl (λw0 w' hok=>G8 w' (hok.mem 1 _ rfl) (hok.kle rfl rfl hd.hk) hd.hR) ?_;rintro _ h1 _ ⟨rfl,hR1⟩;refine⟨sK,?_⟩;exact⟨h1,hR1,v6.mk (pj [0,1,2]) rfl rfl⟩
   intro h1 hR1 _;refine d8 (λh6=>?_) λh6=>?_
   ·refine lQ 0 hd.hB ?_;refine l6 (i:=1) rfl (λw0 w' hok=>fB w' (hok.mem 1 _ rfl) (hok.kle rfl rfl hd.hk) hR1) ?_;rintro _ h2 _ ⟨rfl,rfl,hR2⟩;have e:P2 r chk=O4 (y7 r (chk T)) 3:=by unfold P2;rw[<-hP,if_pos h6,hC]
    rw[e];exact⟨h2,[],⟨rfl,rfl,hR2⟩,pk [0,1]⟩
   ·refine lQ 0 hd.hB ?_;refine l6 (i:=1) rfl (λw0 w' hok=>fF w' (hok.mem 1 _ rfl) (hok.kle rfl rfl hd.hk) hR1) ?_;rintro _ h2 _ ⟨rfl,rfl,hR2⟩;have e:P2 r chk=O4 (y7 r (chk T)) 1:=by unfold P2;rw[<-hP,if_neg h6,hC]
    rw[e];exact⟨h2,[],⟨rfl,rfl,hR2⟩,pk [0,1]⟩
end
end Go.Proofs.YtpjhmeicbjkcdaaGreatDoor
namespace Go.Dw
open Go Go.RowKit
theorem dQ {X:R5} {x y:Code} {Q:Ex->Tm->List Ch->Prop} {t:Tm} {s:List Ch} {c:Operand} (h:YA t c=some (.v (.bool false))) (hq:WP X y Q t s):WP X (.cond c x y) Q t s:=by
 unfold WP tvk;rw[h];exact hq
theorem RW {X:R5} {x y:Code} {Q:Ex->Tm->List Ch->Prop} {t:Tm} {s:List Ch} {c:Operand} (h:YA t c=some (.v (.bool true))) (hq:WP X x Q t s):WP X (.cond c x y) Q t s:=by
 unfold WP tvk;rw[h];exact hq
theorem Ok.le01 {w0 w:World} {s:List Ch} {c0 h:Hp} (hok:Ok w0 s w) (h0:m8 s 0=some (.hp c0)) (h1:m8 s 1=some (.hp h)):c0.le ((Hp.whole w).minus h):=
 Hp.le_minus (hok.mem 0 _ h0).whole (hok.disj 0 1 _ _ dc h0 h1)
end Go.Dw
namespace Go.Proofs.YtpjhmeicbjkcdaaGreatDoor
open Go Go.RowKit Go.Dw
theorem _root_.Go.Dw.Ok.bx1 {w0 w:World} {s:List Ch} {h:Hp} {j bb T:Nat} {cs:List Value} (hok:Ok w0 s w) (h1:m8 s 1=some (.hp h)) (hj:m8 s j=some (.box bb cs T)) (hn:j≠1) {n:Nat} {v:Value} (hv:cs[n]?=some v):((Hp.whole w).minus h).cell? ⟨bb,n,none⟩=some v:=
 (Hp.le_minus (hok.mem j _ hj).whole (hok.disj j 1 _ _ hn hj h1)).cell (J3 bb T hv)
theorem mA {a:Option Addr} {n c b:Nat} {L:List W3} (i:Nat) (w:World) (hc:(Hp.whole w).cell? ⟨b,0,none⟩=some (.slice a n c)) (hL:Sl bN 3 (Hp.whole w) a n c L) (hk:i < (L.map λx:W3=>x.1).length) :
  j6 Tryz.prog 158 #[iQ i,pQ b] w (v7 w (sv (L.map λx:W3=>x.1)[i])):=by
 have hk2:i < L.length:=by rw[l7] at hk;exact hk
 rw[eJ];refine enterZ (cx 9) [iQ i,pQ b] [.tmp 3] Tryz.func158 ?_;refine lQ 0 hc ?_;refine I1 cQ (e:=83) rfl hL i rfl hk2 λb9 o9 cs hcs hR hcell=>?_;obtain⟨a3,n3,c3,rfl,hs3⟩:=hR;refine lQ 0 (hcell 0 _ rfl) ?_;exact⟨[],⟨rfl,rfl⟩,pk [0]⟩
theorem mJ {a:Option Addr} {n c b:Nat} {L:List mX} (i:Nat) (w:World) (hc:(Hp.whole w).cell? ⟨b,0,none⟩=some (.slice a n c)) (hL:Sl (B0 dM) 9 (Hp.whole w) a n c L) (hk:i < (L.map λx:mX=>x.1).length) :
  j6 Tryz.prog 162 #[iQ i,pQ b] w (v7 w (sv (L.map λx:mX=>x.1)[i])):=by
 have hk2:i < L.length:=by rw[l7] at hk;exact hk
 rw[eJ];refine enterZ (cx 9) [iQ i,pQ b] [.tmp 3] Tryz.func162 ?_;refine lQ 0 hc ?_;refine I1 cQ (e:=93) rfl hL i rfl hk2 λb9 o9 cs hcs hR hcell=>?_;subst hR;refine lQ 0 (hcell 0 _ rfl) ?_;exact⟨[],⟨rfl,rfl⟩,pk [0]⟩
theorem IQ {a:Option Addr} {n c b:Nat} {L:List S1} (i:Nat) (w:World) (hc:(Hp.whole w).cell? ⟨b,0,none⟩=some (.slice a n c)) (hL:Sl (B0 O1) 4 (Hp.whole w) a n c L) (hk:i < (L.map λx:S1=>x.1).length) :
  j6 Tryz.prog 168 #[iQ i,pQ b] w (v7 w (sv (L.map λx:S1=>x.1)[i])):=by
 have hk2:i < L.length:=by rw[l7] at hk;exact hk
 rw[eJ];refine enterZ (cx 9) [iQ i,pQ b] [.tmp 3] Tryz.func168 ?_;refine lQ 0 hc ?_;refine I1 cQ (e:=48) rfl hL i rfl hk2 λb9 o9 cs hcs hR hcell=>?_;subst hR;refine lQ 0 (hcell 0 _ rfl) ?_;exact⟨[],⟨rfl,rfl⟩,pk [0]⟩
theorem IU {a:Option Addr} {n c b:Nat} {L:List kY} (i:Nat) (w:World) (hc:(Hp.whole w).cell? ⟨b,0,none⟩=some (.slice a n c)) (hL:Sl kM 3 (Hp.whole w) a n c L) (hk:i < (L.map λx:kY=>x.1).length) :
  j6 Tryz.prog 170 #[iQ i,pQ b] w (v7 w (sv (L.map λx:kY=>x.1)[i])):=by
 have hk2:i < L.length:=by rw[l7] at hk;exact hk
 rw[eJ];refine enterZ (cx 9) [iQ i,pQ b] [.tmp 3] Tryz.func170 ?_;refine lQ 0 hc ?_;refine I1 cQ (e:=96) rfl hL i rfl hk2 λb9 o9 cs hcs hR hcell=>?_;obtain⟨a3,n3,c3,rfl,hs3⟩:=hR;refine lQ 0 (hcell 0 _ rfl) ?_;exact⟨[],⟨rfl,rfl⟩,pk [0]⟩
theorem GI {d:Nat} {a:Option Addr} {n c b:Nat} {L:List kV} (i:Nat) (w:World) (hc:(Hp.whole w).cell? ⟨b,0,none⟩=some (.slice a n c)) (hL:Sl (jJ d) 8 (Hp.whole w) a n c L) (hk:i < (L.map λx:kV=>x.1).length) :
  j6 Tryz.prog 173 #[iQ i,pQ b] w (v7 w (sv (L.map λx:kV=>x.1)[i])):=by
 have hk2:i < L.length:=by rw[l7] at hk;exact hk
 rw[eJ];refine enterZ (cx 9) [iQ i,pQ b] [.tmp 3] Tryz.func173 ?_;refine lQ 0 hc ?_;refine I1 cQ (e:=74) rfl hL i rfl hk2 λb9 o9 cs hcs hR hcell=>?_;obtain⟨xs,rfl,hx⟩:=hR;refine lQ 0 (hcell 0 _ rfl) ?_;exact⟨[],⟨rfl,rfl⟩,pk [0]⟩
theorem V7 (count:Int) (g:Nat) (p:Value) (w:World):j6 Tryz.prog 157 #[iQ count,.func (.func g) #[] #[p]] w (fD w λv' cs=>∃b1 b2,v'=.func (.func 202) #[] #[pQ b1,pQ b2]/\cs = [.box b1 [iQ count] 3,.box b2 [.func (.func g) #[] #[p]] 110]):=by
 refine enterZ (cx 6) [iQ count,.func (.func g) #[] #[p]] [.tmp 4] Tryz.func157 ?_;intro b1 b2;exact⟨[.box b1 _ _,.box b2 _ _],⟨b1,b2,rfl,rfl⟩,pk [0,1,2]⟩
theorem T5 {names:List e8} {g:Nat} {cap:List Value} {b1 b2:Nat} (s:e8) (w:World) (hn:names.length < 1000000) (h1:(Hp.whole w).cell? ⟨b1,0,none⟩=some (iQ names.length)) (h2:(Hp.whole w).cell? ⟨b2,0,none⟩=some (.func (.func g) #[] cap.toArray))
  (hg :∀w',(Hp.whole w).In w'->∀i (hi:i < names.length),j6 Tryz.prog g (iQ i::cap).toArray w' (v7 w' (sv names[i]))) :
  j6 Tryz.prog 202 #[sv s,pQ b1,pQ b2] w (v7 w (iQ (dY names s))):=by
 refine enterZ (cx 16) [sv s,pQ b1,pQ b2] [.tmp 4] Tryz.func202 ?_;refine lQ 0 h1 ?_;refine u6.mk Nat (λi=>[(0,.v (sv s)),(1,.v (pQ b1)),(2,.v (pQ b2)),(6,.v (iQ names.length)),(7,.v (iQ i))]) (λ_=>[.hp (Hp.whole w)])
  (λi=>i<=names.length/\s∉names.take i) (λi=>names.length - i) 0 ⟨f8 _,sQ⟩ (v6.mk (pj [0]) rfl rfl) ?_
 rintro i ⟨hi,hm⟩;refine d8 (λg1=>?_) λg1=>?_
 ·have hil:i < names.length:=om
  refine lQ 0 h2 ?_;refine mM ?_;refine k7 _ (λw' hm=>hg w' (hm 0 _ rfl) i hil) ?_;refine W8 ?_;refine d8 (λg2=>?_) λg2=>?_
  ·have e:dY names s=9:=if_pos (by rw[<-g2];exact j0 hil);rw[e];exact⟨[],⟨rfl,rfl⟩,pk [0]⟩
  ·refine nwo ?_;refine⟨i+1,⟨om,?_⟩,om,v6.mk (pj [0]) rfl rfl⟩;rw[I8 names i hil];intro c;rcases G1.1 c with c | c
   ·exact hm c
   ·exact g2 (E2.1 c).symm
 ·have e:dY names s=0:=if_neg (by
   have:i=names.length:=om
   rw[this,p9] at hm;exact hm)
  rw[e];exact⟨[],⟨rfl,rfl⟩,pk [0]⟩
end Go.Proofs.YtpjhmeicbjkcdaaGreatDoor
namespace Go.Proofs.YtpjhmeicbjkcdaaGreatDoor
open Go Go.RowKit Go.Dw
set_option maxRecDepth 10000 in
theorem uK {k h:Hp} {rb b:Nat} {r:RS} {a:Option Addr} {n c:Nat} {L:List S1} (w:World) (hin:h.In w) (hd:DR ((Hp.whole w).minus h) k h rb b r) (hL:Sl (B0 O1) 4 ((Hp.whole w).minus h) a n c L) (hn:L.length < 1000000) :
  j6 Tryz.prog 82 #[pQ rb,.slice a n c] w (SL w k h b (.agg (O1 (BJ (L.map λx:S1=>x.1) r).2).toArray) (BJ (L.map λx:S1=>x.1) r).1):=by
 have hlen:=hL.len;refine enterMZ (cx 74) [pQ rb,.slice a n c] hin [.cell 4 48] Tryz.func82 ?_;obtain⟨c0,hc0⟩ :∃c0,c0=(Hp.whole w).minus h:=⟨_,rfl⟩
 rw[<-hc0] at hd hL ⊢;obtain⟨names,hnames⟩ :∃l,l=L.map λx:S1=>x.1:=⟨_,rfl⟩
 rw[<-hnames];have hnl:n=names.length:=by rw[hnames,l7];exact hlen
 intro b3 b4;refine o7 λq' hq'=>?_;apply hq';refine nQ [.hp c0,.hp h,.box b3 [.slice a n c] 26,.box b4 [zs,iQ 0,iQ 0,iQ 0] 48] λq' hq'=>?_;refine l6 (i:=1) rfl (λw0 w' hok=>N9 (n:=names.length) (m:=64) (by rw[hnl]) rfl w' (hok.mem 1 _ rfl) (hd.mono (hok.le01 rfl rfl))) ?_;rintro _ h1 _ ⟨rfl,hR1⟩;have hR1:G9 k h1 b (J2 (r) names.length 64):=hR1;apply hq';refine nQ [.hp c0,.hp h1,.box b3 [.slice a n c] 26,.box b4 [zs,iQ 0,iQ 0,iQ 0] 48] λq' hq'=>?_;refine lQ 0 hd.hB ?_;refine l6 (i:=1) rfl (λw0 w' hok=>m6 w' (hok.mem 1 _ rfl) (hok.kle rfl rfl hd.hk) hR1) ?_;rintro _ h2 _ ⟨rfl,hR2⟩;have hR2:G9 k h2 b (x8 (J2 (r) names.length 64) qO):=hR2;obtain⟨r2,e2⟩ :∃x,x=x8 (J2 (r) names.length 64) qO:=⟨_,rfl⟩
 rw[<-e2] at hR2;apply hq';refine nQ [.hp c0,.hp h2,.box b3 [.slice a n c] 26,.box b4 [zs,iQ 0,iQ 0,iQ 0] 48] λq' hq'=>?_;refine call (λw' hm=>V7 _ _ _ w') ?_;rintro _ _ ⟨b5,b6,rfl,rfl⟩;refine l6 (i:=1) rfl (λw0 w' hok=>P8 (cap:=[pQ b5,pQ b6]) (chk:=dY names) w' (hok.mem 1 _ rfl) ((hd.to hR2).mono (hok.le01 rfl rfl)) (λw1 hi1 s _=>T5 (cap:=[pQ b3]) s w1 om (by rw[<-hnl];exact hi1.whole.cell (hok.bx1 (j:=4) (n:=0) rfl rfl dc rfl)) (hi1.whole.cell (hok.bx1 (j:=5) (n:=0) rfl rfl dc rfl)) (λw2 hi2 i hi=>by
  have hle:c0.le (Hp.whole w2):=((hok.le01 rfl rfl).trans hi1.whole).trans hi2.whole;subst hnames;exact IQ (L:=L) i w2 ((hi1.whole.trans hi2.whole).cell (hok.bx1 (j:=2) (n:=0) rfl rfl dc rfl)) (hL.mono (j7 _) hle) hi))) ?_
 rintro _ h3 _ ⟨rfl,rfl,hR3⟩;obtain⟨A,hA⟩ :∃x,x=P2 (r2) (dY names):=⟨_,rfl⟩
 rw[<-hA] at hR3 ⊢;intro b7;apply hq';refine nQ [.hp c0,.hp h3,.box b3 [.slice a n c] 26,.box b4 [zs,iQ 0,iQ 0,iQ 0] 48,.box b5 [iQ n] 3,.box b6 [.func (.func 168) #[] #[pQ b3]] 110,.box b7 [sv A.2,iQ 0,iQ 0,iQ 0] 48] λq' hq'=>?_;refine lQ 0 hd.hB ?_;refine l6 (i:=1) rfl (λw0 w' hok=>m6 w' (hok.mem 1 _ rfl) (hok.kle rfl rfl hd.hk) hR3) ?_;rintro _ h4 _ ⟨rfl,hR4⟩;have hR4:G9 k h4 b (x8 (A.1) [61]):=hR4;apply hq';refine nQ [.hp c0,.hp h4,.box b3 [.slice a n c] 26,.box b4 [zs,iQ 0,iQ 0,iQ 0] 48,.box b5 [iQ n] 3,.box b6 [.func (.func 168) #[] #[pQ b3]] 110,.box b7 [sv A.2,iQ 0,iQ 0,iQ 0] 48] λq' hq'=>?_;refine l6 (i:=1) rfl (λw0 w' hok=>iE w' (hok.mem 1 _ rfl) ((hd.to hR4).mono (hok.le01 rfl rfl))) ?_;rintro _ h5 _ ⟨rfl,rfl,hR5⟩;have hR5:G9 k h5 b ((wI (x8 (A.1) [61])).1):=hR5;obtain⟨B,hB⟩ :∃x,x=wI (x8 (A.1) [61]):=⟨_,rfl⟩
 rw[<-hB] at hR5 ⊢;apply hq';refine nQ [.hp c0,.hp h5,.box b3 [.slice a n c] 26,.box b4 [zs,iQ 0,iQ 0,iQ 0] 48,.box b5 [iQ n] 3,.box b6 [.func (.func 168) #[] #[pQ b3]] 110,.box b7 [sv A.2,iQ B.2,iQ 0,iQ 0] 48] λq' hq'=>?_;refine lQ 0 hd.hB ?_;refine l6 (i:=1) rfl (λw0 w' hok=>m6 w' (hok.mem 1 _ rfl) (hok.kle rfl rfl hd.hk) hR5) ?_;rintro _ h6 _ ⟨rfl,hR6⟩;have hR6:G9 k h6 b (x8 (B.1) [91]):=hR6;apply hq';refine nQ [.hp c0,.hp h6,.box b3 [.slice a n c] 26,.box b4 [zs,iQ 0,iQ 0,iQ 0] 48,.box b5 [iQ n] 3,.box b6 [.func (.func 168) #[] #[pQ b3]] 110,.box b7 [sv A.2,iQ B.2,iQ 0,iQ 0] 48] λq' hq'=>?_;refine l6 (i:=1) rfl (λw0 w' hok=>iE w' (hok.mem 1 _ rfl) ((hd.to hR6).mono (hok.le01 rfl rfl))) ?_;rintro _ h7 _ ⟨rfl,rfl,hR7⟩;have hR7:G9 k h7 b ((wI (x8 (B.1) [91])).1):=hR7;obtain⟨C,hC⟩ :∃x,x=wI (x8 (B.1) [91]):=⟨_,rfl⟩
 rw[<-hC] at hR7 ⊢;apply hq';refine nQ [.hp c0,.hp h7,.box b3 [.slice a n c] 26,.box b4 [zs,iQ 0,iQ 0,iQ 0] 48,.box b5 [iQ n] 3,.box b6 [.func (.func 168) #[] #[pQ b3]] 110,.box b7 [sv A.2,iQ B.2,iQ C.2,iQ 0] 48] λq' hq'=>?_;refine lQ 0 hd.hB ?_;refine l6 (i:=1) rfl (λw0 w' hok=>m6 w' (hok.mem 1 _ rfl) (hok.kle rfl rfl hd.hk) hR7) ?_;rintro _ h8 _ ⟨rfl,hR8⟩;have hR8:G9 k h8 b (x8 (C.1) [44]):=hR8;apply hq';refine nQ [.hp c0,.hp h8,.box b3 [.slice a n c] 26,.box b4 [zs,iQ 0,iQ 0,iQ 0] 48,.box b5 [iQ n] 3,.box b6 [.func (.func 168) #[] #[pQ b3]] 110,.box b7 [sv A.2,iQ B.2,iQ C.2,iQ 0] 48] λq' hq'=>?_;refine l6 (i:=1) rfl (λw0 w' hok=>iE w' (hok.mem 1 _ rfl) ((hd.to hR8).mono (hok.le01 rfl rfl))) ?_;rintro _ h9 _ ⟨rfl,rfl,hR9⟩;have hR9:G9 k h9 b ((wI (x8 (C.1) [44])).1):=hR9;obtain⟨D,hD⟩ :∃x,x=wI (x8 (C.1) [44]):=⟨_,rfl⟩
 rw[<-hD] at hR9 ⊢;apply hq';refine nQ [.hp c0,.hp h9,.box b3 [.slice a n c] 26,.box b4 [zs,iQ 0,iQ 0,iQ 0] 48,.box b5 [iQ n] 3,.box b6 [.func (.func 168) #[] #[pQ b3]] 110,.box b7 [sv A.2,iQ B.2,iQ C.2,iQ D.2] 48] λq' hq'=>?_;refine lQ 0 hd.hB ?_;refine l6 (i:=1) rfl (λw0 w' hok=>m6 w' (hok.mem 1 _ rfl) (hok.kle rfl rfl hd.hk) hR9) ?_;rintro _ h10 _ ⟨rfl,hR10⟩;have hR10:G9 k h10 b (x8 (D.1) [93]):=hR10;obtain⟨r10,e10⟩ :∃x,x=x8 (D.1) [93]:=⟨_,rfl⟩
 rw[<-e10] at hR10;apply hq';refine nQ [.hp c0,.hp h10,.box b3 [.slice a n c] 26,.box b4 [zs,iQ 0,iQ 0,iQ 0] 48,.box b5 [iQ n] 3,.box b6 [.func (.func 168) #[] #[pQ b3]] 110,.box b7 [sv A.2,iQ B.2,iQ C.2,iQ D.2] 48] λq' hq'=>?_;have eD:BJ names r=(x8 (if aA r10 [59]=true/\D.2 < C.2 then y7 r10 8 else r10) [59],(A.2,B.2,C.2,D.2)):=by
  unfold BJ;dsimp only;rw[<-e2,<-hA,<-hB,<-hC,<-hD,<-e10]
 refine lQ 0 hd.hB ?_;refine k7 _ (λw' hm=>S0 w' (hm 1 _ rfl) (hd.hk.trans (hm 0 _ rfl).whole) hR10) ?_;refine s8 (λg1=>?_) λg1=>?_
 ·apply hq';refine d8 (λg2=>?_) λg2=>?_
  ·refine nQ [.hp c0,.hp h10,.box b3 [.slice a n c] 26,.box b4 [zs,iQ 0,iQ 0,iQ 0] 48,.box b5 [iQ n] 3,.box b6 [.func (.func 168) #[] #[pQ b3]] 110,.box b7 [sv A.2,iQ B.2,iQ C.2,iQ D.2] 48] λq' hq'=>?_;refine lQ 0 hd.hB ?_;refine l6 (i:=1) rfl (λw0 w' hok=>G8 w' (hok.mem 1 _ rfl) (hok.kle rfl rfl hd.hk) hR10) ?_;rintro _ h11 _ ⟨rfl,hR11⟩;have hR11:G9 k h11 b (y7 (r10) 8):=hR11;apply hq';refine nQ [.hp c0,.hp h11,.box b3 [.slice a n c] 26,.box b4 [zs,iQ 0,iQ 0,iQ 0] 48,.box b5 [iQ n] 3,.box b6 [.func (.func 168) #[] #[pQ b3]] 110,.box b7 [sv A.2,iQ B.2,iQ C.2,iQ D.2] 48] λq' hq'=>?_;refine lQ 0 hd.hB ?_;refine l6 (i:=1) rfl (λw0 w' hok=>m6 w' (hok.mem 1 _ rfl) (hok.kle rfl rfl hd.hk) hR11) ?_;rintro _ h12 _ ⟨rfl,hR12⟩;have hR12:G9 k h12 b (x8 (y7 (r10) 8) [59]):=hR12;apply hq';rw[eD,if_pos ⟨g1,om⟩];exact⟨h12,[],⟨rfl,rfl,hR12⟩,pk [0,1]⟩
  ·refine nQ [.hp c0,.hp h10,.box b3 [.slice a n c] 26,.box b4 [zs,iQ 0,iQ 0,iQ 0] 48,.box b5 [iQ n] 3,.box b6 [.func (.func 168) #[] #[pQ b3]] 110,.box b7 [sv A.2,iQ B.2,iQ C.2,iQ D.2] 48] λq' hq'=>?_;refine lQ 0 hd.hB ?_;refine l6 (i:=1) rfl (λw0 w' hok=>m6 w' (hok.mem 1 _ rfl) (hok.kle rfl rfl hd.hk) hR10) ?_;rintro _ h11 _ ⟨rfl,hR11⟩;have hR11:G9 k h11 b (x8 (r10) [59]):=hR11;apply hq';rw[eD,if_neg (λc=>g2 (by have:=c.2;omega))];exact⟨h11,[],⟨rfl,rfl,hR11⟩,pk [0,1]⟩
 ·apply hq';refine dQ rfl ?_;refine nQ [.hp c0,.hp h10,.box b3 [.slice a n c] 26,.box b4 [zs,iQ 0,iQ 0,iQ 0] 48,.box b5 [iQ n] 3,.box b6 [.func (.func 168) #[] #[pQ b3]] 110,.box b7 [sv A.2,iQ B.2,iQ C.2,iQ D.2] 48] λq' hq'=>?_;refine lQ 0 hd.hB ?_;refine l6 (i:=1) rfl (λw0 w' hok=>m6 w' (hok.mem 1 _ rfl) (hok.kle rfl rfl hd.hk) hR10) ?_;rintro _ h11 _ ⟨rfl,hR11⟩;have hR11:G9 k h11 b (x8 (r10) [59]):=hR11;apply hq';rw[eD,if_neg (λc=>by rw[g1] at c;cases c.1)];exact⟨h11,[],⟨rfl,rfl,hR11⟩,pk [0,1]⟩
end Go.Proofs.YtpjhmeicbjkcdaaGreatDoor
namespace Go.Proofs.YtpjhmeicbjkcdaaGreatDoor
open Go Go.RowKit Go.Dw
theorem MB {b:Nat} {s:e8} (d:S1) (w:World) (hc:(Hp.whole w).cell? ⟨b,0,none⟩=some (sv s)):j6 Tryz.prog 207 #[.agg (O1 d).toArray,pQ b] w (v7 w (.bool (decide (d.1=s)))):=by
 refine enterZ (cx 8) [.agg #[sv d.1,iQ d.2.1,iQ d.2.2.1,iQ d.2.2.2],pQ b] [.tmp 3] Tryz.func207 ?_;intro b2;refine lQ 0 hc ?_;refine W8 ?_;exact⟨[],⟨rfl,rfl⟩,pk [0]⟩
theorem RH {D:List S1} {s:e8}:Z8 (λd:S1=>decide (d.1=s)) D=mK (D.map λx:S1=>x.1) s:=by
 induction D with
 | nil=>rfl
 | cons y r ih=>
  simp only[Z8,ih];unfold mK;simp only[N7,A8,List.idxOf_cons];by_cases e:y.1=s
  ·simp[e]
  ·have e2 : ¬ s=y.1:=λh=>e h.symm;by_cases hm:s∈r.map λx:S1=>x.1
   ·have hb:(y.1==s)=false:=by simpa using e
    simp only[e,e2,hm,decide_false,iN,if_false,false_or,if_true,hb,cond_false];rw[if_neg om];omega
   ·simp[e,e2,hm]
set_option maxRecDepth 10000 in
theorem fX {b1 b7 b4 rb nd cd:Nat} {ad:Option Addr} {D:List S1} {last z:Int} (s:e8) (w:World) (hin:(Ch.box b7 [iQ z] 3).h.In w)
  (h1:((Hp.whole w).minus (Ch.box b7 [iQ z] 3).h).cell? ⟨b1,0,none⟩=some (pQ rb)) (h2:((Hp.whole w).minus (Ch.box b7 [iQ z] 3).h).cell? ⟨rb,1,none⟩=some (.slice ad nd cd))
  (h4:((Hp.whole w).minus (Ch.box b7 [iQ z] 3).h).cell? ⟨b4,0,none⟩=some (iQ last)) (hD:Sl (B0 O1) 4 ((Hp.whole w).minus (Ch.box b7 [iQ z] 3).h) ad nd cd D) (hn:D.length < 1000000) :
  j6 Tryz.prog 206 #[sv s,pQ b1,pQ b7,pQ b4] w
   (O6 w (Ch.box b7 [iQ z] 3).h λv h' cs2=>cs2 = []/\∃cs',(Ch.box b7 cs' 3).h.le h'/\(v=iQ (kJ (D.map λx:S1=>x.1) last s)/\cs' = [iQ (mK (D.map λx:S1=>x.1) s)])):=by
 have hdl:=hD.len;obtain⟨c0,hc0⟩ :∃c0,c0=(Hp.whole w).minus (Ch.box b7 [iQ z] 3).h:=⟨_,rfl⟩
 have ok0:Ok w [.hp c0,.box b7 [iQ z] 3] w:=by rw[hc0];exact Ok.same (s:=[.hp ((Hp.whole w).minus (Ch.box b7 [iQ z] 3).h),.hp (Ch.box b7 [iQ z] 3).h]) (i:=1) (c:=.hp (Ch.box b7 [iQ z] 3).h) (d:=.box b7 [iQ z] 3) rfl rfl (Ok.start2 w hin)
 refine enterMSZ (cx 19) [sv s,pQ b1,pQ b7,pQ b4] ok0 [.tmp 5] Tryz.func206 ?_;rw[<-hc0] at h1 h2 h4 hD ⊢;intro b5;refine lQ 0 h1 ?_;refine lQ 0 h2 ?_;refine k7 _ (λw' hm=>fV 207 (pQ b5) (λd:S1=>decide (d.1=s)) w' (hD.mono (j7 _) (hm 0 _ rfl).whole) om (λw2 hi2 d _ cs _ hcs=>by
  have hcs:cs=O1 d:=hcs;subst hcs;exact MB d w2 ((hi2.le (hm 2 _ rfl).whole).whole.cell (bP b5 _ _)))) ?_
 rw[RH];unfold kJ;obtain⟨X,hX⟩ :∃X,X=mK (D.map λx:S1=>x.1) s:=⟨_,rfl⟩
 rw[<-hX];refine fI cQ (i:=1) (j:=0) rfl rfl rfl sQ rfl rfl ?_;refine lR 1 0 ?_;refine d8 (λg1=>?_) λg1=>?_
 ·rw[if_pos g1];exact⟨(Ch.box b7 [iQ X] 3).h,[],⟨rfl,_,λ_ _ h=>h,rfl,rfl⟩,λw' h=>(h.pick [0,1] rfl rfl).boxHp⟩
 rw[if_neg g1];refine lR 1 0 ?_;refine lQ 0 h4 ?_;refine d8 (λg2=>?_) λg2=>?_;focus
  rw[if_pos g2]
 rotate_left
 focus
  rw[if_neg g2]
 all_goals
  exact⟨(Ch.box b7 [iQ X] 3).h,[],⟨rfl,_,λ_ _ h=>h,rfl,rfl⟩,λw' h=>(h.pick [0,1] rfl rfl).boxHp⟩
end Go.Proofs.YtpjhmeicbjkcdaaGreatDoor
namespace Go.Proofs.YtpjhmeicbjkcdaaGreatDoor
open Go Go.Shelf Go.RowKit Go.Dw Go.Lib
def EM (k r:Nat):Prop:=(97<=r/\r<=122)\/(k≠0/\((48<=r/\r<=57)\/r=45\/r=95))
theorem ET {c:UInt8}:K7 c=true↔(97<=c.toNat/\c.toNat<=122)\/(48<=c.toNat/\c.toNat<=57)\/c.toNat=45\/c.toNat=95:=by
 unfold K7 P4 l8;simp only[U8,k6,decide_eq_true_eq,or_assoc];have e1:c=45↔c.toNat=45:=⟨λe=>by rw[e];rfl,λe=>UInt8.toNat_inj.1 e⟩
 have e2:c=95↔c.toNat=95:=⟨λe=>by rw[e];rfl,λe=>UInt8.toNat_inj.1 e⟩
 rw[e1,e2]
theorem OC {c:UInt8}:P4 c=true↔97<=c.toNat/\c.toNat<=122:=by
 unfold P4;simp only[k6,decide_eq_true_eq]
theorem Ei {s:e8} {k r m:Nat} (hk:k < s.length) {c:UInt8} (hc:s[k]'hk=c) (hd:Utf8.decode (bs s) k=(r,m)):(EM k r->m=1/\K7 c=true/\(k=0->P4 c=true))/\(¬ EM k r->tO s=false):=by
 have hnot:(K7 c=false\/(k=0/\P4 c=false))->tO s=false:=λh=>by
  cases hw:tO s with
  | false=>rfl
  | true=>
   exfalso
   unfold tO at hw;simp only[k6,decide_eq_true_eq,z6] at hw;obtain⟨_,_,h3,h4⟩:=hw;rcases h with h | ⟨h0,h⟩
   ·have:=h4 _ (j0 hk);rw[hc,h] at this;cases this
   ·subst h0;rw[i7,i6 hk,hc] at h3;rw[show P4 c=true from h3] at h;cases h
 have hp:k < (bs s).size:=by rw[B6];exact hk
 have hg:(bs s)[k]'hp=c:=hc;by_cases ha:c.toNat < 128
 ·have:=decode_ascii (bs s) k hp (by rw[hg];exact ha);rw[hd,hg] at this;obtain⟨rfl,rfl⟩:=Prod.mk.inj this;unfold EM;refine⟨λh=>⟨rfl,ET.2 om,λh0=>OC.2 om⟩,λh=>hnot ?_⟩;by_cases hi:K7 c=true
  ·refine .inr ?_;have:=ET.1 hi;have h0:k=0:=om
   refine⟨h0,?_⟩;cases hl:P4 c with
   | false=>rfl
   | true=>exact absurd (.inl (OC.1 hl)) h
  ·exact .inl (by simpa using hi)
 ·obtain⟨h1,_⟩:=decode_high (bs s) k hp (by rw[hg];omega);rw[hd] at h1;have h1:128<=r:=h1;unfold EM;refine⟨λh=>by omega,λ_=>hnot (.inl ?_)⟩;cases hi:K7 c with
  | false=>rfl
  | true=>have:=ET.1 hi;omega
set_option maxRecDepth 20000 in
set_option maxHeartbeats 2000000 in
theorem HQ (s:e8) (hs:s.length < 1000000) (w:World):j6 Tryz.prog 130 #[sv s] w (v7 w (.bool (tO s))):=by
 have hz:=B6 s;refine enterZ (cx 47) [sv s] [.tmp 2] Tryz.func130 ?_;refine NQ cQ rfl rfl λb=>?_;refine u6.mk Nat (λ_=>[(0,.v (sv s)),(7,.v (pQ b))]) (λk=>[.hp (Hp.whole w),.hp (Hp.one b (.stringIter (bs s) k))])
  (λk=>k<=s.length/\(∀j (hj:j < s.length),j < k->K7 s[j]=true)/\(0 < k->P4 (s.getD 0 0)=true)) (λk=>s.length - k) 0 ⟨f8 _,λj _ hj=>absurd hj (H5 _),λh=>absurd h dc⟩ (v6.mk (λ_ _ h=>h) rfl rfl) ?_
 rintro k ⟨hk,hin,hlo⟩;dsimp only at hk hin hlo ⊢;refine Co λq' hq'=>?_;refine VF (i:=1) rfl (λhlt=>?_) λhge=>?_
 ·have hk':k < s.length:=om
  obtain⟨r,m,hd⟩ :∃r m,Utf8.decode (bs s) k=(r,m):=⟨_,_,rfl⟩
  obtain⟨hg,hb⟩:=Ei hk' rfl hd;rw[hd];dsimp only;have inv:EM k r->k+1<=s.length/\(∀j (hj:j < s.length),j < k+1->K7 s[j]=true)/\(0 < k+1->P4 (s.getD 0 0)=true):=λho=>by
   obtain⟨_,g2,g3⟩:=hg ho;refine⟨om,λj hj hjk=>?_,λ_=>?_⟩
   ·rcases K8 j k with h2 | h2
    ·exact hin j hj h2
    ·have:j=k:=om
     subst this;exact g2
   ·rcases w6 k with h0 | h0
    ·subst h0;rw[i7,i6 hk'];exact g3 rfl
    ·exact hlo h0
  have nx:=λho=>(⟨(hg ho).1,inv ho⟩:m=1/\_)
  (iterate 2 refine o7 (λ_ kz=>kz _ _ ?_));show Q7 _ _ _ _ _ _
  (iterate 3 refine w1j λK hK=>?_;apply hK);refine dU (by rfl) (by rfl) (by rfl) (λh2_ K hK=>?_) λh2_ K hK=>?_
  ·apply hK;refine wGYj λK hK=>?_;(iterate 2 apply hK;refine w1j λK hK=>?_);apply hK;refine dA ?_;have g2_:=h2_;show Q7 _ _ _ _ _ _
   (iterate 3 refine w1j λK hK=>?_;apply hK);refine dU (by rfl) (by rfl) (by rfl) (λh2_ K hK=>?_) λh2_ K hK=>?_
   ·(iterate 2 apply hK;refine wGYj λK hK=>?_);apply hK;refine dU (by rfl) (by rfl) (by rfl) (λh5_ K hK=>?_) λh5_ K hK=>?_;focus
     (iterate 2 apply hK;refine wGYj λK hK=>?_);apply hK;refine dU (by rfl) (by rfl) (by rfl) (λh8_ K hK=>?_) λh8_ K hK=>?_;focus
      (iterate 3 apply hK;refine wGYj λK hK=>?_);apply hK;refine dU (by rfl) (by rfl) (by rfl) (λh12_ K hK=>?_) λh12_ K hK=>?_
      ·(iterate 3 apply hK;refine wGYj λK hK=>?_);apply hK;refine dU (by rfl) (by rfl) (by rfl) (λh16_ K hK=>?_) λh16_ K hK=>?_;focus
        apply hK;refine wGYj λK hK=>?_
       rotate_left
       focus
        apply hK;refine wGNj λK hK=>?_
       all_goals
        (iterate 2 apply hK;refine wGYj λK hK=>?_);apply hK;refine w1j λK hK=>?_;apply hK;refine dA ?_;try simp at g2_
        try simp at h2_
        try simp at h5_
        try simp at h8_
        try simp at h12_
        try simp at h16_
        refine M6 (by rfl) (λh9=>?_) λh9=>?_
        ·first | exact absurd h9 dc | ((try simp at h9);exfalso;omega) | ((try simp at h9);exact hq' _ _ _ ⟨[],⟨by rw[hb (by unfold EM;omega)],rfl⟩,pk [0]⟩)
        ·first | exact absurd h9 dc | ((try simp at h9);exfalso;omega) | ((try simp at h9);obtain⟨rfl,iv⟩:=nx (by unfold EM;omega);exact hq' _ _ _ ⟨k+1,iv,by (try dsimp only);omega,v6.mk (pj [0,1]) rfl rfl⟩)
      focus
       apply hK;refine wGNj λK hK=>?_;(iterate 2 apply hK;refine wGYj λK hK=>?_);(iterate 2 apply hK;refine wGNj λK hK=>?_);(iterate 2 apply hK;refine wGYj λK hK=>?_);apply hK;refine w1j λK hK=>?_;apply hK;refine dA ?_;try simp at g2_
       try simp at h2_
       try simp at h5_
       try simp at h8_
       try simp at h12_
     rotate_left
     ·apply hK;refine wGNj λK hK=>?_;(iterate 6 apply hK;refine wGYj λK hK=>?_);apply hK;refine dU (by rfl) (by rfl) (by rfl) (λh16_ K hK=>?_) λh16_ K hK=>?_;focus
       apply hK;refine wGYj λK hK=>?_
      rotate_left
      focus
       apply hK;refine wGNj λK hK=>?_
      all_goals
       (iterate 2 apply hK;refine wGYj λK hK=>?_);apply hK;refine w1j λK hK=>?_;apply hK;refine dA ?_;try simp at g2_
       try simp at h2_
       try simp at h5_
       try simp at h8_
       try simp at h16_
       refine M6 (by rfl) (λh9=>?_) λh9=>?_
       ·first | exact absurd h9 dc | ((try simp at h9);exfalso;omega) | ((try simp at h9);exact hq' _ _ _ ⟨[],⟨by rw[hb (by unfold EM;omega)],rfl⟩,pk [0]⟩)
       ·first | exact absurd h9 dc | ((try simp at h9);exfalso;omega) | ((try simp at h9);obtain⟨rfl,iv⟩:=nx (by unfold EM;omega);exact hq' _ _ _ ⟨k+1,iv,by (try dsimp only);omega,v6.mk (pj [0,1]) rfl rfl⟩)
    rotate_left
    focus
     (iterate 2 apply hK;refine wGNj λK hK=>?_);(iterate 2 apply hK;refine FR (by rfl) (by rfl) (by rfl) λK hK=>?_);(iterate 2 apply hK;refine wGNj λK hK=>?_);(iterate 2 apply hK;refine FR (by rfl) (by rfl) (by rfl) λK hK=>?_);(iterate 2 apply hK;refine wGNj λK hK=>?_);(iterate 2 apply hK;refine FR (by rfl) (by rfl) (by rfl) λK hK=>?_);apply hK;refine wGNj λK hK=>?_;apply hK;refine wGYj λK hK=>?_;apply hK;refine w1j λK hK=>?_;apply hK;refine dA ?_;try simp at g2_
     try simp at h2_
     try simp at h5_
    all_goals
     refine M6 (by rfl) (λh9=>?_) λh9=>?_
     ·first | exact absurd h9 dc | ((try simp at h9);exfalso;omega) | ((try simp at h9);exact hq' _ _ _ ⟨[],⟨by rw[hb (by unfold EM;omega)],rfl⟩,pk [0]⟩)
     ·first | exact absurd h9 dc | ((try simp at h9);exfalso;omega) | ((try simp at h9);obtain⟨rfl,iv⟩:=nx (by unfold EM;omega);exact hq' _ _ _ ⟨k+1,iv,by (try dsimp only);omega,v6.mk (pj [0,1]) rfl rfl⟩)
   ·(iterate 2 apply hK;refine wGNj λK hK=>?_);(iterate 14 apply hK;refine FR (by rfl) (by rfl) (by rfl) λK hK=>?_);apply hK;refine wGNj λK hK=>?_;apply hK;refine w1j λK hK=>?_;apply hK;refine dA ?_;try simp at g2_
    try simp at h2_
    refine M6 (by rfl) (λh9=>?_) λh9=>?_
    ·first | exact absurd h9 dc | ((try simp at h9);exfalso;omega) | ((try simp at h9);exact hq' _ _ _ ⟨[],⟨by rw[hb (by unfold EM;omega)],rfl⟩,pk [0]⟩)
    ·first | exact absurd h9 dc | ((try simp at h9);exfalso;omega) | ((try simp at h9);obtain⟨rfl,iv⟩:=nx (by unfold EM;omega);exact hq' _ _ _ ⟨k+1,iv,by (try dsimp only);omega,v6.mk (pj [0,1]) rfl rfl⟩)
  ·apply hK;refine wGNj λK hK=>?_;(iterate 2 apply hK;refine w1j λK hK=>?_);apply hK;refine dA ?_;have g2_:=h2_;show Q7 _ _ _ _ _ _
   (iterate 3 refine w1j λK hK=>?_;apply hK);(iterate 3 refine wGYj λK hK=>?_;apply hK);refine dU (by rfl) (by rfl) (by rfl) (λh5_ K hK=>?_) λh5_ K hK=>?_;focus
    (iterate 2 apply hK;refine wGYj λK hK=>?_);apply hK;refine dU (by rfl) (by rfl) (by rfl) (λh8_ K hK=>?_) λh8_ K hK=>?_;focus
     (iterate 3 apply hK;refine wGYj λK hK=>?_);apply hK;refine dU (by rfl) (by rfl) (by rfl) (λh12_ K hK=>?_) λh12_ K hK=>?_
     ·(iterate 3 apply hK;refine wGYj λK hK=>?_);apply hK;refine dU (by rfl) (by rfl) (by rfl) (λh16_ K hK=>?_) λh16_ K hK=>?_;focus
       apply hK;refine wGYj λK hK=>?_
      rotate_left
      focus
       apply hK;refine wGNj λK hK=>?_
      all_goals
       (iterate 2 apply hK;refine wGYj λK hK=>?_);apply hK;refine w1j λK hK=>?_;apply hK;refine dA ?_;try simp at g2_
       try simp at h5_
       try simp at h8_
       try simp at h12_
       try simp at h16_
       refine M6 (by rfl) (λh9=>?_) λh9=>?_
       ·first | exact absurd h9 dc | ((try simp at h9);exfalso;omega) | ((try simp at h9);exact hq' _ _ _ ⟨[],⟨by rw[hb (by unfold EM;omega)],rfl⟩,pk [0]⟩)
       ·first | exact absurd h9 dc | ((try simp at h9);exfalso;omega) | ((try simp at h9);obtain⟨rfl,iv⟩:=nx (by unfold EM;omega);exact hq' _ _ _ ⟨k+1,iv,by (try dsimp only);omega,v6.mk (pj [0,1]) rfl rfl⟩)
     focus
      apply hK;refine wGNj λK hK=>?_;(iterate 2 apply hK;refine wGYj λK hK=>?_);(iterate 2 apply hK;refine wGNj λK hK=>?_);(iterate 2 apply hK;refine wGYj λK hK=>?_);apply hK;refine w1j λK hK=>?_;apply hK;refine dA ?_;try simp at g2_
      try simp at h5_
      try simp at h8_
      try simp at h12_
    rotate_left
    ·apply hK;refine wGNj λK hK=>?_;(iterate 6 apply hK;refine wGYj λK hK=>?_);apply hK;refine dU (by rfl) (by rfl) (by rfl) (λh16_ K hK=>?_) λh16_ K hK=>?_;focus
      apply hK;refine wGYj λK hK=>?_
     rotate_left
     focus
      apply hK;refine wGNj λK hK=>?_
     all_goals
      (iterate 2 apply hK;refine wGYj λK hK=>?_);apply hK;refine w1j λK hK=>?_;apply hK;refine dA ?_;try simp at g2_
      try simp at h5_
      try simp at h8_
      try simp at h16_
      refine M6 (by rfl) (λh9=>?_) λh9=>?_
      ·first | exact absurd h9 dc | ((try simp at h9);exfalso;omega) | ((try simp at h9);exact hq' _ _ _ ⟨[],⟨by rw[hb (by unfold EM;omega)],rfl⟩,pk [0]⟩)
      ·first | exact absurd h9 dc | ((try simp at h9);exfalso;omega) | ((try simp at h9);obtain⟨rfl,iv⟩:=nx (by unfold EM;omega);exact hq' _ _ _ ⟨k+1,iv,by (try dsimp only);omega,v6.mk (pj [0,1]) rfl rfl⟩)
   rotate_left
   focus
    (iterate 2 apply hK;refine wGNj λK hK=>?_);(iterate 2 apply hK;refine FR (by rfl) (by rfl) (by rfl) λK hK=>?_);(iterate 2 apply hK;refine wGNj λK hK=>?_);(iterate 2 apply hK;refine FR (by rfl) (by rfl) (by rfl) λK hK=>?_);(iterate 2 apply hK;refine wGNj λK hK=>?_);(iterate 2 apply hK;refine FR (by rfl) (by rfl) (by rfl) λK hK=>?_);apply hK;refine wGNj λK hK=>?_;apply hK;refine wGYj λK hK=>?_;apply hK;refine w1j λK hK=>?_;apply hK;refine dA ?_;try simp at g2_
    try simp at h5_
   all_goals
    refine M6 (by rfl) (λh9=>?_) λh9=>?_
    ·first | exact absurd h9 dc | ((try simp at h9);exfalso;omega) | ((try simp at h9);exact hq' _ _ _ ⟨[],⟨by rw[hb (by unfold EM;omega)],rfl⟩,pk [0]⟩)
    ·first | exact absurd h9 dc | ((try simp at h9);exfalso;omega) | ((try simp at h9);obtain⟨rfl,iv⟩:=nx (by unfold EM;omega);exact hq' _ _ _ ⟨k+1,iv,by (try dsimp only);omega,v6.mk (pj [0,1]) rfl rfl⟩)
 ·refine hq' _ _ _ ?_;have hk2:k=s.length:=om
  subst hk2;have hall:s.all K7=true:=by
   rw[z6];intro c hc;obtain⟨j,hj,rfl⟩:=qG hc;exact hin j hj hj
  refine cG (b:=[]) ?_;refine d8 (λh1=>?_) λh1=>?_
  ·have h0:0 < s.length:=G2.2 h1;refine⟨[],⟨?_,rfl⟩,pk [0]⟩;unfold tO;rw[hall,hlo h0,decide_eq_true h1,F6,F6,Nf];congr 1
   rw[decide_eq_decide];omega
  ·have h1:s = []:=l9.1 h1;subst h1;exact⟨[],⟨rfl,rfl⟩,pk [0]⟩
theorem Z0 (s:e8) (hs:s.length < 1000000) (w:World):j6 Tryz.prog 57 #[sv s] w (v7 w (sv (P1 s))):=by
 unfold P1;refine enterZ (cx 14) [sv s] [.tmp 2] Tryz.func57 ?_;refine k7 _ (λw' hm=>HQ s hs w') ?_;refine s8 (λh1=>?_) λh1=>?_
 ·rw[if_pos h1];exact⟨[],⟨rfl,rfl⟩,pk [0]⟩
 ·rw[if_neg (by rw[h1];decide)];refine k7 _ (λw' hm=>AN s hs w') ?_;exact⟨[],⟨rfl,rfl⟩,pk [0]⟩
end Go.Proofs.YtpjhmeicbjkcdaaGreatDoor
namespace Go.Proofs.YtpjhmeicbjkcdaaGreatDoor
open Go Go.RowKit Go.Dw
def LZ (l:List S1) (i:Nat):Int:=if (l.take i).any (λe=>decide (e.1=(l.getD i ([],0,0,0)).1))=true then 9 else 0
def HD (l:List S1):Int:=if 64 < l.length then 6 else if l.any (λd=>!H8 d.1)=true then 11 else mO (LZ l) l.length
theorem QU (d:S1) (w:World):j6 Tryz.prog 142 #[.agg (O1 d).toArray] w (v7 w (.bool (!H8 d.1))):=by
 refine enterZ (cx 7) [.agg #[sv d.1,iQ d.2.1,iQ d.2.2.1,iQ d.2.2.2]] [.tmp 2] Tryz.func142 ?_;intro b1;refine k7 _ (λw' hm=>dK d.1 w') ?_;exact⟨[],⟨rfl,rfl⟩,pk [0]⟩
theorem QT {b:Nat} {x:e8} (d:S1) (w:World) (hc:(Hp.whole w).cell? ⟨b,0,none⟩=some (sv x)):j6 Tryz.prog 143 #[.agg (O1 d).toArray,pQ b] w (v7 w (.bool (decide (d.1=x)))):=by
 refine enterZ (cx 9) [.agg #[sv d.1,iQ d.2.1,iQ d.2.2.1,iQ d.2.2.2],pQ b] [.tmp 3] Tryz.func143 ?_;intro b2;refine lQ 0 hc ?_;refine W8 ?_;exact⟨[],⟨rfl,rfl⟩,pk [0]⟩
set_option maxRecDepth 10000 in
theorem wO {a:Option Addr} {n c:Nat} {L:List S1} (w:World) (hL:Sl (B0 O1) 4 (Hp.whole w) a n c L) (hn:L.length < 1000000) :
  j6 Tryz.prog 68 #[.slice a n c] w (v7 w (iQ (HD L))):=by
 have hlen:=hL.len;unfold HD;refine enterZ (cx 23) [.slice a n c] [.tmp 2] Tryz.func68 ?_;refine d8 (λh1=>?_) λh1=>?_
 ·rw[if_pos om];exact⟨[],⟨rfl,rfl⟩,pk [0]⟩
 rw[if_neg om];refine k7 _ (λw' hm=>kR 142 (λd=>!H8 d.1) w' (hL.mono (j7 _) (hm 0 _ rfl).whole) om (λw2 _ d _ cs _ hs=>by
  have hs:cs=O1 d:=hs;subst hs;exact QU d w2)) ?_
 refine s8 (λh2=>?_) λh2=>?_
 ·rw[if_pos h2];exact⟨[],⟨rfl,rfl⟩,pk [0]⟩
 rw[if_neg (by rw[h2];decide)];refine u6.mk Nat (λk=>[(0,.v (.slice a n c)),(10,.v (.slice a n c)),(11,.v (iQ n)),(12,.v (iQ k))]) (λ_=>[.hp (Hp.whole w)])
  (λk=>k<=n/\∀j,j < k->LZ L j=0) (λk=>n - k) 0 ⟨f8 _,λj hj=>absurd hj (H5 _)⟩ (v6.mk (pj [0]) rfl rfl) ?_
 rintro k ⟨hk,hz⟩;dsimp only at hk hz ⊢;refine d8 (λh3=>?_) λh3=>?_
 ·have hkl:k < L.length:=om
  obtain⟨d,hd⟩ :∃d,d=L[k]:=⟨_,rfl⟩
  have hgd:L.getD k ([],0,0,0)=d:=by rw[i7,i6 hkl,hd];rfl
  have hK:LZ L k=if (L.take k).any (λe=>decide (e.1=d.1))=true then 9 else 0:=by unfold LZ;rw[hgd]
  obtain⟨nm,d1,d2,d3⟩:=d;refine I1 cQ (e:=48) rfl hL k rfl hkl λb9 o9 cs hcs hR hcell=>?_;rw[<-hd] at hR;have hR:cs = [sv nm,iQ d1,iQ d2,iQ d3]:=hR;subst hR;refine T7 cQ (i:=0) rfl hcell rfl ?_;intro b4;refine ZE cQ (e:=48) rfl hL 0 k (Or.inl ⟨rfl,rfl⟩) (Or.inr ⟨_,_,rfl,rfl⟩) om om λa19 hs19=>?_;rw[H6] at hs19;refine k7 _ (λw' hm=>kP 143 (pQ b4) (λe=>decide (e.1=nm)) w' (hs19.mono (j7 _) (hm 0 _ rfl).whole) om (λw2 h2 e _ cs _ hs=>by
   have hs:cs=O1 e:=hs;subst hs;exact QT e w2 ((h2.le (hm 1 _ rfl).whole).whole.cell (J3 b4 _ rfl)))) ?_
  refine s8 (λh4=>?_) λh4=>?_
  ·rw[if_pos h4] at hK;rw[zN hz hkl hK dc];exact⟨[],⟨rfl,rfl⟩,pk [0]⟩
  ·rw[if_neg (by rw[h4];decide)] at hK;refine nwo ?_;exact⟨k+1,⟨om,λj hj=>(K8 j k).elim (hz j) (λg=>by rw[show j=k by omega];exact hK)⟩,by (try dsimp only);omega,v6.mk (pj [0]) rfl rfl⟩
 ·rw[V8.2 (λj hj=>hz j om)];exact⟨[],⟨rfl,rfl⟩,pk [0]⟩
theorem mZ {a:Option Addr} {n c e:Nat} {x:Ex} {cs:List Value} (w:World) (hn:n < 1000000) (hx:AS x) (he:P5 e (Hp.whole w) x cs) :
  j6 Tryz.prog 17 #[.slice a n c,.agg cs.toArray] w (v7 w (iQ (pL n x))):=by
 match e,he with
 | e+1,he=>
 obtain⟨op,f,fac,args⟩:=x;have he':=he;obtain⟨a2,n2,c2,a1,n1,c1,rfl,_⟩:=he;refine enterZ (cx 9) [.slice a n c,.agg #[iQ op,sv f.1,.slice a2 n2 c2,sv fac,.slice a1 n1 c1]] [.tmp 4] Tryz.func17 ?_;intro b3;refine k7 _ (λw' hm=>mT w' hn hx (q7 _ _ _ _ _ (hm 0 _ rfl).whole he')) ?_;exact⟨[],⟨rfl,rfl⟩,pk [0]⟩
end Go.Proofs.YtpjhmeicbjkcdaaGreatDoor
namespace Go.Dw
open Go Go.RowKit
def AW (c:UInt8):List Value:=[.int .u8 c.toNat]
section
variable {X:R5} {s:List Ch}
theorem MO (hX:X.Good) {T U e ty:Nat} {te tu:TI} (hT:bM X T=some (e,te)) (ht1:te.size=1) (hU:I2 X.tt U=some tu) (hk:tu.k=.str) {i:Nat} {h:Hp} (hi:m8 s i=some (.hp h)) {a:Option Addr} {n c:Nat} {xs:List Value}
  (ho:iK e 1 h a n c xs) (x:ByteArray) (hby:(n+x.size)*te.bytes<=140737488355328) (hmx:n+x.size<=maxLen) {q:TV->List Ch->Prop}
  (hq :∀a' c' h',iK e 1 h' a' (n+x.size) c' (xs++Lib.strCells x)->q (.v (.slice a' (n+x.size) c')) (x9 s i (.hp h'))) :
  I0 X.P s (Builtin.append_ #[T,U] ty #[.slice a n c,.string x]) q:=by
 obtain⟨hu,hg⟩:=W6 hX hT;have hstr:X.P.underlying U=some .string:=by
  have:=(Good.und hX hU).2;rw[hk] at this;exact this
 obtain⟨⟨inf,hinf,hs1,hs2,z,hz,hzc,hzl⟩,_⟩:=hg;rw[ht1] at hs1;have hl:(Lib.strCells x).length=x.size:=Lib.strCells_length x;have hsm:n+x.size<=9223372036854775807:=by simp only[maxLen] at hmx;omega
 have hlen:(xs++Lib.strCells x).length=(n+x.size)*1:=by rw[d6,ho.1,hl,D9,E3,E3]
 refine⟨λw0 w hok=>?_⟩;have keep :∀h',J6 s (x9 s i (.hp h')):=λh'=>J6.set hi (λb cs T e=>by cases e);rcases ho.2 with ⟨rfl,rfl⟩ | ⟨b,arr,rfl,hb,hnc,hcm,hcs,htk⟩
 ·have hx:xs = []:=w9 (by simpa using ho.1);subst hx;have same:Ok w0 (x9 s i (.hp h)) w:=by
   have:x9 s i (.hp h)=s:=by
    rw[S9];rw[J7] at hi;exact O8 λj=>by
     rw[O7];split
     ·rename_i e;subst e;split
      ·exact hi.symm
      ·rename_i hh;rw[X4 om] at hi;cases hi
     ·rfl
   rw[this];exact hok
  by_cases hm:x.size=0
  ·have hn:Lib.strCells x = []:=w9 om;have hf:=Lib.run_firstCells_string (P:=X.P) w 1 x;rw[hm,hn] at hf;rw[hm,hn] at hq;refine⟨.v (.slice a 0 0),_,w,x9 s i (.hp h),?_,same,keep h,rfl,hq a 0 h (iK.nil _ _ _ _)⟩;cases a with
   | none=>simp[Builtin.append_,run_underlying hu,run_underlying hstr,sizeOf,typeInfo,hinf,hs1,Builtin.lenOf,hm,hf]
   | some a=>simp[Builtin.append_,run_underlying hu,run_underlying hstr,sizeOf,typeInfo,hinf,hs1,Builtin.lenOf,hm,hf,storeCells]
  ·have hge:=grownCap_ge w x.size 0 e;have hcm:=grownCap_le_maxLen w x.size 0 e om;have hr:(Builtin.append_ #[T,U] ty #[.slice a 0 0,.string x]).run X.P w =
     .ok (.slice (some ⟨w.heap.size,0,none⟩) x.size (grownCap w x.size 0 e)) (w.drew.alloc (.cells ((Lib.strCells x).toArray++Builtin.zeroCells z.cells (grownCap w x.size 0 e - x.size)) e)):=by
    cases a with
    | none=>
     have:=run_append_nil_string (P:=X.P) w T U ty e inf z hu hstr hinf hz x om om (by rw[hs2];simp only[y8] at hby;omega);rw[this];congr 4
     apply Array.ext';simp[Lib.strCells]
    | some b=>
     have:=Lib.run_append_grow_string (P:=X.P) w T U ty e inf z hu hstr hinf hz b 0 0 [] sQ (λj v hj=>by simp at hj) x om om (growslice_fits om (by rw[hs2];exact hby));simpa using this
   refine⟨.v _,_,_,_,hr,iK.move hok hi _,keep _,rfl,?_⟩;have:=hq (some ⟨w.heap.size,0,none⟩) (grownCap w x.size 0 e) (Hp.one w.heap.size (.cells ((Lib.strCells x).toArray++Builtin.zeroCells z.cells (grownCap w x.size 0 e - x.size)) e))
    ⟨hlen,.inr ⟨_,_,rfl,Hp.one_self _ _,by simpa using hge,hcm,?_,?_⟩⟩
   ·simpa using this
   ·simp only[Array.size_append,Z6,size_zeroCells,hzc,hzl,hl,ht1];omega
   ·simp only[Array.toList_append,N6,y8,<-hl,E3];exact uS
 ·by_cases hroom:n+x.size<=c
  ·have hblk:=hok.mem i _ hi b _ hb;have hr:=Lib.run_append_room_string (P:=X.P) w T U ty e inf hu hstr hinf hs1 b n c arr hblk x hroom om;refine⟨.v _,_,_,_,hr,iK.row hok hi hb,keep _,rfl,hq _ _ _ ⟨hlen,.inr ⟨b,_,rfl,Hp.upd_self _ _ _,hroom,hcm,?_,?_⟩⟩⟩
   ·simp only[Z6,d6,j8,k9,Array.length_toList,hl];omega
   ·rw[E3] at htk;rw[htk,<-hlen];exact uS
  ·have holds :∀j u,xs[j]?=some u->w.cell? ((⟨b,0,none⟩:Addr).add j)=some u:=λj u hu=>by
    obtain⟨b',arr',e1,_,_,h4⟩:=ho.cell hu;cases e1;rw[Addr.add_mk,y8];exact (hok.mem i _ hi).cell h4
   have hr:=Lib.run_append_grow_string (P:=X.P) w T U ty e inf z hu hstr hinf hz ⟨b,0,none⟩ n c xs (by rw[hs1];exact ho.1) holds x om om (growslice_fits om (by rw[hs2];exact hby));have hge:=grownCap_ge w (n+x.size) c e;have hcm':=grownCap_le_maxLen w (n+x.size) c e hmx;refine⟨.v _,_,_,_,hr,iK.move hok hi _,keep _,rfl,hq _ _ _ ⟨hlen,.inr ⟨_,_,rfl,Hp.one_self _ _,hge,hcm',?_,?_⟩⟩⟩
   ·have h1:=ho.1;simp only[Array.size_append,Z6,size_zeroCells,hzc,hzl,hl,ht1];omega
   ·simp only[Array.toList_append,o6];rw[<-o6,<-hlen];exact uS
theorem Do (x:List UInt8):Lib.strCells ⟨x.toArray⟩=x.flatMap AW:=by
 unfold Lib.strCells;induction x with
 | nil=>rfl
 | cons c r ih=>
  rw[I6,<-ih];simp[AW]
theorem Fp (hX:X.Good) {T U e ty:Nat} {te tu:TI} (hT:bM X T=some (e,te)) (ht1:te.size=1) (hb1:te.bytes=1) (hU:I2 X.tt U=some tu) (hk:tu.k=.str) {i:Nat} {o:Os} (hi:m8 s i=some (.hp o.h)) {L:List UInt8}
  (ho:w8 AW e 1 o L) (x:List UInt8) (hn:L.length+x.length < 1000000000) {q:TV->List Ch->Prop} (hq :∀o',w8 AW e 1 o' (L++x)->q (.v o'.v) (x9 s i (.hp o'.h))) :
  tH X.P s #[T,U] ty o.v (.v (.string ⟨x.toArray⟩)) q:=by
 obtain⟨hl,ho⟩:=ho;have hz:(ByteArray.mk x.toArray).size=x.length:=by simp[ByteArray.size]
 refine⟨.string ⟨x.toArray⟩,rfl,MO hX hT ht1 hU hk hi ho ⟨x.toArray⟩ (by rw[hb1,hz];omega) (by rw[hz];simp only[maxLen];omega) λa' c' h' ho'=>hq ⟨a',o.n+(ByteArray.mk x.toArray).size,c',h'⟩ ⟨?_,?_⟩⟩
 ·rw[hz,d6,<-hl]
 ·rw[V1,<-Do x];exact ho'
end
end Go.Dw
namespace Go.Proofs.YtpjhmeicbjkcdaaGreatDoor
open Go Go.RowKit Go.Dw Go.Shelf
set_option maxHeartbeats 1000000 in
set_option maxRecDepth 100000 in
theorem XD (b:Nat) (w:World) (h0:w.cell? ⟨b,0,none⟩=some (pQ b)) :
  Calls Tryz.prog 183 #[pQ b] w λe w'=>e=.returned (.tuple #[])/\w'=w:=by
 obtain⟨j,hj,hjs⟩:=Option.map_eq_some_iff.1 (show (Tryz.prog.info? 116).map (·.size)=some 2 from by kernel_rfl);go_enter Tryz.func183,Tryz.ntmps183
 go_wp2
 rw[Lib.run_neq_ptr_same w _ Tryz.underlying114 hj];go_wp2
 go_end0
 exact⟨rfl,rfl⟩
set_option maxHeartbeats 1000000 in
set_option maxRecDepth 100000 in
theorem RV (b:Nat) (w:World) (h0:w.cell? ⟨b,0,none⟩=some (.pointer none)) (hsh:w.shape? b=some (118,3)) (hfz:w.frozen? ⟨b,0,none⟩=false) :
  Calls Tryz.prog 183 #[pQ b] w λe w'=>e=.returned (.tuple #[])/\w'=w.setCell ⟨b,0,none⟩ (pQ b):=by
 obtain⟨j,hj,hjs⟩:=Option.map_eq_some_iff.1 (show (Tryz.prog.info? 116).map (·.size)=some 2 from by kernel_rfl);go_enter Tryz.func183,Tryz.ntmps183
 go_wp2
 rw[Lib.run_to_unsafe w ⟨b,0,none⟩ Tryz.underlying114 Tryz.underlying263 hj (by rw[hjs];decide) hsh (O2 2)];simp only[Result.andThen];rw[Oper.upon_value];go_wp2
 rw[run_callFunc_extern Tryz.func216 kr kr kr (e:=Extern.AbiNoEscape.same) kr];rw[Lib.run_noEscape];simp only[Result.andThen];rw[Oper.upon_value];go_wp2
 rw[Lib.run_from_unsafe w ⟨b,0,none⟩ Tryz.underlying263 Tryz.underlying114 hj hsh kr];simp only[Result.andThen];rw[Oper.upon_value];go_wp2
 go_end0
 exact⟨rfl,rfl⟩
theorem ZB {s:List Ch} {i:Nat} {c:Ch} (hi:m8 s i=some c):x9 s i c=s:=by
 rw[S9];rw[J7] at hi;exact O8 λj=>by
  rw[O7];split
  ·rename_i e;subst e;split
   ·exact hi.symm
   ·rename_i hh;rw[X4 om] at hi;cases hi
  ·rfl
theorem If {s:List Ch} {i b:Nat} {fl bv dv:Value} {q:TV->List Ch->Prop} (hi:m8 s i=some (.box b [fl,bv,dv] 118)) (hfl:fl=.pointer none\/fl=pQ b)
  (hq:q (.v (.tuple #[])) (x9 s i (.box b [pQ b,bv,dv] 118))):Q8 Tryz.prog s 183 [pQ b] q:=by
 refine⟨λw0 w hok=>⟨enters_of (args:=#[pQ b]) Tryz.func183 kr rfl,?_⟩⟩;have hb:w.heap[b]?=some (.cells #[fl,bv,dv] 118 (0,0)):=hok.mem i _ hi b _ (Hp.one_self b _);have keep:J6 s (x9 s i (.box b [pQ b,bv,dv] 118)):=J6.set hi (λb' cs' T e=>by cases e;exact⟨_,_,rfl⟩);rcases hfl with rfl | rfl
 ·refine (RV b w (nT (i:=i) (j:=0) hi rfl hok.mem) (by simp[World.shape?,hb]) (Lib.frozen_of_heap hb 0)).mono ?_;rintro e w' ⟨rfl,rfl⟩;exact⟨_,_,rfl,hok.boxSet hi 0 _,keep,hq⟩
 ·refine (XD b w (nT (i:=i) (j:=0) hi rfl hok.mem)).mono ?_;rintro e w' ⟨rfl,rfl⟩;exact⟨_,_,rfl,by rw[ZB hi];exact hok,keep,hq⟩
set_option maxRecDepth 10000 in
theorem Mm {c0:Hp} {b:Nat} {fl dv:Value} {o:Dw.Os} {L x:e8} {q:TV->List Ch->Prop} (hfl:fl=.pointer none\/fl=pQ b) (ho:w8 AW 5 1 o L) (hn:L.length+x.length < 1000000000)
  (hq :∀(o2:Dw.Os) v,w8 AW 5 1 o2 (L++x)->q v [.hp c0,.box b [pQ b,o2.v,dv] 118,.hp o2.h]) :
  Q8 Tryz.prog [.hp c0,.box b [fl,o.v,dv] 118,.hp o.h] 129 [pQ b,sv x] q:=by
 refine enterFZ (cx 19) [pQ b,sv x] [.tmp 4,.tmp 5] Tryz.func129 ?_;refine If (i:=1) rfl hfl ?_;refine lR 1 1 ?_;refine Fp cQ (e:=5) rfl rfl rfl rfl rfl (i:=2) rfl ho x hn λo2 ho2=>?_;refine fI cQ (i:=1) (j:=1) rfl rfl rfl sQ rfl rfl ?_;exact⟨⟨rfl,trivial⟩,hq o2 _ ho2⟩
end Go.Proofs.YtpjhmeicbjkcdaaGreatDoor
namespace Go.Proofs.YtpjhmeicbjkcdaaGreatDoor
open Go Go.RowKit Go.Dw
def kW (h:Hp) (b:Nat) (dv:Value) (t:e8):Prop:=∃(fl:Value) (o:Dw.Os),h=(Ch.box b [fl,o.v,dv] 118).h.join o.h/\(Ch.box b [fl,o.v,dv] 118).h.dj o.h/\(fl=.pointer none\/fl=pQ b)/\w8 AW 5 1 o t
theorem jE {L:List e8} {k:Nat} (hk:k < L.length):(L.take (k+1)).flatten=(L.take k).flatten++L[k]:=by
 rw[I8 L k hk,List.flatten_append];simp
theorem Ak {L:List e8} {k:Nat} (hk:k < L.length):((L.take k).flatten).length+L[k].length<=L.flatten.length:=by
 have:=congrArg F7 (jE hk);rw[d6] at this;rw[<-this];have e:L.flatten=(L.take (k+1)).flatten++(L.drop (k+1)).flatten:=by rw[<-List.flatten_append,E4]
 rw[e,d6];omega
set_option maxRecDepth 10000 in
theorem GR {h:Hp} {b:Nat} {dv:Value} {t:e8} {a:Option Addr} {n c:Nat} {L:List e8} (w:World) (hin:h.In w) (hI:kW h b dv t) (hL:Sl (B0 Jc) 1 ((Hp.whole w).minus h) a n c L) (hn:L.length < 1000000) (hlen:t.length+L.flatten.length < 1000000000) :
  j6 Tryz.prog 56 #[pQ b,.slice a n c] w (O6 w h λ_ h' cs=>cs = []/\kW h' b dv (t++L.flatten)):=by
 obtain⟨fl,o,rfl,hdj,hfl,ho⟩:=hI;have hll:=hL.len;obtain⟨c0,hc0⟩ :∃c0,c0=(Hp.whole w).minus ((Ch.box b [fl,o.v,dv] 118).h.join o.h):=⟨_,rfl⟩
 have ok1:=Ok.part (i:=1) (Ok.start2 w hin) rfl (Hp.le_join_l _ _) (Hp.le_join_r hdj) hdj;have ok0:Ok w [.hp c0,.box b [fl,o.v,dv] 118,.hp o.h] w:=by
  rw[hc0];exact Ok.same (s:=[.hp ((Hp.whole w).minus ((Ch.box b [fl,o.v,dv] 118).h.join o.h)),.hp (Ch.box b [fl,o.v,dv] 118).h,.hp o.h]) (i:=1) (c:=.hp (Ch.box b [fl,o.v,dv] 118).h) (d:=.box b [fl,o.v,dv] 118) rfl rfl ok1
 refine enterMSZ (cx 18) [pQ b,.slice a n c] ok0 [] Tryz.func56 ?_;rw[<-hc0] at hL ⊢;refine u6.mkS (Nat×Value×Dw.Os) (λg=>[(0,.v (pQ b)),(6,.v (.slice a n c)),(7,.v (iQ n)),(8,.v (iQ g.1))]) (λg=>[.hp c0,.box b [g.2.1,g.2.2.v,dv] 118,.hp g.2.2.h])
  (λg=>g.1<=n/\(g.2.1=.pointer none\/g.2.1=pQ b)/\w8 AW 5 1 g.2.2 (t++(L.take g.1).flatten)) (λg=>n - g.1) (0,fl,o) ⟨f8 _,hfl,by simpa using ho⟩ (v6.mk (λ_ _ h=>h) rfl rfl) ?_
 rintro⟨k,fl,o⟩ ⟨hk,hfl,ho⟩ hsat;dsimp only at hk hfl ho ⊢;refine d8 (λh1=>?_) λh1=>?_
 ·have hkl:k < L.length:=om
  have hfle:=Ak hkl;refine I1 cQ (e:=9) rfl hL k rfl hkl λb9 o9 cs hcs hR hcell=>?_;subst hR;refine lQ 0 (hcell 0 _ rfl) ?_;refine Mm hfl ho (by rw[d6];omega) λo2 v ho2=>?_;refine nwo ?_;refine⟨(k+1,pQ b,o2),⟨by dsimp only;omega,.inr rfl,?_⟩,by dsimp only;omega,v6.mk (pj [0,1,2]) rfl rfl⟩;dsimp only;rw[jE hkl,<-o6];exact ho2
 ·have hk2:k=L.length:=om
  subst hk2;rw[p9] at ho;refine⟨(Ch.box b [fl,o.v,dv] 118).h.join o.h,[],⟨rfl,fl,o,rfl,?_,hfl,ho⟩,λw' h=>Ok.join (c:=.hp c0) (d:=.box b [fl,o.v,dv] 118) (e:=.hp o.h) (s:=[]) h⟩;obtain⟨w0,w1,hok⟩:=hsat;exact hok.disj 1 2 _ _ dc rfl rfl
end Go.Proofs.YtpjhmeicbjkcdaaGreatDoor
namespace Go.Proofs.YtpjhmeicbjkcdaaGreatDoor
open Go Go.RowKit Go.Dw
theorem KA {α:Type} {f:α->List Value} {sz b T:Nat} {cs:List Value} {off:Nat} {L:List α} (hs :∀x,(f x).length=sz) (hc :∀i (hi:i < L.length) j v,(f L[i])[j]?=some v->cs[off+i*sz+j]?=some v) :
  Sl (B0 f) sz (Ch.box b cs T).h (some ⟨b,off,none⟩) L.length L.length L:=
 ⟨rfl,k8 _,λi hi=>⟨b,off,f L[i],rfl,hs _,rfl,λj v hj=>by
  have:=hc i hi j v hj;simp[Hp.cell?,Ch.h,Hp.one,this]⟩⟩
theorem aL {s:List Ch} {i j b bb T m:Nat} {h:Hp} {dv:Value} {t:e8} {L:List e8} {q:TV->List Ch->Prop} (hij:j≠i) (hi:m8 s i=some (.hp h)) (hI:kW h b dv t) (hj:m8 s j=some (.box bb (L.map λx=>Value.string (bs x)) T)) (hm:m=L.length) (hn:L.length < 1000000) (hlen:t.length+L.flatten.length < 1000000000)
  (hq :∀v h',kW h' b dv (t++L.flatten)->q v (x9 s i (.hp h'))):Q8 Tryz.prog s 56 [pQ b,.slice (some ⟨bb,0,none⟩) m m] q:=by
 subst hm;refine l6 (i:=i) hi (λw0 w hok=>GR w (hok.mem i _ hi) hI (Sl.mono (j7 _) (Hp.le_minus (hok.mem j _ hj).whole (hok.disj j i _ _ hij hj hi)) (KA (f:=Jc) (λ_=>rfl) (λk hk jj v hv=>?_))) hn hlen) ?_
 ·match jj,hv with
  | 0,hv=>
   have hv:some (Value.string (bs L[k]))=some v:=hv;rw[y8,E3,G3,G7,i6 hk];exact hv
 ·rintro v h' _ ⟨rfl,hI2⟩;rw[p8];exact hq _ _ hI2
end Go.Proofs.YtpjhmeicbjkcdaaGreatDoor
namespace Go.Proofs
open Go.Shelf
def Tryz.lJo_ren:Go.Shelf.Ren:=⟨λ| 156=>133 | 165=>188 | 166=>129 | 169=>137 | 240=>183 | 241=>223 | 276=>216 | 277=>267 | n=>n,λ| 31=>69 | 9=>9 | 3=>3 | 4=>4 | 0=>0 | 20=>20 | 72=>116 | 76=>197 | 70=>114 | 37=>68 | 75=>196 | 127=>239 | 164=>263 | 5=>5 | 80=>206 | n=>n,λ| n=>n⟩
theorem Tryz.lJo:Go.Proofs.Lays.n156 Tryz.prog Tryz.lJo_ren:={
 mixed:=kr
 f156:=Tryz.func133.trans (congrArg some kr)
 f165:=Tryz.func188.trans (congrArg some kr)
 f166:=Tryz.func129.trans (congrArg some kr)
 f169:=Tryz.func137.trans (congrArg some kr)
 f240:=Tryz.func183.trans (congrArg some kr)
 f241:=Tryz.func223.trans (congrArg some kr)
 f276:=Tryz.func216.trans (congrArg some kr)
 f277:=Tryz.func267.trans (congrArg some kr)
 t0:=Tryz.underlying0
 a0:=Tryz.isAgg0
 z0:=Tryz.sizeOf0
 v0:=Tryz.zeroValue0
 t3:=Tryz.underlying3
 a3:=Tryz.isAgg3
 z3:=Tryz.sizeOf3
 v3:=Tryz.zeroValue3
 t4:=Tryz.underlying4
 a4:=Tryz.isAgg4
 z4:=Tryz.sizeOf4
 v4:=Tryz.zeroValue4
 t9:=Tryz.underlying9
 a9:=Tryz.isAgg9
 z9:=Tryz.sizeOf9
 v9:=Tryz.zeroValue9
 t20:=Tryz.underlying20
 a20:=Tryz.isAgg20
 z20:=Tryz.sizeOf20
 v20:=Tryz.zeroValue20
 t31:=Tryz.underlying69
 a31:=Tryz.isAgg69
 z31:=Tryz.sizeOf69
 v31:=Tryz.zeroValue69
 t37:=Tryz.underlying68
 a37:=Tryz.isAgg68
 z37:=Tryz.sizeOf68
 v37:=Tryz.zeroValue68
 t70:=Tryz.underlying114
 a70:=Tryz.isAgg114
 z70:=Tryz.sizeOf114
 v70:=Tryz.zeroValue114
 t72:=Tryz.underlying116
 a72:=Tryz.isAgg116
 z72:=Tryz.sizeOf116
 v72:=Tryz.zeroValue116
 t75:=Tryz.underlying196
 a75:=Tryz.isAgg196
 z75:=Tryz.sizeOf196
 v75:=Tryz.zeroValue196
 t76:=Tryz.underlying197
 a76:=Tryz.isAgg197
 z76:=Tryz.sizeOf197
 v76:=Tryz.zeroValue197
 t127:=Tryz.underlying239
 a127:=Tryz.isAgg239
 z127:=Tryz.sizeOf239
 v127:=Tryz.zeroValue239
 t164:=Tryz.underlying263
 a164:=Tryz.isAgg263
 z164:=Tryz.sizeOf263
 v164:=Tryz.zeroValue263 }
end Go.Proofs
namespace Go.Dw
open Go Go.RowKit
abbrev Bq:=List (ByteArray×Value)
def Gc (e:MapEntry):Value×Value:=(e.key,e.val)
def Gb (p:ByteArray×Value):Value×Value:=(.string p.1,p.2)
def DF (h:Hp) (b:Nat) (KV:Bq):Prop:=∃es clock,h b=some (.map es clock)/\es.toList.map Gc=KV.map Gb/\(∀e∈es.toList,e.born < clock)/\(es.toList.map (·.born)).Nodup
def kL (t:ByteArray):Bq->Option Value
 | []=>none
 | (k,v)::r=>if k=t then some v else kL t r
theorem Cs (a b:ByteArray):(a==b)=decide (a=b):=by rw[beq_toListBytes,yA]
theorem WF {t:ByteArray} :∀{es:List MapEntry} {KV:Bq} (i:Nat),es.map Gc=KV.map Gb->
  (kL t KV=none->Instr.findNow .string (.string t) es i=some none)/\(∀v,kL t KV=some v->∃j,Instr.findNow .string (.string t) es i=some (some (j,v)))
 | [],KV,i,h=>by
  match KV with
  | []=>exact⟨λ_=>rfl,λv e=>by simp[kL] at e⟩
  | _::_=>simp at h
 | e::es,KV,i,h=>by
  match KV with
  | []=>simp at h
  | (k,x)::KV=>
   simp only[N7,FK,Gc,Gb,Prod.mk.injEq] at h;obtain⟨⟨h1,h2⟩,h3⟩:=h;have ih:=WF (t:=t) (i+1) h3;by_cases hk:k=t
   ·subst hk;refine⟨λe=>by simp[kL] at e,λv e=>⟨i,?_⟩⟩;unfold Instr.findNow;rw[h1];simp[kL] at e;simp[Instr.sameNow,Cs,h2,e]
   ·have hb:(t==k)=false:=by rw[Cs];exact decide_eq_false λe=>hk e.symm
    have hf:Instr.findNow .string (.string t) (e::es) i=Instr.findNow .string (.string t) es (i+1):=by
     conv=>lhs;unfold Instr.findNow
     rw[h1];simp only[Instr.sameNow,hb]
    rw[hf];have hg:kL t ((k,x)::KV)=kL t KV:=by simp[kL,hk]
    rw[hg];exact ih
theorem oQ {P:Program} {w:World} {kt:Nat} (hk:P.underlying kt=some .string) (e:Bool) (t:ByteArray):(Instr.checkKey e 10000 kt (.string t)).run P w=.ok () w:=by
 rw[show (10000:Nat)=9999+1 from rfl];unfold Instr.checkKey;simp[underlying,hk]
theorem Kd {P:Program} {s:List Ch} {T:Nat} {q:TV->List Ch->Prop} (hq :∀b h,DF h b []->q (.v (.map (some b))) (s++[.hp h])):I0 P s (Instr.makeMap T none) q:=by
 refine⟨λw0 w hok=>⟨.v (.map (some w.heap.size)),_,w.alloc (.map #[] 0),_,?_,hok.alloc (.hp (Hp.one w.heap.size (.map #[] 0))) _ rfl,J6.app s _,rfl,hq _ _ ⟨#[],0,Hp.one_self _ _,rfl,λe he=>by simp at he,sQ⟩⟩⟩;simp[Instr.makeMap]
theorem Es {P:Program} {s:List Ch} {T kt et:Nat} (hT:P.underlying T=some (.map kt et)) (hk:P.underlying kt=some .string) {z:Value} (hz :∀w,(zeroValue et).run P w=.ok z w) {i:Nat} {h:Hp} (hi:m8 s i=some (.hp h)) {b:Nat} {KV:Bq} (ho:DF h b KV) (t:ByteArray) {q:TV->List Ch->Prop}
  (hq:q (.v (.tuple #[(kL t KV).getD z,.bool (kL t KV).isSome])) s):I0 P s (Instr.lookup T (.map (some b)) (.string t) true) q:=by
 refine⟨λw0 w hok=>⟨_,_,w,s,?_,hok,J6.refl s,rfl,hq⟩⟩;obtain⟨es,clock,h1,h2,_,_⟩:=ho;have hb:=hok.mem i _ hi b _ h1;have hu:(underlying T).run P w=.ok (.map kt et) w:=by simp[underlying,hT]
 have huk:(underlying kt).run P w=.ok .string w:=by simp[underlying,hk]
 have hf:=WF (t:=t) 0 h2;unfold Instr.lookup;simp only[Sem.run_bind,hu,Result.andThen_ok,oX hb,Sem.run_pure,oQ hk,Instr.findKey,huk];cases hg:kL t KV with
 | none=>rw[hf.1 hg];simp[hz w]
 | some v=>
  obtain⟨j,hj⟩:=hf.2 v hg;rw[hj];simp
theorem FT {P:Program} {s:List Ch} {T kt et:Nat} (hT:P.underlying T=some (.map kt et)) (hk:P.underlying kt=some .string) {i:Nat} {h:Hp} (hi:m8 s i=some (.hp h)) {b:Nat} {KV:Bq} (ho:DF h b KV) (t:ByteArray) (v:Value) (hn:kL t KV=none) {q:List Ch->Prop}
  (hq :∀h',DF h' b (KV++[(t,v)])->q (x9 s i (.hp h'))):gX P s (Instr.mapUpdate T (.map (some b)) (.string t) v) q:=by
 refine⟨λw0 w hok=>?_⟩;obtain⟨es,clock,g1,g2,g3,g4⟩:=ho;have hb:=hok.mem i _ hi b _ g1;have hu:(underlying T).run P w=.ok (.map kt et) w:=by simp[underlying,hT]
 have huk:(underlying kt).run P w=.ok .string w:=by simp[underlying,hk]
 have hf:=(WF (t:=t) 0 g2).1 hn;have hok2:=hok.putObj hi g1 (.map (es.push { key:=.string t,val:=v,born:=clock }) (clock+1));refine⟨_,_,?_,hok2,J6.set hi (λb cs T e=>by cases e),hq _ ⟨_,_,Hp.upd_self _ _ _,?_,?_,?_⟩⟩
 ·unfold Instr.mapUpdate;simp only[Sem.run_bind,hu,Result.andThen_ok,oX hb,oQ hk,Instr.findKey,huk,hf,Sem.run_pure];exact KD _ hb
 ·simp[g2,Gc,Gb]
 ·intro e he;simp only[Array.toList_push,G1,E2] at he;rcases he with he | rfl
  ·have:=g3 e he;omega
  ·exact Nat.lt_succ_self _
 ·simp only[Array.toList_push,E9,N7,List.map_nil];rw[List.nodup_append];refine⟨g4,sQ,?_⟩;intro a ha b hb;rw[E2.1 hb];obtain⟨e,he,rfl⟩:=G6.1 ha;have:=g3 e he;omega
def Ix (hm h:Hp) (r b:Nat) (left:Bq) (cur:Option (ByteArray×Value)):Prop:=∃es clock since seen,hm b=some (.map es clock)/\h r=some (.mapIter (some b) since seen clock)/\(∀x∈es.toList,x.born < since)/\since<=clock/\(es.toList.map (·.born)).Nodup/\
 (leftOf es seen).toList.map Gc=left.map Gb/\(∀p,cur=some p->∃e∈es.toList,∃seen':Array Nat,seen=seen'.push e.born/\Gc e=Gb p)
theorem QY {es:Array MapEntry} {seen:Array Nat} {e:MapEntry} {l1 l2:List MapEntry} (h:(leftOf es seen).toList=l1++e::l2) (hn:(es.toList.map (·.born)).Nodup):(leftOf es (seen.push e.born)).toList=l1++l2:=by
 have e1:(leftOf es (seen.push e.born)).toList=(leftOf es seen).toList.filter λx=>x.born != e.born:=by
  unfold leftOf;simp only[Array.toList_filter,List.filter_filter];congr 1
  funext x
  simp only[Array.contains_push,Bool.not_or,bne];rw[Bool.and_comm]
 have hs:((leftOf es seen).toList.map (·.born)).Nodup:=by
  unfold leftOf;rw[Array.toList_filter];exact hn.sublist (List.Sublist.map _ List.filter_sublist)
 rw[h,E9,N7,List.nodup_append,List.nodup_cons] at hs;obtain⟨_,⟨h2,_⟩,h3⟩:=hs;rw[e1,h,List.filter_append,List.filter_cons];have f1:l1.filter (λx=>x.born != e.born)=l1:=List.filter_eq_self.2 λx hx=>by
  simp only[bne_iff_ne,ne_eq];exact h3 _ (G6.2 ⟨x,hx,rfl⟩) _ (bU ..)
 have f2:l2.filter (λx=>x.born != e.born)=l2:=List.filter_eq_self.2 λx hx=>by
  simp only[bne_iff_ne,ne_eq];intro e';exact h2 (G6.2 ⟨x,hx,e'⟩)
 rw[f1,f2];simp
theorem Gy {P:Program} {s:List Ch} {T kt et:Nat} (hT:P.underlying T=some (.map kt et)) {i:Nat} {h:Hp} (hi:m8 s i=some (.hp h)) {b:Nat} {KV:Bq} (ho:DF h b KV) {q:TV->List Ch->Prop}
  (hq :∀r k,Ix h k r b KV none->q (.v (pQ r)) (s++[.hp k])):I0 P s (Instr.range T (.map (some b))) q:=by
 obtain⟨es,clock,g1,g2,g3,g4⟩:=ho;refine⟨λw0 w hok=>⟨.v (pQ w.heap.size),_,w.alloc (.mapIter (some b) clock #[] clock),_,?_,hok.alloc (.hp (Hp.one w.heap.size (.mapIter (some b) clock #[] clock))) _ rfl,J6.app s _,rfl,hq _ _ ⟨es,clock,clock,#[],g1,Hp.one_self _ _,g3,k8 _,g4,?_,nofun⟩⟩⟩
 ·have hb:=hok.mem i _ hi b _ g1;have hu:(underlying T).run P w=.ok (.map kt et) w:=by simp[underlying,hT]
  simp[Instr.range,hu,oX hb,newObj];rfl
 ·rw[<-g2];unfold leftOf;rw[Array.filter_eq_self.2 (λx _=>by simp)]
theorem En {P:Program} {s:List Ch} {ty:Nat} {i j:Nat} {hm h:Hp} (hi:m8 s i=some (.hp hm)) (hj:m8 s j=some (.hp h)) {r b:Nat} {left:Bq} {cur:Option (ByteArray×Value)} (hI:Ix hm h r b left cur) {q:TV->List Ch->Prop}
  (h0:left = []->q (.v (.tuple #[.bool false])) s)
  (h1 :∀l1 k v l2 h',left=l1++(k,v)::l2->Ix hm h' r b (l1++l2) (some (k,v))->q (.v (.tuple #[.bool true,.string k,v])) (x9 s j (.hp h'))):I0 P s (Instr.next (pQ r) false ty) q:=by
 obtain⟨es,clock,since,seen,g1,g2,g3,g4,g5,g6,_⟩:=hI;refine⟨λw0 w hok=>?_⟩;have hb:=hok.mem i _ hi b _ g1;have hr:=hok.mem j _ hj r _ g2;rcases run_next_at (P:=P) w ty r b since clock seen es clock hr hb g3 g4 with ⟨hz,hrun⟩ | ⟨e,he,w1,hw1,hrun⟩
 ·have:left = []:=by
   have:=congrArg F7 g6;simp only[l7,Array.length_toList,hz] at this;exact M0.1 this.symm
  exact⟨_,_,w,s,hrun,hok,J6.refl s,rfl,h0 this⟩
 ·have hok1:Ok w0 s w1:=by
   rcases hw1 with rfl | rfl
   ·exact hok
   ·exact hok.drew
  obtain⟨l1,l2,hl⟩:=List.append_of_mem he;have hlp:=QY hl g5;rw[hl,E9,N7] at g6;obtain⟨L1,L2,rfl,e1,e2⟩:=List.map_eq_append_iff.1 g6.symm;obtain⟨⟨k,v⟩,L2,rfl,e3,e4⟩:=List.map_eq_cons_iff.1 e2;have hk1:e.key=.string k:=(congrArg Prod.fst e3).symm;have hk2:e.val=v:=(congrArg Prod.snd e3).symm;have hee:e∈es.toList:=by
   have:=he;unfold leftOf at this;rw[Array.toList_filter] at this;exact (List.mem_filter.1 this).1
  have hok2:=hok1.putObj hj g2 (.mapIter (some b) since (seen.push e.born) clock);rw[hk1,hk2] at hrun;refine⟨_,_,_,_,hrun,hok2,J6.set hj (λb cs T e=>by cases e),rfl,h1 L1 k v L2 _ rfl ⟨es,clock,since,seen.push e.born,g1,Hp.upd_self _ _ _,g3,g4,g5,?_,λp hp=>?_⟩⟩
  ·rw[hlp,E9,E9,e1,e4]
  ·cases hp;exact⟨e,hee,seen,rfl,e3.symm⟩
theorem As {P:Program} {s:List Ch} {i j:Nat} {hm h:Hp} (hi:m8 s i=some (.hp hm)) (hj:m8 s j=some (.hp h)) {r b:Nat} {left:Bq} {k:ByteArray} {v:Value} (hI:Ix hm h r b left (some (k,v))) {q:TV->List Ch->Prop}
  (hq:q (.v (.tuple #[.string k,v])) s):I0 P s (Instr.entry (pQ r)) q:=by
 obtain⟨es,clock,since,seen,g1,g2,g3,g4,g5,g6,g7⟩:=hI;obtain⟨e,he,seen',rfl,hkv⟩:=g7 _ rfl;refine⟨λw0 w hok=>⟨_,_,w,s,?_,hok,J6.refl s,rfl,hq⟩⟩;have hrun:=run_entry_at (P:=P) w r b since seen' es clock e (hok.mem j _ hj r _ g2) (hok.mem i _ hi b _ g1) he g5;have hk1:e.key=.string k:=congrArg Prod.fst hkv;have hk2:e.val=v:=congrArg Prod.snd hkv;rw[hk1,hk2] at hrun;exact hrun
end Go.Dw
namespace Go.Proofs.YtpjhmeicbjkcdaaGreatDoor
def Fs (t:e8) (k:Nat):Prop:=t.length<=400/\∃a b:e8,a.all l8=true/\0 < a.length/\k=a.length/\(t=a\/(t=a++47::b/\b.all l8=true/\0 < b.length))
end Go.Proofs.YtpjhmeicbjkcdaaGreatDoor
