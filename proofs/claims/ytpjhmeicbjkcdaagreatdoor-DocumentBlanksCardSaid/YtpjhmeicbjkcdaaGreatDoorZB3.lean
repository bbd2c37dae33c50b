/- Parts of one proof, joined. No condition of its own. -/
import Derived.Test.YtpjhmeicbjkcdaaGreatDoorZB2
import Derived.Laws.BytesArg
import Derived.Shelf.Strings.Count
import Derived.Ground.NamesProg
import Derived.Test.YtpjhmeicbjkcdaaGreatDoorProg
import Derived.Shelf.GgClosure.StringsIndexFunc
import Derived.Laws.RangeString
import Derived.Laws.RangeAny
import Derived.Shelf.Strings.FuncGrows
import Derived.Ground.GgwProg
import Derived.Laws.StructEq
import Derived.Lib.AppendStr
import Derived.Shelf.Strings.Repeat
import Derived.Shelf.Strings.OnBuilder
import Derived.Maps.RangeRun
open Bool renaming and_eq_true->j4,and_true->CD,or_eq_true->Q3,eq_iff_iff->T7,false_or->UZ,or_true->lX,false_and->eG,true_and->D9,false_ne_true->ZI,not_eq_true'->yW,not_not->lY,false_eq_true->wH
open Classical renaming byContradiction->j3,not_not->B9
open Int renaming eq_ofNat_of_zero_le->S8
open List renaming all_cons->S3,all_eq_true->s7,any_cons->UX,drop_drop->J7,drop_left'->X7,length_append->d6,length_cons->d7,length_map->j6,length_pos_iff->D1,take_left'->X6,append_assoc->f8,getD_eq_getElem?_getD->e8,getElem?_eq_getElem->i7,length_drop->j9,length_take->j1,mem_append->y8,mem_singleton->v6,takeWhile_cons->B6,take_add->UW,take_add_one->yU,take_succ_cons->UM,append_nil->k8,length_nil->i6,length_singleton->p7,mem_cons->p9,mem_cons_of_mem->B8,drop_of_length_le->bZ,flatMap_append->N7,length_replicate->O1,nil_append->I4,replicate->m6,set_eq_take_append_cons_drop->ZM,take_append_drop->F8,take_length->q8,take_zero->Q0,flatMap_cons->u7,getElem?_map->E2,map_congr_left->aG,map_cons->M2,map_map->En,getElem?_append_left->X3,getElem?_append_right->L8,getElem?_cons_succ->aQ,getElem?_replicate->Pp,drop_eq_getElem_cons->q6,drop_eq_nil_of_le->J2,drop_zero->G6,any_eq_true->E5,mem_map->y7,mem_range->S6,range->x8,getElem_mem->j5,getElem?_eq_some_iff->p6,ext_getElem->Iu,getElem_map->aO,length_range->K7,any_eq_false->K8,take_of_length_le->o6,getElem_set->It,length_eq_zero_iff->F7,length_set->M3,getElem_of_mem->sN,eq_nil_of_length_eq_zero->w6,ext_getElem?->O0,getElem?_eq_none->cT,getElem?_set->N9,size_toArray->Y7,take_left->wE,flatten_append->UO,length->H4,getElem?_range->UN,replicate_succ->sM,intercalate->oT,map_append->E1,getElem?_take_of_lt->Pl,mem_cons_self->wF,mem_flatMap->Is,flatMap_def->oU
open List.cons renaming inj->E8,injEq->Sg
open Nat renaming lt_irrefl->pX,lt_of_lt_of_le->J1,mul_le_mul_right->y9,eq_zero_or_pos->u9,le_refl->j8,strongRecOn->sI,add_sub_cancel_left->CY,sub_self->bX,zero_add->w7,blt->QZ,blt_eq->Nx,mul_one->D7,zero_le->j0,lt_or_ge->M9,not_lt_zero->M1,ble->P9,le_of_ble_eq_true->D3,add_mul->D2,add_zero->E7,min_eq_left->T6,mod_eq_of_lt->C7,mod_lt->A6,mul_add->B7,mul_assoc->A0,mul_comm->m8,mul_le_mul->P8,mul_left_comm->lS,mul_zero->lP,pow_add->jR,pow_succ->K6,zero_mul->bV,pow_le_pow_right->E9,add_assoc->BZ,lt_of_le_of_lt->p8,zero_lt_succ->E3,lt_succ_self->Iq,gcd->G8
open Option renaming isSome_iff_exists->Pk
open Option.some renaming inj->M0
namespace Go.Proofs.YtpjhmeicbjkcdaaGreatDoor
def NE (x:d8):Prop:=x.length<=400/\∃a b:d8,a.all k9=true/\0 < a.length/\((x=a/\aM a=true)\/(x=a++47::b/\b.all k9=true/\0 < b.length/\V8 x a.length=true))
def DF (p:Int×Bool):Option Int:=if p.2=true then some p.1 else none
def IB (s:d8):Option Int:=if R4 s=0 then DF (fB (bH s) (P6 (M4 s))) else none
def xQ (s:d8):Nat:=if (J6 s).2.2=true then P6 (J6 s).2.1 else 0
def qA (s:d8):Option Int:=if X9 400 s=0 then (if xQ s=0\/xQ s=1 then DF (fB (bH (J6 s).1) (P6 (M4 (J6 s).1))) else none) else none
theorem Dj {l:d8} (h0:0 < l.length) (h1:l.getD 0 0≠48) (hd:l.all k9=true):10 ^ (l.length - 1)<=P6 l:=by
 cases l with
 | nil=>cases h0
 | cons c l=>
  have hc:k9 c=true:=s7.1 hd c sQ;have hc1:c≠48:=h1;unfold k9 at hc;rw[j4,decide_eq_true_eq,decide_eq_true_eq] at hc;have hn:c.toNat≠48:=λe=>hc1 (UInt8.toNat_inj.1 e);have e:=cO [c.toNat - 48] (l.map λc=>c.toNat - 48);have e1:fG [c.toNat - 48]=c.toNat - 48:=by show 10*0+(c.toNat - 48)=_;omega
  rw[e1] at e;show 10 ^ l.length<=fG ([c.toNat - 48]++l.map λc=>c.toNat - 48)
  rw[e,j6];have:1*10 ^ l.length<=(c.toNat - 48)*10 ^ l.length:=y9 _ om;omega
theorem BQ {a:d8} (h:aM a=true) (h2:a≠[48]):a.getD 0 0≠48:=by
 unfold aM at h;rw[j4,Q3,decide_eq_true_eq,decide_eq_true_eq] at h;rcases h.2 with g | g
 ·match a,g with
  | [c],_=>intro e;exact h2 (by rw[show c=48 from e])
 ·simpa using g
theorem tQ {a:d8} (h:a.all k9=true) (hc:aM a=true) (h2:a≠[48]) (h3:a.length<=60000):R4 (45::a)=0/\bH (45::a)=true/\M4 (45::a)=a:=by
 have e1:bH (45::a)=true:=by unfold bH;simp
 have e2:M4 (45::a)=a:=by unfold M4;rw[e1];rfl
 refine⟨?_,e1,e2⟩;have h0:0 < a.length:=by
  unfold aM at hc;rw[j4,decide_eq_true_eq] at hc;exact hc.1
 unfold R4;rw[e2,if_neg (by rw[d7];omega),if_neg,if_neg (λg=>BQ hc h2 g.1)];rintro (g | g)
 ·rw[g] at h0;cases h0
 ·rw[QU h] at g;cases g
theorem vL {a:d8} (h:a.all k9=true):J6 (45::a)=(45::a,[],false):=by
 have hs:(45::a:d8).all (λc=>!decide (c=47))=true:=by
  rw[S3,lL h];rfl
 unfold J6;rw[yF hs,if_neg (pX _)]
theorem zS {a b:d8} (h:a.all k9=true):J6 (45::(a++47::b))=(45::a,b,true):=by
 have hs:(45::a:d8).all (λc=>!decide (c=47))=true:=by
  rw[S3,lL h];rfl
 have hr:=pE (b:=b) hs (c:=47) dc;have e:(45::(a++47::b):d8)=(45::a)++47::b:=rfl;unfold J6;rw[e,hr,if_pos (by rw[d6,d7];simp),X6 rfl,<-J7,X7 rfl];rfl
theorem EN {a:d8}:V8 a a.length=aM a:=by unfold V8;rw[if_pos rfl]
theorem JE (a b:d8) (h:a.all k9=true) (h0:0 < a.length) (sg:Bool):R4 ((if sg=true then [45] else [])++(a++47::b))≠0:=by
 have hx :∀l:d8,M4 l=a++47::b->R4 l≠0:=λl e=>by
  unfold R4;rw[e];split
  ·decide
  ·rw[if_pos (.inr (by rw[List.any_append,UX];simp[show k9 47=false from by decide]))];decide
 cases sg
 ·refine hx _ ?_;have:(a++47::b).getD 0 0≠45:=by
   have:=(iR (yT h h0)).1;cases a with
   | nil=>cases h0
   | cons c a=>exact this
  show M4 (a++47::b)=_
  unfold M4 bH;rw[decide_eq_false this];rfl
 ·exact hx _ rfl
theorem Bi {t:d8} (ht:NE t) {sg:Bool} (h2:sg=true->t≠[48]):qA ((if sg=true then [45] else [])++t)=IB ((if sg=true then [45] else [])++t):=by
 obtain⟨hl,a,b,ha,h0,⟨rfl,hc⟩ | ⟨rfl,hb,h1,hc⟩⟩:=ht
 ·cases sg
  ·show qA t=IB t
   obtain⟨e1,e2⟩:=iJ ha;have e3:=KZ ha;unfold qA IB xQ;rw[e3];rw[if_pos ((AB ha h0 hl).2 (by rw[EN];exact hc)),if_pos (.inl (if_neg (show ¬ (false=true) by decide))),if_pos ((jT ha h0 om).2 hc)]
  ·show qA (45::t)=IB (45::t)
   obtain⟨e0,e1,e2⟩:=tQ ha hc (h2 rfl) om;unfold qA IB xQ;rw[vL ha,if_pos e0,e1,e2];dsimp only;by_cases hlen:t.length=400
   ·rw[if_neg (by unfold X9;rw[if_pos (by rw[d7];omega)];decide)];have:=Dj h0 (BQ hc (h2 rfl)) ha;rw[hlen] at this;have hbig:9223372036854775808 < 10 ^ (400 - 1):=by decide +kernel
    unfold DF fB;rw[if_pos rfl,if_neg (Nat.not_le.2 (J1 hbig this))];rfl
   ·have:X9 400 (45::t)=0:=by
     unfold X9;rw[vL ha,if_neg (by rw[d7];omega)];dsimp only;rw[e2,e0];have:bR t=true:=by unfold bR;rw[ha,CD,decide_eq_true_eq];exact D1.1 h0
     rw[this];rfl
    rw[if_pos this,if_pos (.inl (if_neg (show ¬ (false=true) by decide)))]
 ·have hv:IB ((if sg=true then [45] else [])++(a++47::b))=none:=by
   unfold IB;rw[if_neg (JE a b ha h0 sg)]
  rw[hv];have hb1:1 < P6 b:=by
   unfold V8 at hc;rw[if_neg (by rw[d6,d7];omega),j4,j4,j4,decide_eq_true_eq] at hc;have:(a++47::b).drop (a.length+1)=b:=by rw[<-J7,X7 rfl];rfl
   rw[this] at hc;exact hc.2.2.1
  have hy:xQ ((if sg=true then [45] else [])++(a++47::b))=P6 b:=by
   unfold xQ;cases sg
   ·show (if (J6 (a++47::b)).2.2=true then P6 (J6 (a++47::b)).2.1 else 0)=_
    rw[KY ha];rfl
   ·show (if (J6 (45::(a++47::b))).2.2=true then P6 (J6 (45::(a++47::b))).2.1 else 0)=_
    rw[zS ha];rfl
  unfold qA;rw[hy];by_cases hr:X9 400 ((if sg=true then [45] else [])++(a++47::b))=0
  ·rw[if_pos hr,if_neg om]
  ·rw[if_neg hr]
def Gd (t:mR):Prop:=(t.1=1->t.2.1≠[45])/\(t.1=2->NE t.2.1)
structure X4 (r:RS):Prop where
 l:r.e=0->cU r.ts
 t :∀t∈r.ts,Gd t
structure Pj (r m:RS):Prop where
 e:r.e=m.e
 ts:r.ts=m.ts
 p:r.e≠0->r.ln=m.ln/\r.co=m.co
theorem Cv {r:RS} (h:r.e≠0) (e:Int):w9 r e=r:=if_pos h
theorem aK (r:RS) {e:Int} (he:e≠0):(w9 r e).e≠0:=by
 by_cases h:r.e≠0
 ·rw[Cv h];exact h
 ·unfold w9;rw[if_neg h,if_pos he];exact he
def U2 (r:RS) (lo hi:Int):RS×Int:=
 if (X0 r).1.e≠0 then ((X0 r).1,0)
 else match qA (X0 r).2 with
  | none=>(w9 r 2,0)
  | some n=>if n < lo\/hi < n then (w9 r 2,0) else ((X0 r).1,n)
end Go.Proofs.YtpjhmeicbjkcdaaGreatDoor
namespace Go.Proofs.YtpjhmeicbjkcdaaGreatDoor
theorem yE {Q:Int->d8->Prop} (h5:Q 5 []) (ht :∀s:d8,0 < s.length->(A9 s).2.2.2=0->Q (A9 s).2.1 (A9 s).2.2.1) :∀(f:Nat) (s:d8) (p:Nat×Nat) (out:List mR),(∀t∈out,Q t.1 t.2.1)->∀t∈(cH f s p out).1,Q t.1 t.2.1
 | 0,_,p,out,h=>by
  intro t hm;rcases y8.1 (show t∈out++[(5,[],p.1,p.2)] from hm) with hm | hm
  ·exact h t hm
  ·rw[v6.1 hm];exact h5
 | f+1,[],p,out,h=>by
  intro t hm;rcases y8.1 (show t∈out++[(5,[],p.1,p.2)] from hm) with hm | hm
  ·exact h t hm
  ·rw[v6.1 hm];exact h5
 | f+1,c::r,p,out,h=>by
  have e2:cH (f+1) (c::r) p out=if c=32\/c=10 then cH f r (aJ p c) out
   else if c=35 then cH f ((c::r).drop (s9 (λc=>!decide (c=10)) (c::r))) (I6 p ((c::r).take (s9 (λc=>!decide (c=10)) (c::r)))) out
   else if (A9 (c::r)).2.2.2≠0 then ([],(I6 p ((c::r).take (A9 (c::r)).1)).1,(I6 p ((c::r).take (A9 (c::r)).1)).2,(A9 (c::r)).2.2.2)
    else cH f ((c::r).drop (A9 (c::r)).1) (I6 p ((c::r).take (A9 (c::r)).1)) (out++[((A9 (c::r)).2.1,(A9 (c::r)).2.2.1,p.1,p.2)]):=rfl
  rw[e2];split
  ·exact yE h5 ht f _ _ _ h
  ·split
   ·exact yE h5 ht f _ _ _ h
   ·split
    ·intro t hm;cases hm
    ·rename_i h0
     refine yE h5 ht f _ _ _ λt hm=>?_;rcases y8.1 hm with hm | hm
     ·exact h t hm
     ·rw[v6.1 hm];exact ht (c::r) sQ (B9.1 h0)
theorem bJ (f:UInt8->Bool) :∀l:d8,(l.take (s9 f l)).all f=true
 | []=>rfl
 | c::l=>by
  by_cases h:f c=true
  ·have e:s9 f (c::l)=s9 f l+1:=by unfold s9;rw[B6,if_pos h];rfl
   rw[e,UM,S3,h,bJ f l];rfl
  ·have e:s9 f (c::l)=0:=by unfold s9;rw[B6,if_neg h];rfl
   rw[e];rfl
theorem WT {s:d8} (h0:0 < s9 k9 s) (hl:(N0 s).1<=400) (hc:V8 (s.take (N0 s).1) (N0 s).2=true):NE (s.take (N0 s).1):=by
 have hk:=iK k9 s;have ha:=bJ k9 s;have hb:=bJ k9 (s.drop (s9 k9 s+1));have hm:=iK k9 (s.drop (s9 k9 s+1));have hlt:(s.take (s9 k9 s)).length=s9 k9 s:=by rw[j1];omega
 rw[j9] at hm;refine⟨by rw[j1];omega,s.take (s9 k9 s),(s.drop (s9 k9 s+1)).take (s9 k9 (s.drop (s9 k9 s+1))),ha,by rw[hlt];exact h0,?_⟩;unfold N0 at hc hl ⊢;dsimp only at hc hl ⊢;split at hc
 ·rename_i h
  rw[if_pos h] at hl ⊢;have e:s.take (s9 k9 s+1+s9 k9 (s.drop (s9 k9 s+1)))=s.take (s9 k9 s)++47::(s.drop (s9 k9 s+1)).take (s9 k9 (s.drop (s9 k9 s+1))):=by
   rw[UW,yU,f8];have:s[s9 k9 s]?=some 47:=by
    have:=h.1;rw[e8,i7 h.2.1] at this;rw[i7 h.2.1];exact congrArg some this
   rw[this];rfl
  refine .inr ⟨e,hb,by rw[j1,j9];omega,?_⟩;rw[hlt];exact hc
 ·rename_i h
  rw[if_neg h];refine .inl ⟨rfl,?_⟩;dsimp only at hc;have:=EN (a:=s.take (s9 k9 s));rw[hlt] at this;rw[<-this];exact hc
theorem VI (s:d8) (h0:0 < s.length) (he:(A9 s).2.2.2=0):((A9 s).2.1=1->(A9 s).2.2.1≠[45])/\((A9 s).2.1=2->NE (A9 s).2.2.1):=by
 by_cases hq:s.getD 0 0=34
 ·rw[oY hq];exact⟨λh=>absurd h (show ¬ (3:Int)=1 by decide),λh=>absurd h (show ¬ (3:Int)=2 by decide)⟩
 ·rw[RI h0 hq] at he ⊢;by_cases h1:0 < sR s
  ·rw[if_pos h1] at he ⊢;by_cases h2:40 < sR s
   ·rw[if_pos h2] at he;exact absurd he (show ¬ (5:Int)=0 by decide)
   ·rw[if_neg h2];refine⟨λ_=>?_,λh=>absurd h (show ¬ (1:Int)=2 by decide)⟩;intro h;have h:s.take (sR s) = [45]:=h;have hw:J4 (s.getD 0 0)=true:=by
     unfold sR at h1;refine j3 λc=>?_;rw[if_neg c] at h1;cases h1
    cases s with
    | nil=>cases h0
    | cons c r=>
     obtain⟨n,hn⟩ :∃n,sR (c::r)=n+1:=⟨sR (c::r) - 1,om⟩
     rw[hn,UM] at h;have:c=45:=(E8 h).1;rw[this] at hw;cases hw
  ·rw[if_neg h1] at he ⊢;by_cases h2:0 < (PO s).1
   ·rw[if_pos h2] at he ⊢;have hr:0 < s9 k9 s:=by
     unfold PO at h2;rcases u9 (s9 k9 s) with g | g
     ·rw[if_pos g] at h2;cases h2
     ·exact g
    have hn:PO s=N0 s:=by unfold PO;rw[if_neg om]
    rw[hn] at he ⊢;by_cases h3:400 < (N0 s).1
    ·rw[if_pos h3] at he;exact absurd he (show ¬ (5:Int)=0 by decide)
    ·rw[if_neg h3] at he ⊢;by_cases h4:V8 (s.take (N0 s).1) (N0 s).2=true
     ·rw[if_pos h4];exact⟨λh=>absurd h (show ¬ (2:Int)=1 by decide),λ_=>WT hr om h4⟩
     ·rw[if_neg h4] at he;exact absurd he (show ¬ (3:Int)=0 by decide)
   ·rw[if_neg h2] at he ⊢;by_cases h3:W3 s=0
    ·rw[if_pos h3] at he;exact absurd he (show ¬ (14:Int)=0 by decide)
    ·rw[if_neg h3];exact⟨λh=>absurd h (show ¬ (4:Int)=1 by decide),λh=>absurd h (show ¬ (4:Int)=2 by decide)⟩
theorem VW (s:d8) :∀t∈(dG s).1,Gd t:=by
 unfold dG;split
 ·intro t h;cases h
 ·exact yE (Q:=λk x=>(k=1->x≠[45])/\(k=2->NE x)) ⟨λh=>absurd h dc,λh=>absurd h dc⟩ VI _ _ _ _ (λt h=>by cases h)
theorem X4.new {s:d8} (h:(dG s).2.2.2=0->cU (dG s).1):X4 (uA s):=⟨h,VW s⟩
end Go.Proofs.YtpjhmeicbjkcdaaGreatDoor
namespace Go.Proofs.YtpjhmeicbjkcdaaGreatDoor
def bB (c:UInt8):d8:=if c=34\/c=92 then [92,c] else [c]
def F6 (l:d8):d8:=l.flatMap bB
def Q8 (s:d8):d8:=34::(F6 s++[34])
def xN (s:d8):Prop:=∀c∈s,¬ OD c
theorem dS (c:UInt8) (l:d8):F6 (c::l)=bB c++F6 l:=rfl
theorem QM (l:d8):(F6 l).length<=2*l.length:=by
 induction l with
 | nil=>exact j8 _
 | cons c l ih=>
  rw[dS,d6,d7];have:(bB c).length<=2:=by unfold bB;split <;> simp
  omega
theorem yG :∀(l:d8) (i:Nat) (out r:d8),xN l->J3 (F6 l++34::r) i out=if 4096 < out.length+l.length then (0,[],5) else (i+(F6 l).length+1,out++l,0)
 | [],i,out,r,_=>by
  show J3 (34::r) i out=_
  rw[dK,if_neg dc,if_pos rfl,k8];rfl
 | c::l,i,out,r,h=>by
  have hc:=h c sQ;have hl:xN l:=λx hx=>h x (B8 _ hx);have h10:c≠10:=λe=>by subst e;exact hc (.inl dc)
  have ih:=λi out=>yG l i out r hl;rw[dS,f8];by_cases h1:c=34\/c=92
  ·have e:bB c = [92,c]:=if_pos h1;rw[e];show J3 (92::(c::(F6 l++34::r))) i out=_
   rw[dK,if_neg dc,if_neg dc,if_neg dc,if_pos rfl];have hg:(c::(F6 l++34::r)).getD 0 0=c:=rfl;rw[hg,if_pos h1];show J3 (F6 l++34::r) (i+2) (out++[c])=_
   have e1:(out++[c]).length+l.length=out.length+(c::l).length:=by simp;omega
   have e2:i+2+(F6 l).length+1=i+([92,c]++F6 l).length+1:=by simp;omega
   rw[ih,e1,e2,f8];rfl
  ·have e:bB c = [c]:=if_neg h1;rw[e];show J3 (c::(F6 l++34::r)) i out=_
   rw[dK,if_neg h10,if_neg (λg=>h1 (.inl g)),if_neg hc,if_neg (λg=>h1 (.inr g))];have e1:(out++[c]).length+l.length=out.length+(c::l).length:=by simp;omega
   have e2:i+1+(F6 l).length+1=i+([c]++F6 l).length+1:=by simp;omega
   rw[ih,e1,e2,f8];rfl
theorem PF :∀(l:d8) (i:Nat) (out:d8),(J3 l i out).2.2=0->∃b r,l=F6 b++34::r/\J3 l i out=(i+(F6 b).length+1,out++b,0)/\xN b/\out.length+b.length<=4096:=by
 intro l;induction hn:l.length using sI generalizing l with
 | _ n ih=>
  intro i out h;cases l with
  | nil=>exact absurd h (show ¬ (4:Int)=0 by decide)
  | cons c r=>
   simp only[d7] at hn;rw[dK] at h;by_cases h1:c=10
   ·rw[if_pos h1] at h;exact absurd h (show ¬ (4:Int)=0 by decide)
   ·rw[if_neg h1] at h;by_cases h2:c=34
    ·rw[if_pos h2] at h;by_cases h3:4096 < out.length
     ·rw[if_pos h3] at h;exact absurd h (show ¬ (5:Int)=0 by decide)
     ·refine⟨[],r,by rw[h2];rfl,?_,(λx hx=>by cases hx),by show out.length+0<=4096;omega⟩;rw[dK,if_neg h1,if_pos h2,if_neg h3,k8];rfl
    ·rw[if_neg h2] at h;by_cases h3:OD c
     ·rw[if_pos h3] at h;exact absurd h (show ¬ (14:Int)=0 by decide)
     ·rw[if_neg h3] at h;by_cases h4:c=92
      ·rw[if_pos h4] at h;by_cases h5:r.getD 0 0=34\/r.getD 0 0=92
       ·rw[if_pos h5] at h;cases r with
        | nil=>exact absurd h5 dc
        | cons d r=>
         have h5:d=34\/d=92:=h5;simp only[d7] at hn;obtain⟨b,r',e1,e2,e3,e4⟩:=ih r.length om r rfl (i+2) (out++[d]) h;rw[d6,p7] at e4;refine⟨d::b,r',?_,?_,?_,by rw[d7];omega⟩
         ·rw[dS,show bB d = [92,d] from if_pos h5,e1,h4];rfl
         ·rw[dK,if_neg h1,if_neg h2,if_neg h3,if_pos h4];have hg:(d::r).getD 0 0=d:=rfl;rw[hg,if_pos h5];show J3 r (i+2) (out++[d])=_
          rw[e2,dS,show bB d = [92,d] from if_pos h5,f8,d6];have:i+2+(F6 b).length+1=i+(([92,d]:d8).length+(F6 b).length)+1:=by show _=i+(2+_)+1;omega
          rw[this];rfl
         ·intro x hx;rcases p9.1 hx with rfl | hx
          ·rcases h5 with rfl | rfl <;> decide
          ·exact e3 x hx
       ·rw[if_neg h5] at h;exact absurd h (show ¬ (14:Int)=0 by decide)
      ·rw[if_neg h4] at h;obtain⟨b,r',e1,e2,e3,e4⟩:=ih r.length om r rfl (i+1) (out++[c]) h;rw[d6,p7] at e4;have hc:bB c = [c]:=if_neg (λg=>g.elim h2 h4);refine⟨c::b,r',?_,?_,?_,by rw[d7];omega⟩
       ·rw[dS,hc,e1];rfl
       ·rw[dK,if_neg h1,if_neg h2,if_neg h3,if_neg h4,e2,dS,hc,f8,d6];have:i+1+(F6 b).length+1=i+(([c]:d8).length+(F6 b).length)+1:=by show _=i+(1+_)+1;omega
        rw[this];rfl
       ·intro x hx;rcases p9.1 hx with rfl | hx
        ·exact h3
        ·exact e3 x hx
theorem ZX {s:d8} (h:xN s) (hl:s.length<=4096) (r:d8):A9 (Q8 s++r)=((Q8 s).length,3,s,0):=by
 have e:Q8 s++r=34::(F6 s++34::r):=by
  show 34::((F6 s++[34])++r)=_
  rw[f8];rfl
 have hq:(Q8 s++r).getD 0 0=34:=by rw[e];rfl
 rw[oY hq,e];show ((J3 (F6 s++34::r) 1 []).1,(3:Int),(J3 (F6 s++34::r) 1 []).2.1,(J3 (F6 s++34::r) 1 []).2.2)=_
 rw[yG s 1 [] r h,if_neg (by rw[i6];omega)];have:(Q8 s).length=1+(F6 s).length+1:=by
  show (F6 s++[34]).length+1=_
  rw[d6,p7];omega
 rw[this];rfl
def Jg (k:Int) (x:d8):d8:=if k=3 then Q8 x else x
structure Ow (k:Int) (x:d8):Prop where
 t :∀r:d8,(r = []\/r.getD 0 0=32)->A9 (Jg k x++r)=((Jg k x).length,k,x,0)
 b:0 < (Jg k x).length/\IF ((Jg k x).getD 0 0)
 l:x.length<=4096
 q:k=3->xN x
 k:k≠5
theorem gS {a r:d8} (h:0 < a.length):(a++r).getD 0 0=a.getD 0 0:=by
 cases a with
 | nil=>cases h
 | cons c a=>rfl
theorem GD (s:d8):N0 s=if s.getD (s9 k9 s) 0=47/\s9 k9 s < s.length/\0 < s9 k9 (s.drop (s9 k9 s+1)) then (s9 k9 s+1+s9 k9 (s.drop (s9 k9 s+1)),s9 k9 s) else (s9 k9 s,s9 k9 s):=rfl
theorem FF (s:d8):W3 s=if Z4.any (λx=>decide (s.take 2=x)) then 2 else if s.length≠0/\s.getD 0 0∈CK then 1 else 0:=rfl
end Go.Proofs.YtpjhmeicbjkcdaaGreatDoor
namespace Go.Proofs.YtpjhmeicbjkcdaaGreatDoor
def zU (l:d8):Nat:=l.count 92+l.count 34
theorem tF (c:UInt8) (l:d8):zU (c::l)=zU l+if c=34\/c=92 then 1 else 0:=by
 unfold zU;rw[List.count_cons,List.count_cons];by_cases h1:c=34
 ·subst h1;rw[if_neg dc,if_pos dc,if_pos (.inl rfl)];omega
 ·by_cases h2:c=92
  ·subst h2;rw[if_pos dc,if_neg dc,if_pos (.inr rfl)];omega
  ·rw[if_neg (by simpa using h2),if_neg (by simpa using h1),if_neg (by simp[h1,h2])];omega
theorem Cy (l:d8):(F6 l).length=l.length+zU l:=by
 induction l with
 | nil=>rfl
 | cons c l ih=>
  rw[dS,d6,ih,tF,d7];unfold bB;by_cases h:c=34\/c=92
  ·rw[if_pos h,if_pos h];simp;omega
  ·rw[if_neg h,if_neg h];simp;omega
theorem KQ {l:d8} (h:zU l=0):F6 l=l:=by
 induction l with
 | nil=>rfl
 | cons c l ih=>
  rw[tF] at h;rw[dS,ih om];unfold bB;by_cases hc:c=34\/c=92
  ·rw[if_pos hc] at h;omega
  ·rw[if_neg hc];rfl
theorem YC (l:d8) (c:UInt8):F6 (l++[c])=F6 l++bB c:=by
 unfold F6;rw[N7];simp
theorem zR {l:d8} {k:Nat} (h:k < l.length):l.take (k+1)=l.take k++[l.getD k 0]:=by
 rw[yU,i7 h,e8,i7 h];rfl
theorem gV {l:d8} {k:Nat} (h:k < l.length):F6 (l.take (k+1))=F6 (l.take k)++bB (l.getD k 0):=by
 rw[zR h,YC]
theorem MI (a b:d8):zU (a++b)=zU a+zU b:=by unfold zU;rw[List.count_append,List.count_append];omega
theorem VQ {l:d8} {k:Nat} (h:k < l.length):zU (l.take (k+1))=zU (l.take k)+if l.getD k 0=34\/l.getD k 0=92 then 1 else 0:=by
 rw[zR h,MI,tF];show _+(0+_)=_;omega
theorem MH (l:d8):zU l<=l.length:=by
 induction l with
 | nil=>exact j8 _
 | cons c l ih=>rw[tF,d7];split <;> omega
theorem dR (l:d8) (k:Nat):(F6 (l.take k)).length<=(F6 l).length:=by
 conv=>rhs;rw[<-F8 k l]
 unfold F6;rw[N7,d6];omega
def qL (l:d8) (k:Nat):d8:=F6 (l.take k)++m6 ((F6 l).length - (F6 (l.take k)).length) 0
theorem gY (l:d8) (k:Nat):(qL l k).length=(F6 l).length:=by
 have:=dR l k;unfold qL;rw[d6,O1];omega
theorem EP (l:d8):qL l 0=m6 (F6 l).length 0:=by unfold qL;rw[Q0];rfl
theorem LG (l:d8):qL l l.length=F6 l:=by unfold qL;rw[q8,bX];simp
theorem Av (a m:d8) (n:Nat):(a++m6 n (0:UInt8)).take a.length++m++(a++m6 n (0:UInt8)).drop (a.length+m.length)=a++m++m6 (n - m.length) 0:=by
 rw[X6,List.drop_append,bZ om,I4,CY,List.drop_replicate];rfl
theorem BS {l:d8} {k:Nat} (h:k < l.length):(qL l k).take (F6 (l.take k)).length++bB (l.getD k 0)++(qL l k).drop ((F6 (l.take k)).length+(bB (l.getD k 0)).length)=qL l (k+1):=by
 have h1:=dR l (k+1);rw[gV h,d6] at h1;unfold qL;rw[Av,gV h,d6];congr 2
 omega
theorem LF {l:d8} {k:Nat} (h:k < l.length) (hc : ¬ (l.getD k 0=34\/l.getD k 0=92)):(qL l k).set (F6 (l.take k)).length (l.getD k 0)=qL l (k+1):=by
 have:=BS h;have e:bB (l.getD k 0) = [l.getD k 0]:=by unfold bB;rw[if_neg hc]
 have h1:=dR l (k+1);rw[gV h,d6] at h1;rw[e] at this h1;rw[<-this,ZM,if_pos (by rw[gY];simp at h1;omega)];simp
end Go.Proofs.YtpjhmeicbjkcdaaGreatDoor
namespace Go.Proofs.YtpjhmeicbjkcdaaGreatDoor
open Go Go.RowKit Go.Dw
def XZ (x:UInt8):List Value:=[.int .u8 x.toNat]
theorem QF :∀L:List UInt8,L.flatMap XZ=L.map λx=>Value.int .u8 x.toNat
 | []=>rfl
 | x::L=>by rw[u7,M2,QF L];rfl
theorem oJ (L:List UInt8) {j:Nat} (h:j < L.length):(L.flatMap XZ)[j]?=some (.int .u8 L[j].toNat):=by
 rw[QF,E2,i7 h];rfl
theorem Ew {s:List Ch} {i:Nat} {o:Dw.Os} (hi:l7 s i=some (.hp o.h)) {L:List UInt8} (ho:w5 XZ 5 1 o L) (h0:0 < L.length) {q:TV->Prop} (h:q (.v (sv L))):C9 Tryz.prog s (convert 68 9 o.v) q:=by
 refine⟨_,λw hm=>?_,h⟩;have hlen:=w5.len ho;obtain⟨b,hb⟩:=ho.addr h0;obtain⟨a,n,c,hh⟩:=o;dsimp only at hb hlen hi;subst hb;show (convert 68 9 (.slice (some ⟨b,0,none⟩) n c)).run Tryz.prog w=_
 rw[run_convert_bytes_arg w 68 5 Tryz.underlying68 Tryz.underlying5 b 0 n c (L.map λx=>(x.toNat:Int)) (by rw[j6,<-hlen]) (λj hj=>?_) 9 Tryz.underlying9]
 ·congr 2
  unfold strOfNums bs;congr 2
  rw[En];conv=>rhs;rw[<-List.map_id L]
  exact aG λx _=>UInt8.toNat_inj.1 sQ
 ·have hj':j < L.length:=om
  obtain⟨b',arr,e1,_,_,h4⟩:=jO.cell ho.2 (oJ L hj');cases e1;have:=(hm i _ hi).whole.cell h4;rw[w7];have e:(L.map λx=>(x.toNat:Int)).getD j 0=(L[j].toNat:Int):=by
   rw[e8,E2,i7 hj'];rfl
  rw[e];exact this
end Go.Proofs.YtpjhmeicbjkcdaaGreatDoor
namespace Go.Proofs
open Go.Shelf
def Tryz.lCo_ren:Go.Shelf.Ren:=⟨λ| 138=>370 | 195=>371 | 218=>372 | 143=>373 | 219=>279 | 217=>298 | 225=>299 | 224=>300 | 267=>301 | 266=>318 | 314=>319 | n=>n,λ| 9=>9 | 3=>3 | 4=>4 | 5=>5 | 0=>0 | 46=>135 | 146=>329 | 51=>247 | n=>n,λ| 1=>1 | n=>n⟩
theorem Tryz.lCo:Go.Proofs.Lays.n138 Tryz.prog Tryz.lCo_ren:={
 mixed:=kr
 f138:=Tryz.func370.trans (congrArg some kr)
 f143:=Tryz.func373.trans (congrArg some kr)
 f195:=Tryz.func371.trans (congrArg some kr)
 f217:=Tryz.func298.trans (congrArg some kr)
 f218:=Tryz.func372.trans (congrArg some kr)
 f219:=Tryz.func279.trans (congrArg some kr)
 f224:=Tryz.func300.trans (congrArg some kr)
 f225:=Tryz.func299.trans (congrArg some kr)
 f266:=Tryz.func318.trans (congrArg some kr)
 f267:=Tryz.func301.trans (congrArg some kr)
 f314:=Tryz.func319.trans (congrArg some kr)
 t0:=Tryz.underlying0
 a0:=Tryz.isAgg0
 z0:=Tryz.sizeOf0
 v0:=Tryz.zeroValue0
 t3:=Tryz.underlying3
 a3:=Tryz.isAgg3
 z3:=Tryz.sizeOf3
 v3:=Tryz.zeroValue3
 t4:=Tryz.underlying4
 a4:=Tryz.isAgg4
 z4:=Tryz.sizeOf4
 v4:=Tryz.zeroValue4
 t5:=Tryz.underlying5
 a5:=Tryz.isAgg5
 z5:=Tryz.sizeOf5
 v5:=Tryz.zeroValue5
 t9:=Tryz.underlying9
 a9:=Tryz.isAgg9
 z9:=Tryz.sizeOf9
 v9:=Tryz.zeroValue9
 t46:=Tryz.underlying135
 a46:=Tryz.isAgg135
 z46:=Tryz.sizeOf135
 v46:=Tryz.zeroValue135
 t51:=Tryz.underlying247
 a51:=Tryz.isAgg247
 z51:=Tryz.sizeOf247
 v51:=Tryz.zeroValue247
 t146:=Tryz.underlying329
 a146:=Tryz.isAgg329
 z146:=Tryz.sizeOf329
 v146:=Tryz.zeroValue329
 g1:=by kernel_rfl }
end Go.Proofs
namespace Go.Proofs.YtpjhmeicbjkcdaaGreatDoor
open Go Go.Shelf Go.RowKit Go.Dw
theorem WA (s34 s92 tr:Value) (m:Nat) (hm:m < 256):(IT s34 s92 tr)[m]?=some (if m=34 then s34 else if m=92 then s92 else AN):=by
 unfold IT;by_cases h1:m < 34
 ·rw[X3 (by simpa using h1),Pp,if_pos h1,if_neg om,if_neg om]
 ·rw[L8 (by simp;omega),O1];by_cases h2:m=34
  ·subst h2;rfl
  ·obtain⟨k,hk⟩ :∃k,m - 34=k+1:=⟨m - 35,om⟩
   rw[hk,aQ,if_neg h2];by_cases h3:k < 57
   ·rw[X3 (by simpa using h3),Pp,if_pos h3,if_neg om]
   ·rw[L8 (by simp;omega),O1];by_cases h4:k=57
    ·subst h4;rw[if_pos om];rfl
    ·obtain⟨j,hj⟩ :∃j,k - 57=j+1:=⟨k - 58,om⟩
     rw[hj,aQ,if_neg om,X3 (by rw[O1];omega),Pp,if_pos om]
structure Lg (H:Hp) (bq:Nat) (g:UQ):Prop where
 cell :∀m v,(IT g.s34 g.s92 g.tr.v)[m]?=some v->H.cell? ⟨bq,0+m,none⟩=some v
 t34:CT H 34 g.s34
 t92:CT H 92 g.s92
 tr:Sl (E0 fS) 1 H g.tr.a g.tr.n g.tr.c [[92],[34]]
theorem vU (c:UInt8):QZ c.toNat 256=true:=by
 have:=c.toNat_lt;simp[Nx];omega
theorem Lg.hit {H:Hp} {bq:Nat} {g:UQ} (h:Lg H bq g) {c:UInt8} (hc:c=34\/c=92) :∃b cap,H.cell? ⟨bq,0+0+c.toNat*1,none⟩=some (.slice (some ⟨b,0,none⟩) 2 cap)/\H.cell? ⟨b,0,none⟩=some (.int .u8 92)/\H.cell? ⟨b,1,none⟩=some (.int .u8 c.toNat):=by
 rcases hc with rfl | rfl
 ·obtain⟨b,cap,h1,h2,h3⟩:=h.t34;exact⟨b,cap,by rw[<-h1];exact h.cell 34 _ rfl,h2,h3⟩
 ·obtain⟨b,cap,h1,h2,h3⟩:=h.t92;exact⟨b,cap,by rw[<-h1];exact h.cell 92 _ rfl,h2,h3⟩
theorem Lg.miss {H:Hp} {bq:Nat} {g:UQ} (h:Lg H bq g) {c:UInt8} (hc : ¬ (c=34\/c=92)):H.cell? ⟨bq,0+0+c.toNat*1,none⟩=some zl:=by
 have h1:c.toNat < 256:=c.toNat_lt;have e:=WA g.s34 g.s92 g.tr.v c.toNat h1;have n1 : ¬ c.toNat=34:=λe=>hc (.inl (UInt8.toNat_inj.1 e));have n2 : ¬ c.toNat=92:=λe=>hc (.inr (UInt8.toNat_inj.1 e));rw[if_neg n1,if_neg n2] at e;have:=h.cell c.toNat _ e;rw[D7];exact this
theorem vJ {T:Nat} {s:List Ch} {xo yo:Operand} {a:Option Addr} {n c:Nat} {q:TV->Prop} (hT:(bQ (cx 0) T).isSome=true) (h:q (.v (.bool (!a.isNone)))) :
  C9 Tryz.prog s (do eqGuard .neq T xo yo (.slice a n c) zl;binOp .neq T (.slice a n c) zl) q:=by
 obtain⟨⟨e,te⟩,hx⟩:=Pk.1 hT;have hu:=(V4 (cxg 0) hx).1;refine⟨_,λw _=>?_,h⟩;have hun:(underlying T).run Tryz.prog w=.ok (.slice e) w:=by simp[underlying,show Tryz.prog.underlying T=_ from hu]
 have hg:(eqGuard .neq T xo yo (.slice a n c) zl).run Tryz.prog w=.ok () w:=by simp[eqGuard]
 rw[Sem.run_bind,hg];simp only[Result.andThen_ok,binOp,Sem.run_bind];have:(Op.equal T (.slice a n c) zl).run Tryz.prog w=.ok a.isNone w:=by
  unfold Op.equal Op.maxDepth;rw[show (10000:Nat)=9999+1 from rfl];unfold Op.equalIn;simp only[Sem.run_bind,hun,Result.andThen_ok];cases a <;> simp
 rw[this];simp
theorem BJ (s:d8) (c:UInt8) (w:World):j2 Tryz.prog 370 #[sv s,sv [c]] w (v8 w (iQ (s.count c))):=by
 have hcon:=Any.strings_Count_one Tryz.lCo (bs s) c w;change Calls Tryz.prog 370 _ _ _ at hcon
 refine gX (enters_of Tryz.func370 kr rfl _) hcon ?_;rintro e w' ⟨rfl,rfl⟩;exact⟨rfl,Below.refl _ _,j8 _⟩
def CP (s:d8):Nat->Nat
 | 0=>0
 | 1=>s.count 92
 | _=>s.count 92+s.count 34
theorem YQ (s:d8) (k:Nat):CP s k<=s.length:=by
 have h:=MH s;unfold zU at h;unfold CP;split <;> omega
set_option maxRecDepth 100000 in
set_option maxHeartbeats 4000000 in
theorem yB {bq:Nat} {g:UQ} (s:d8) (hs:s.length < 1000000) (w:World) (hR:Lg (Hp.whole w) bq g) :
  j2 Tryz.prog 368 #[pQ bq,sv s] w (v8 w (sv (F6 s))):=by
 have hz:=C8 s;have hn:=hR.tr.len;have hn:g.tr.n=2:=hn;obtain⟨⟨ta,tn,tc,th⟩,s34,s92,hB⟩:=g;dsimp only at hn;subst hn;have htr:(Hp.whole w).cell? ⟨bq,0+256,none⟩=some (.slice ta 2 tc):=hR.cell 256 _ rfl;have hel:=Cy s;have hsl:=MH s;refine enterZ (cx 122) [pQ bq,sv s] [.tmp 4] Tryz.func368 ?_;refine lQ 0 htr ?_;refine nwo ?_;refine d9 (λh1=>?_) λh1=>?_
 ·refine lQ 0 htr ?_;refine z6.mk Nat (λk=>[(0,.v (pQ bq)),(1,.v (sv s)),(5,.v (iQ (s.length+CP s k:Nat))),(6,.v (.bool (decide (CP s k≠0)))),(30,.v (.slice ta 2 tc)),(31,.v (iQ 2)),(32,.v (iQ k))]) (λ_=>[.hp (Hp.whole w)])
   (λk=>k<=2) (λk=>2 - k) 0 dc (y6.mk (λ_ _ h=>h) (by rw[hz];rfl) rfl) ?_
  intro k hk;match k,hk with
  | 0,_=>
   refine R2 cQ (e:=9) rfl hR.tr 0 rfl dc λb9 o9 cs hcs hRc hcell=>?_;subst hRc;refine lQ 0 (hcell 0 _ rfl) ?_;refine k7 _ (λw' hm=>BJ s 92 w') ?_;have hstep:CP s 1=CP s 0+s.count 92:=(w7 _).symm;have hle:CP s 1<=s.length:=YQ s 1;generalize hct:s.count 92=ct at *;refine d9 (λh4=>?_) λh4=>?_
   ·obtain⟨b2,c2,hcl,_,_⟩:=hR.hit (c:=92) (.inr rfl);refine u6.by_order cQ (.take 0 <| .take 1 <| .take 2 <| .take 3 <| .take 4 <| .take 5 <| .take 6 <| .take 7 <| .take 8 <| .take 9 <| .take 10 <| .take 11 <| .take 12 <| .take 13 <| .done) kr ?_;refine aB cQ rfl rfl 0 rfl dc ?_;refine GS cQ (T:=349) rfl rfl rfl 92 rfl rfl ?_;refine lQ 0 hcl ?_;refine nw dc dc ?_;refine nwo ?_;refine nwo ?_;refine nw dc dc ?_;have e5:((s.length+CP s 1:Nat):Int)=((s.length+CP s 0:Nat):Int)+(ct:Int)*((2:Nat) - 1:Int):=om
    have e6:decide (CP s 1≠0)=true:=decide_eq_true om;exact⟨1,dc,dc,y6.mk (λ_ _ h=>h) (by (try dsimp only);rw[e5,e6];rfl) rfl⟩
   ·have h4:ct=0:=om
    refine nw dc dc ?_;have e5:CP s 1=CP s 0:=om
    exact⟨1,dc,dc,y6.mk (λ_ _ h=>h) (by (try dsimp only);rw[e5];rfl) rfl⟩
  | 1,_=>
   refine R2 cQ (e:=9) rfl hR.tr 1 rfl dc λb9 o9 cs hcs hRc hcell=>?_;subst hRc;refine lQ 0 (hcell 0 _ rfl) ?_;refine k7 _ (λw' hm=>BJ s 34 w') ?_;have hstep:CP s 2=CP s 1+s.count 34:=rfl;have hle:CP s 2<=s.length:=YQ s 2;generalize hct:s.count 34=ct at *;refine d9 (λh4=>?_) λh4=>?_
   ·obtain⟨b2,c2,hcl,_,_⟩:=hR.hit (c:=34) (.inl rfl);refine u6.by_order cQ (.take 0 <| .take 1 <| .take 2 <| .take 3 <| .take 4 <| .take 5 <| .take 6 <| .take 7 <| .take 8 <| .take 9 <| .take 10 <| .take 11 <| .take 12 <| .take 13 <| .done) kr ?_;refine aB cQ rfl rfl 0 rfl dc ?_;refine GS cQ (T:=349) rfl rfl rfl 34 rfl rfl ?_;refine lQ 0 hcl ?_;refine nw dc dc ?_;refine nwo ?_;refine nwo ?_;refine nw dc dc ?_;have e5:((s.length+CP s 2:Nat):Int)=((s.length+CP s 1:Nat):Int)+(ct:Int)*((2:Nat) - 1:Int):=om
    have e6:decide (CP s 2≠0)=true:=decide_eq_true om;exact⟨2,dc,dc,y6.mk (λ_ _ h=>h) (by (try dsimp only);rw[e5,e6];rfl) rfl⟩
   ·have h4:ct=0:=om
    refine nw dc dc ?_;have e5:CP s 2=CP s 1:=om
    exact⟨2,dc,dc,y6.mk (λ_ _ h=>h) (by (try dsimp only);rw[e5];rfl) rfl⟩
  | 2,_=>
   have e2:CP s 2=zU s:=rfl;rw[e2];refine v7 (λh6=>?_) λh6=>?_
   ·have h6:zU s=0:=by simpa using h6
    rw[KQ h6];exact⟨[],⟨rfl,rfl⟩,pk [0]⟩
   ·have h6:zU s≠0:=by simpa using h6
    refine Hj (f:=XZ) cQ (e:=5) rfl (F6 s).length 0 rfl om om rfl om λo85 ho85n ho85=>?_;refine z6.mk (Nat×Dw.Os) (λg=>[(0,.v (pQ bq)),(1,.v (sv s)),(12,.v (o85.v)),(13,.v (iQ (F6 (s.take g.1)).length)),(14,.v (iQ g.1))]) (λg=>[.hp (Hp.whole w),.hp g.2.h])
     (λg=>g.1<=s.length/\(g.2.a=o85.a/\g.2.n=o85.n/\g.2.c=o85.c)/\w5 XZ 5 1 g.2 (qL s g.1)) (λg=>s.length - g.1) (0,o85) ⟨j0 _,⟨rfl,rfl,rfl⟩,by dsimp only;rw[EP];exact ho85⟩ (y6.mk (λ_ _ h=>h) rfl rfl) ?_
    rintro⟨i,⟨oa,on,oc,oh⟩⟩ ⟨hi,⟨ha,hnn,hcc⟩,ho⟩;dsimp only at ha hnn hcc hi ho ⊢;subst ha hnn hcc;refine d9 (λh8=>?_) λh8=>?_
    ·have hi1:i < s.length:=om
     obtain⟨c,hc⟩ :∃c,c=s.getD i 0:=⟨_,rfl⟩
     have hbl:=gY s i;have hlt:(F6 (s.take i)).length+(bB c).length<=(F6 s).length:=by have h:=dR s (i+1);rw[gV hi1,d6,<-hc] at h;exact h
     have hlen1:(F6 (s.take (i+1))).length=(F6 (s.take i)).length+(bB c).length:=by rw[gV hi1,d6,<-hc]
     refine aB cQ rfl rfl i rfl hi1 ?_;rw[<-hc];refine GS cQ (T:=349) rfl rfl rfl c.toNat rfl (vU c) ?_;by_cases hsp:c=34\/c=92
     ·obtain⟨b2,c2,hcl,hc0,hc1⟩:=hR.hit hsp;have he2:bB c = [92,c]:=by unfold bB;rw[if_pos hsp]
      rw[he2] at hlt hlen1;have hlt:(F6 (s.take i)).length+2<=(F6 s).length:=hlt;have hlen1:(F6 (s.take (i+1))).length=(F6 (s.take i)).length+2:=hlen1;refine lQ 0 hcl ?_;refine vJ rfl ?_;obtain⟨b,hb⟩:=ho.addr (by rw[gY];omega);have hb:o85.a=some ⟨b,0,none⟩:=hb;have hcap:o85.n<=o85.c:=ho.2.cap;have hput:=BS hi1;rw[<-hc,he2] at hput;refine u6.by_order0 cQ (.take 0 <| .take 1 <| .take 2 <| .take 3 <| .take 4 <| .take 5 <| .take 6 <| .take 7 <| .take 8 <| .take 9 <| .run 10 <| .take 11 <| .take 12 <| .done) kr (J5 _ 1) ?_;refine Og cQ (e:=5) (a:=o85.a) (n:=o85.n) (c:=o85.c) rfl hb (F6 (s.take i)).length rfl om hcap ?_;refine GS cQ (T:=349) rfl rfl rfl c.toNat rfl (vU c) ?_;refine lQ 0 hcl ?_;refine Kq (f:=XZ) cQ (e:=5) rfl rfl (λ_=>rfl) (i:=1) (o:=⟨o85.a,o85.n,o85.c,oh⟩) rfl hb (M:=[92,c]) ho (by rw[gY];exact hlt) sQ rfl (λw' hm j v hj=>?_) rfl λo2 f1 f2 f3 ho2=>?_
      ·have h0:(Hp.whole w).cell? ((⟨b2,0,none⟩:Addr).add j)=some v:=by
        match j,hj with
        | 0,hj=>cases hj;exact hc0
        | 1,hj=>cases hj;exact hc1
       exact (hm 0 _ rfl:(Hp.whole w).In w').cell h0
      refine⟨sK,?_⟩;refine nw (by have:([92,c]:d8).length=2:=rfl;omega) (by have:([92,c]:d8).length=2:=rfl;omega) ?_;refine nwo ?_;have e13:(((F6 (s.take (i+1))).length:Nat):Int)=((F6 (s.take i)).length:Nat)+(([92,c]:d8).length:Nat):=by rw[hlen1];rfl
      exact⟨(i+1,o2),⟨hi1,⟨f1,f2,f3⟩,by dsimp only;rw[<-hput];exact ho2⟩,by dsimp only;omega,y6.mk (λ_ _ h=>h) (by dsimp only;rw[e13];rfl) rfl⟩
     ·have hcl:=hR.miss hsp;have he1:bB c = [c]:=by unfold bB;rw[if_neg hsp]
      rw[he1] at hlt hlen1;have hlt:(F6 (s.take i)).length+1<=(F6 s).length:=hlt;have hlen1:(F6 (s.take (i+1))).length=(F6 (s.take i)).length+1:=hlen1;have hset:=LF hi1 (by rw[<-hc];exact hsp);rw[<-hc] at hset;refine lQ 0 hcl ?_;refine vJ rfl ?_;have hkl:(F6 (s.take i)).length < (qL s i).length:=om
      refine aW (f:=XZ) cQ (e:=5) rfl rfl ho (F6 (s.take i)).length rfl hkl λb9 hb9=>?_;refine mG (g:=λx:UInt8=>.int .u8 x.toNat) (λ_=>rfl) cQ (i:=1) rfl hb9 ho hkl rfl rfl c rfl rfl rfl λo2 f1 f2 f3 ho2=>?_;(iterate 2 refine nwo ?_);have e13:(((F6 (s.take (i+1))).length:Nat):Int)=((F6 (s.take i)).length:Nat)+1:=by rw[hlen1];rfl
      exact⟨(i+1,o2),⟨hi1,⟨f1,f2,f3⟩,by dsimp only;rw[<-hset];exact ho2⟩,by dsimp only;omega,y6.mk (λ_ _ h=>h) (by dsimp only;rw[e13];rfl) rfl⟩
    ·have hi2:i=s.length:=om
     subst hi2;rw[LG] at ho;refine Ew (i:=1) (o:=⟨o85.a,o85.n,o85.c,oh⟩) rfl ho om ?_;exact⟨[],⟨rfl,rfl⟩,pk [0]⟩
 ·refine z6.mk Nat (λi=>[(0,.v (pQ bq)),(1,.v (sv s)),(5,.v (iQ (s.length+zU (s.take i):Nat))),(6,.v (.bool (decide (zU (s.take i)≠0)))),(10,.v (iQ i))]) (λ_=>[.hp (Hp.whole w)])
   (λi=>i<=s.length) (λi=>s.length - i) 0 (j0 _) (y6.mk (λ_ _ h=>h) (by rw[hz];rfl) rfl) ?_
  intro i hi;dsimp only at *;refine d9 (λh14=>?_) λh14=>?_
  ·have hi1:i < s.length:=om
   obtain⟨c,hc⟩ :∃c,c=s.getD i 0:=⟨_,rfl⟩
   have hst:=VQ hi1;have hle:=MH (s.take (i+1));rw[j1] at hle;rw[<-hc] at hst;refine aB cQ rfl rfl i rfl hi1 ?_;rw[<-hc];refine GS cQ (T:=349) rfl rfl rfl c.toNat rfl (vU c) ?_;by_cases hsp:c=34\/c=92
   ·obtain⟨b2,c2,hcl,hc0,hc1⟩:=hR.hit hsp;rw[if_pos hsp] at hst;refine lQ 0 hcl ?_;refine vJ rfl ?_;refine GS cQ (T:=349) rfl rfl rfl c.toNat rfl (vU c) ?_;refine lQ 0 hcl ?_;refine nw dc dc ?_;(iterate 2 refine nwo ?_);have e5:((s.length+zU (s.take (i+1)):Nat):Int)=((s.length+zU (s.take i):Nat):Int)+((2:Nat) - 1:Int):=om
    have e6:decide (zU (s.take (i+1))≠0)=true:=decide_eq_true om;exact⟨i+1,hi1,by (try dsimp only);omega,y6.mk (λ_ _ h=>h) (by (try dsimp only);rw[e5,e6];rfl) rfl⟩
   ·have hcl:=hR.miss hsp;rw[if_neg hsp] at hst;refine lQ 0 hcl ?_;refine vJ rfl ?_;refine nwo ?_;exact⟨i+1,hi1,by (try dsimp only);omega,y6.mk (λ_ _ h=>h) (by (try dsimp only);rw[hst];rfl) rfl⟩
  ·have hi2:i=s.length:=om
   subst hi2;rw[q8];refine v7 (λh6=>?_) λh6=>?_
   ·have h6:zU s=0:=by simpa using h6
    rw[KQ h6];exact⟨[],⟨rfl,rfl⟩,pk [0]⟩
   ·have h6:zU s≠0:=by simpa using h6
    refine Hj (f:=XZ) cQ (e:=5) rfl (F6 s).length 0 rfl om om rfl om λo85 ho85n ho85=>?_;refine z6.mk (Nat×Dw.Os) (λg=>[(0,.v (pQ bq)),(1,.v (sv s)),(12,.v (o85.v)),(13,.v (iQ (F6 (s.take g.1)).length)),(14,.v (iQ g.1))]) (λg=>[.hp (Hp.whole w),.hp g.2.h])
     (λg=>g.1<=s.length/\(g.2.a=o85.a/\g.2.n=o85.n/\g.2.c=o85.c)/\w5 XZ 5 1 g.2 (qL s g.1)) (λg=>s.length - g.1) (0,o85) ⟨j0 _,⟨rfl,rfl,rfl⟩,by dsimp only;rw[EP];exact ho85⟩ (y6.mk (λ_ _ h=>h) rfl rfl) ?_
    rintro⟨i,⟨oa,on,oc,oh⟩⟩ ⟨hi,⟨ha,hnn,hcc⟩,ho⟩;dsimp only at ha hnn hcc hi ho ⊢;subst ha hnn hcc;refine d9 (λh8=>?_) λh8=>?_
    ·have hi1:i < s.length:=om
     obtain⟨c,hc⟩ :∃c,c=s.getD i 0:=⟨_,rfl⟩
     have hbl:=gY s i;have hlt:(F6 (s.take i)).length+(bB c).length<=(F6 s).length:=by have h:=dR s (i+1);rw[gV hi1,d6,<-hc] at h;exact h
     have hlen1:(F6 (s.take (i+1))).length=(F6 (s.take i)).length+(bB c).length:=by rw[gV hi1,d6,<-hc]
     refine aB cQ rfl rfl i rfl hi1 ?_;rw[<-hc];refine GS cQ (T:=349) rfl rfl rfl c.toNat rfl (vU c) ?_;by_cases hsp:c=34\/c=92
     ·obtain⟨b2,c2,hcl,hc0,hc1⟩:=hR.hit hsp;have he2:bB c = [92,c]:=by unfold bB;rw[if_pos hsp]
      rw[he2] at hlt hlen1;have hlt:(F6 (s.take i)).length+2<=(F6 s).length:=hlt;have hlen1:(F6 (s.take (i+1))).length=(F6 (s.take i)).length+2:=hlen1;refine lQ 0 hcl ?_;refine vJ rfl ?_;obtain⟨b,hb⟩:=ho.addr (by rw[gY];omega);have hb:o85.a=some ⟨b,0,none⟩:=hb;have hcap:o85.n<=o85.c:=ho.2.cap;have hput:=BS hi1;rw[<-hc,he2] at hput;refine u6.by_order0 cQ (.take 0 <| .take 1 <| .take 2 <| .take 3 <| .take 4 <| .take 5 <| .take 6 <| .take 7 <| .take 8 <| .take 9 <| .run 10 <| .take 11 <| .take 12 <| .done) kr (J5 _ 1) ?_;refine Og cQ (e:=5) (a:=o85.a) (n:=o85.n) (c:=o85.c) rfl hb (F6 (s.take i)).length rfl om hcap ?_;refine GS cQ (T:=349) rfl rfl rfl c.toNat rfl (vU c) ?_;refine lQ 0 hcl ?_;refine Kq (f:=XZ) cQ (e:=5) rfl rfl (λ_=>rfl) (i:=1) (o:=⟨o85.a,o85.n,o85.c,oh⟩) rfl hb (M:=[92,c]) ho (by rw[gY];exact hlt) sQ rfl (λw' hm j v hj=>?_) rfl λo2 f1 f2 f3 ho2=>?_
      ·have h0:(Hp.whole w).cell? ((⟨b2,0,none⟩:Addr).add j)=some v:=by
        match j,hj with
        | 0,hj=>cases hj;exact hc0
        | 1,hj=>cases hj;exact hc1
       exact (hm 0 _ rfl:(Hp.whole w).In w').cell h0
      refine⟨sK,?_⟩;refine nw (by have:([92,c]:d8).length=2:=rfl;omega) (by have:([92,c]:d8).length=2:=rfl;omega) ?_;refine nwo ?_;have e13:(((F6 (s.take (i+1))).length:Nat):Int)=((F6 (s.take i)).length:Nat)+(([92,c]:d8).length:Nat):=by rw[hlen1];rfl
      exact⟨(i+1,o2),⟨hi1,⟨f1,f2,f3⟩,by dsimp only;rw[<-hput];exact ho2⟩,by dsimp only;omega,y6.mk (λ_ _ h=>h) (by dsimp only;rw[e13];rfl) rfl⟩
     ·have hcl:=hR.miss hsp;have he1:bB c = [c]:=by unfold bB;rw[if_neg hsp]
      rw[he1] at hlt hlen1;have hlt:(F6 (s.take i)).length+1<=(F6 s).length:=hlt;have hlen1:(F6 (s.take (i+1))).length=(F6 (s.take i)).length+1:=hlen1;have hset:=LF hi1 (by rw[<-hc];exact hsp);rw[<-hc] at hset;refine lQ 0 hcl ?_;refine vJ rfl ?_;have hkl:(F6 (s.take i)).length < (qL s i).length:=om
      refine aW (f:=XZ) cQ (e:=5) rfl rfl ho (F6 (s.take i)).length rfl hkl λb9 hb9=>?_;refine mG (g:=λx:UInt8=>.int .u8 x.toNat) (λ_=>rfl) cQ (i:=1) rfl hb9 ho hkl rfl rfl c rfl rfl rfl λo2 f1 f2 f3 ho2=>?_;(iterate 2 refine nwo ?_);have e13:(((F6 (s.take (i+1))).length:Nat):Int)=((F6 (s.take i)).length:Nat)+1:=by rw[hlen1];rfl
      exact⟨(i+1,o2),⟨hi1,⟨f1,f2,f3⟩,by dsimp only;rw[<-hset];exact ho2⟩,by dsimp only;omega,y6.mk (λ_ _ h=>h) (by dsimp only;rw[e13];rfl) rfl⟩
    ·have hi2:i=s.length:=om
     subst hi2;rw[LG] at ho;refine Ew (i:=1) (o:=⟨o85.a,o85.n,o85.c,oh⟩) rfl ho om ?_;exact⟨[],⟨rfl,rfl⟩,pk [0]⟩
end Go.Proofs.YtpjhmeicbjkcdaaGreatDoor
namespace Go.Proofs.YtpjhmeicbjkcdaaGreatDoor
open Go Go.RowKit Go.Dw
def zK (n:Nat):Bool:=decide (n < 32) || decide (126 < n)
def CH (c:UInt8):Bool:=zK c.toNat
theorem QC (s:d8) :∀f pos,s.length<=f+pos->(0<=Lib.idxFuncFrom zK true (bs s) f pos↔(s.drop pos).any CH=true)
 | 0,pos,h=>by
  rw[J2 om];show (0:Int)<=-1↔false=true
  exact⟨λg=>by omega,λg=>by cases g⟩
 | f+1,pos,h=>by
  have hz:=C8 s;unfold Lib.idxFuncFrom;by_cases hp:pos < s.length
  ·have hp':pos < (bs s).size:=by rw[hz];exact hp
   have hg:(bs s)[pos]'hp'=s[pos]:=rfl;rw[if_pos hp',q6 hp,UX];by_cases ha:s[pos].toNat < 128
   ·rw[decode_ascii (bs s) pos hp' (by rw[hg];exact ha),hg];dsimp only;by_cases hb:zK s[pos].toNat=true
    ·rw[if_pos hb,show CH s[pos]=true from hb];exact⟨λ_=>rfl,λ_=>by omega⟩
    ·rw[if_neg hb,show CH s[pos]=false from by unfold CH;simpa using hb,UZ];exact QC s f (pos+1) om
   ·obtain⟨h1,_⟩:=decode_high (bs s) pos hp' (by rw[hg];omega);have h2:zK (Utf8.decode (bs s) pos).1=true:=by unfold zK;rw[decide_eq_true (show 126 < (Utf8.decode (bs s) pos).1 by omega),lX]
    obtain⟨c,hc⟩ :∃c:UInt8,c=s[pos]'hp:=⟨_,rfl⟩
    have hc2 : ¬ c.toNat < 128:=by rw[hc];exact ha
    have h3:CH c=true:=by unfold CH zK;rw[decide_eq_true (show 126 < c.toNat by omega),lX]
    rw[if_pos h2,<-hc,h3];exact⟨λ_=>rfl,λ_=>by omega⟩
  ·rw[if_neg (by rw[hz];exact hp),J2 om];exact⟨λg=>by omega,λg=>by cases g⟩
theorem GX (s:d8):decide (0<=Lib.idxFunc zK true (bs s))=s.any CH:=by
 have:=QC s (bs s).size 0 (by rw[C8];omega);rw[G6] at this;unfold Lib.idxFunc;rw[T7,decide_eq_true_eq];exact this
end Go.Proofs.YtpjhmeicbjkcdaaGreatDoor
namespace Go.Proofs
open Go.Shelf
def Tryz.lCf_ren:Go.Shelf.Ren:=⟨λ| 17=>108 | 15=>178 | 20=>209 | n=>n,λ| 9=>9 | 23=>186 | 4=>4 | 3=>3 | 0=>0 | 21=>21 | n=>n,λ| n=>n⟩
theorem Tryz.lCf:Go.Proofs.LaysGw.n17 Tryz.prog Tryz.lCf_ren:={
 mixed:=kr
 f15:=Tryz.func178.trans (congrArg some kr)
 f17:=Tryz.func108.trans (congrArg some kr)
 f20:=Tryz.func209.trans (congrArg some kr)
 t0:=Tryz.underlying0
 a0:=Tryz.isAgg0
 z0:=Tryz.sizeOf0
 v0:=Tryz.zeroValue0
 i0:=kr
 t3:=Tryz.underlying3
 a3:=Tryz.isAgg3
 z3:=Tryz.sizeOf3
 v3:=Tryz.zeroValue3
 i3:=kr
 t4:=Tryz.underlying4
 a4:=Tryz.isAgg4
 z4:=Tryz.sizeOf4
 v4:=Tryz.zeroValue4
 i4:=kr
 t9:=Tryz.underlying9
 a9:=Tryz.isAgg9
 z9:=Tryz.sizeOf9
 v9:=Tryz.zeroValue9
 i9:=kr
 t21:=Tryz.underlying21
 a21:=Tryz.isAgg21
 z21:=Tryz.sizeOf21
 v21:=Tryz.zeroValue21
 i21:=kr
 t23:=Tryz.underlying186
 a23:=Tryz.isAgg186
 z23:=Tryz.sizeOf186
 v23:=Tryz.zeroValue186
 i23:=by kernel_rfl }
end Go.Proofs
namespace Go.Proofs.YtpjhmeicbjkcdaaGreatDoor
open Go Go.Shelf Go.RowKit Go.Dw Go.Lib
theorem Fy (w:World):PredAt Tryz.prog 184 #[] encR zK w:=λW r _=>by
 unfold FnGives;by_cases h1:r < 32 <;> by_cases h2:126 < r
 all_goals
  have z1:(r:Int) < 32↔r < 32:=om
  have z2:(r:Int) > 126↔126 < r:=om
  go_enter Tryz.func184,Tryz.ntmps184
  go_wp2
  all_goals first | (exfalso;omega) | (go_ret;exact⟨by simp[zK,h1,h2],0,rfl⟩)
theorem vQ (s:d8) (w:World):j2 Tryz.prog 108 #[sv s,.func (.func 184) #[] #[]] w (v8 w (.bool (s.any CH))):=by
 have hcon:=Any.strings_ContainsFunc_grows Tryz.lCf 184 #[] (enters_of Tryz.func184 kr rfl) zK (bs s) w (Fy w).runes.grows;change Calls Tryz.prog 108 _ _ _ at hcon
 refine⟨enters_of (args:=#[sv s,.func (.func 184) #[] #[]]) Tryz.func108 kr rfl,hcon.mono ?_⟩;rintro e w' ⟨rfl,hb⟩;rw[GX];exact v8.ofBelow rfl hb
end Go.Proofs.YtpjhmeicbjkcdaaGreatDoor
namespace Go.Proofs.YtpjhmeicbjkcdaaGreatDoor
open Go Go.RowKit Go.Dw
theorem Ih {P:Program} {s:List Ch} {v r:Value} {m:String} {args:List Value} {q:TV->List Ch->Prop} {f:Nat} {fa:Array Value} (hm :∀w,(callMethod v m args.toArray).run P w=.ok (.enter f fa) w) (hc :∀w,iE s w->j2 P f fa w (v8 w r)) (k:q (.v r) s):Fq P s v m args q:=by
 refine⟨λw0 w hok=>⟨f,fa,hm w,(hc w hok.mem).2.mono λe w' he=>?_⟩⟩;obtain⟨v',cs,rfl,h1,rfl,rfl⟩:=he;have h2:=hok.call h1;rw[k8] at h2;exact⟨_,s,rfl,h2,I5.refl s,k⟩
theorem wA {a:Option Addr} {n c:Nat} (w:World) (hL:Sl (E0 fS) 1 (Hp.whole w) a n c Jq) :
  j2 Tryz.prog 185 #[.slice a n c] w (fQ w λv cs=>∃b o,v=pQ b/\cs = [.box b [.int .u32 0,.int .i32 0,.int .u32 0,.nilIface,o.v] 279,.hp o.h]/\w5 fS 9 1 o Jq):=by
 have hn:=hL.len;have hn:n=4:=hn;subst hn;refine enterZ (cx 12) [.slice a 4 c] [.tmp 2] Tryz.func185 ?_;refine gF 4 2 0 rfl rfl dc dc ?_;refine Lc cQ (e:=9) rfl (λ_=>rfl) (λ_=>rfl) (k:=0) rfl hL rfl dc λo' ho'=>?_;intro b;exact⟨[.box b _ _,.hp o'.h],⟨b,o',rfl,rfl,ho'⟩,pk [0,2,1]⟩
set_option maxRecDepth 100000 in
theorem YU {h0:Hp} {b1 T1:Nat} {cs1:List Value} {b:Nat} {o:Dw.Os} {s:d8} (hs:s.length < 1000000) (ho:w5 fS 9 1 o Jq) {q:TV->List Ch->Prop} (hq :∀x r,q (.v (sv (F6 s))) (.hp h0::.box b1 cs1 T1::.box b [.int .u32 1,.int .i32 0,.int .u32 0,x,zl] 279::r)) :
  P4 Tryz.prog [.hp h0,.box b1 cs1 T1,.box b [.int .u32 0,.int .i32 0,.int .u32 0,.nilIface,o.v] 279,.hp o.h] 186 [pQ b,sv s] q:=by
 refine enterFZ (cx 17) [pQ b,sv s] [.tmp 4] Tryz.func186 ?_;refine Ii (i:=2) rfl ?_;refine enterFZ (cx 10) [pQ b] [] Tryz.func218 ?_;refine call (λw' hm=>NZ w' (pU (i:=2) (j:=4) rfl rfl hm) ((w5.sl (f:=fS) (sz:=1) (λ_=>rfl) dc ho).mono (j7 _) (hm 3 _ rfl))) ?_;rintro _ _ ⟨bq,g,rfl,rfl,hI⟩;refine iW cQ (i:=2) (j:=3) rfl rfl rfl sQ rfl rfl ?_;refine iW cQ (i:=2) (j:=4) rfl rfl rfl sQ rfl rfl ?_;refine⟨⟨rfl,rfl,trivial⟩,rfl,_,rfl,?_⟩;refine lR 2 3 ?_;obtain⟨h34,h92,htr⟩:=hI;refine Ih (f:=368) (fa:=#[pQ bq,sv s]) (λ_=>by kernel_rfl) (λw' hm=>yB (g:=g) s hs w' ⟨λm v hv=>?_,h34.mono (hm 4 _ rfl),h92.mono (hm 4 _ rfl),(w5.sl (f:=fS) (sz:=1) (λ_=>rfl) dc htr).mono (j7 _) (hm 6 _ rfl)⟩) ?_
 ·rw[w7];exact pU (i:=5) rfl hv hm
 exact⟨⟨rfl,rfl,trivial⟩,hq _ _⟩
def MU (s:d8):d8×Int:=if 4096 < s.length then ([],5) else if s.any CH=true then ([],14) else (Q8 s,0)
set_option maxRecDepth 100000 in
theorem OH (s:d8) (hs:s.length < 1000000) (w:World):j2 Tryz.prog 131 #[sv s] w (v8 w (.tuple #[sv (MU s).1,iQ (MU s).2])):=by
 have hz:=C8 s;unfold MU;refine enterZ (cx 15) [sv s] [.tmp 2,.tmp 3] Tryz.func131 ?_;refine d9 (λh1=>?_) λh1=>?_
 ·rw[if_pos om];exact⟨[],⟨rfl,rfl⟩,λw' h=>h⟩
 rw[if_neg om];refine k7 _ (λw' hm=>vQ s w') ?_;refine v7 (λh2=>?_) λh2=>?_
 ·rw[if_pos h2];exact⟨[],⟨rfl,rfl⟩,λw' h=>h⟩
 rw[if_neg (by rw[h2];decide)];have hel:=QM s;intro b9;refine call (λw' hm=>wA w' (Sl.box (f:=fS) (λ_=>rfl) dc (hm 1 _ rfl) Jq rfl rfl dc)) ?_;rintro _ _ ⟨b,o,rfl,rfl,ho⟩;refine YU hs ho λx r=>?_;refine gG (ty:=9) (a:=[34]) (by simp only[d7,i6];omega) ?_;refine gG (ty:=9) (b:=[34]) (by simp only[d7,i6,d6];omega) ?_;exact⟨[],⟨rfl,rfl⟩,pk [0]⟩
end Go.Proofs.YtpjhmeicbjkcdaaGreatDoor
namespace Go.Proofs.YtpjhmeicbjkcdaaGreatDoor
open Go
def zT (z:Int):d8:=if z < 0 then 45::Lib.decDigits z.natAbs else Lib.decDigits z.natAbs
def yY (s:d8):Bool:=decide (s≠[]) && (decide (s.length<=40) && (J4 (s.getD 0 0) && s.all G5))
def P0 (s:d8):d8:=if yY s=true then s else (MU s).1
def T5:List d8->d8
 | []=>[]
 | [x]=>x
 | x::y::r=>x++44::32::T5 (y::r)
def bN (l:List Int):d8:=40::(T5 (l.map zT)++[41])
def tA (nm:Int->d8) (t:OF):d8:=(if t.2.getD 0 0=45 then [32,45,32]++t.2.drop 1 else [32,43,32]++t.2)++([32,42,32]++nm t.1)
def fD (nm:Int->d8) (f:uZ):d8:=91::(f.1++(f.2.flatMap (tA nm)++[93]))
def jQ (op:Int):d8:=if op=1 then [97,100,100] else if op=2 then [115,99,97,108,101] else if op=3 then [109,105,110] else if op=4 then [109,97,120] else if op=5 then [97,98,115] else []
def H7 (nm:Int->d8):Nat->Ex->d8
 | 0,_=>[]
 | d+1,.mk op f fac args=>if op=0 then fD nm f else jQ op++((if op=2 then 32::(fac++[32]) else [])++(40::(T5 (args.map (H7 nm d))++[41])))
def H3 (dims:List O7) (i:Int):d8:=P0 (dims.getD i.toNat ([],0,0,0)).1
def mZ (v:V3):d8:=32::bN [v.1,v.2.1,v.2.2]
def lM (c:List V3):d8:=[32,32,99,101,108,108]++(c.flatMap mZ++[59,10])
def iZ (p:V9):d8:=[112,97,114,116,32]++(P0 p.1++([32,100,101,110,115,105,116,121,32]++(zT p.2.1++([32,123,10]++(p.2.2.flatMap lM++[125,10])))))
def jI (x:lW):d8:=[105,110,115,116,97,110,99,101,32]++(P0 x.1++([32,111,102,32]++(P0 x.2.1++([32,116,117,114,110,32]++(bN [x.2.2.1.1,x.2.2.1.2.1,x.2.2.1.2.2.1,x.2.2.1.2.2.2] ++
 ([32,115,104,105,102,116,32,40]++(x.2.2.2.1++([44,32]++(x.2.2.2.2.1++([44,32]++(x.2.2.2.2.2++[41,59,10])))))))))))
def lK (d:O7):d8:=[100,105,109,101,110,115,105,111,110,32]++(P0 d.1++([32,61,32]++(zT d.2.1++([32,91]++(zT d.2.2.1++([44,32]++(zT d.2.2.2++[93,59,10])))))))
def mP (dims:List O7) (c:kT):d8:=[99,111,110,115,116,114,97,105,110,116,32]++(P0 c.1++([58,32]++(fD (H3 dims) c.2++[32,60,61,32,48,59,10])))
def iY (dims:List O7) (r:kP):d8:=[114,101,113,117,105,114,101,32]++(P0 r.1++([58,32]++(H7 (H3 dims) 8 r.2.1 ++
 ((if r.2.2.1 = [] then [] else [32,102,114,111,109,32]++r.2.2.1)++((if r.2.2.2 = [] then [] else [32,116,111,32]++r.2.2.2)++[59,10])))))
def gH (p:kR):d8:=[112,114,111,100,117,99,116,32]++(P0 p.nm++([59,10]++(p.parts.flatMap iZ++(p.insts.flatMap jI++(p.dims.flatMap lK++(p.cons.flatMap (mP p.dims)++p.reqs.flatMap (iY p.dims)))))))
def SA (p:kR):d8×Int:=if LD p≠0 then ([],LD p) else if 65536 < (gH p).length then ([],5) else (gH p,0)
end Go.Proofs.YtpjhmeicbjkcdaaGreatDoor
namespace Go.Proofs.YtpjhmeicbjkcdaaGreatDoor
open Go Go.RowKit Go.Dw
def ZK (v:V3):List Value:=[iQ v.1,iQ v.2.1,iQ v.2.2]
def fF (x:lW):List Value:=[sv x.1,sv x.2.1,iQ x.2.2.1.1,iQ x.2.2.1.2.1,iQ x.2.2.1.2.2.1,iQ x.2.2.1.2.2.2,sv x.2.2.2.1,sv x.2.2.2.2.1,sv x.2.2.2.2.2]
def P2 (d:O7):List Value:=[sv d.1,iQ d.2.1,iQ d.2.2.1,iQ d.2.2.2]
def bO (t:OF):List Value:=[iQ t.1,sv t.2]
def Lp (x:d8):List Value:=[sv x]
abbrev GW:yV (List V3):=YF (E0 ZK) 3
def cN:yV V9:=λh p cs=>∃a n c,cs = [sv p.1,iQ p.2.1,.slice a n c]/\Sl GW 1 h a n c p.2.2
def qF:yV kT:=λh x cs=>∃a n c,cs = [sv x.1,sv x.2.1,.slice a n c]/\Sl (E0 bO) 2 h a n c x.2.2
def bE:Nat->yV Ex
 | 0=>λ_ _ _=>False
 | d+1=>λh x cs=>match x with
  | .mk op f fac args=>∃a n c a' n' c',cs = [iQ op,sv f.1,.slice a n c,sv fac,.slice a' n' c']/\Sl (E0 bO) 2 h a n c f.2/\Sl (bE d) 5 h a' n' c' args
def mK (d:Nat):yV kP:=λh r cs=>∃xs,cs=sv r.1::(xs++[sv r.2.2.1,sv r.2.2.2])/\bE d h r.2.1 xs
theorem fN:CA GW:=EH (j7 _) 3
theorem J0:CA cN:=λ_ _ _ _ hl ⟨a,n,c,h1,h2⟩=>⟨a,n,c,h1,h2.mono fN hl⟩
theorem V5:CA qF:=λ_ _ _ _ hl ⟨a,n,c,h1,h2⟩=>⟨a,n,c,h1,h2.mono (j7 _) hl⟩
theorem D6 :∀d,CA (bE d)
 | 0=>λ_ _ _ _ _ h=>h
 | d+1=>λh k x cs hl hx=>by
  obtain⟨op,f,fac,args⟩:=x;obtain⟨a,n,c,a',n',c',h1,h2,h3⟩:=hx;exact⟨a,n,c,a',n',c',h1,h2.mono (j7 _) hl,h3.mono (D6 d) hl⟩
theorem O2 (d:Nat):CA (mK d):=λ_ _ _ _ hl ⟨xs,h1,h2⟩=>⟨xs,h1,D6 d _ _ _ _ hl h2⟩
theorem Tt {α:Type} {R R':yV α} {sz:Nat} {h:Hp} {a:Option Addr} {n c:Nat} {L:List α} (hR :∀x cs,R h x cs->R' h x cs) (hs:Sl R sz h a n c L):Sl R' sz h a n c L:=
 ⟨hs.len,hs.cap,λi hi=>let ⟨b,off,cs,h1,h2,h3,h4⟩:=hs.cells i hi;⟨b,off,cs,h1,h2,hR _ _ h3,h4⟩⟩
theorem Ta :∀{d:Nat} {h:Hp} {x:Ex} {cs:List Value},bE d h x cs->bE (d+1) h x cs
 | 0,_,_,_,h=>h.elim
 | d+1,h,x,cs,hx=>by
  obtain⟨op,f,fac,args⟩:=x;obtain⟨a,n,c,a',n',c',h1,h2,h3⟩:=hx;exact⟨a,n,c,a',n',c',h1,h2,Tt (λy ys hy=>Ta hy) h3⟩
theorem To {d e:Nat} (hde:d<=e) {h:Hp} {x:Ex} {cs:List Value} (hx:bE d h x cs):bE e h x cs:=by
 induction hde with
 | refl=>exact hx
 | step _ ih=>exact Ta ih
structure vX (d:Nat) (h:Hp) (p:kR) (cs:List Value):Prop where
 ex :∃a1 n1 c1 a2 n2 c2 a3 n3 c3 a4 n4 c4 a5 n5 c5,cs = [sv p.nm,.slice a1 n1 c1,.slice a2 n2 c2,.slice a3 n3 c3,.slice a4 n4 c4,.slice a5 n5 c5]/\
  Sl cN 3 h a1 n1 c1 p.parts/\Sl (E0 fF) 9 h a2 n2 c2 p.insts/\Sl (E0 P2) 4 h a3 n3 c3 p.dims/\Sl qF 3 h a4 n4 c4 p.cons/\Sl (mK d) 8 h a5 n5 c5 p.reqs
theorem vX.mono {d:Nat} {h k:Hp} {p:kR} {cs:List Value} (hl:h.le k) (hp:vX d h p cs):vX d k p cs:=by
 obtain⟨a1,n1,c1,a2,n2,c2,a3,n3,c3,a4,n4,c4,a5,n5,c5,e,h1,h2,h3,h4,h5⟩:=hp.ex;exact⟨a1,n1,c1,a2,n2,c2,a3,n3,c3,a4,n4,c4,a5,n5,c5,e,h1.mono J0 hl,h2.mono (j7 _) hl,h3.mono (j7 _) hl,h4.mono V5 hl,h5.mono (O2 d) hl⟩
end Go.Proofs.YtpjhmeicbjkcdaaGreatDoor
namespace Go.Proofs.YtpjhmeicbjkcdaaGreatDoor
open Go
theorem DO {l:d8} (h:R4 l=0):(M4 l).all k9=true/\0 < (M4 l).length/\((M4 l).getD 0 0=48->(M4 l).length=1/\bH l=false):=by
 unfold R4 at h;split at h
 ·cases h
 ·split at h
  ·cases h
  ·rename_i h2
   split at h
   ·cases h
   ·rename_i h3
    have hne : ¬ M4 l = []:=λe=>h2 (.inl e);refine⟨?_,D1.2 hne,λh48=>⟨?_,?_⟩⟩
    ·rw[s7];intro c hc;cases hd:k9 c with
     | true=>rfl
     | false=>exact absurd (.inr (E5.2 ⟨c,hc,by rw[hd];rfl⟩)) h2
    ·have:=D1.2 hne;refine j3 λg=>h3 ⟨h48,.inl om⟩
    ·cases hb:bH l with
     | false=>rfl
     | true=>exact absurd ⟨h48,.inr hb⟩ h3
end Go.Proofs.YtpjhmeicbjkcdaaGreatDoor
namespace Go.Proofs.YtpjhmeicbjkcdaaGreatDoor
open Go Go.Shelf Go.RowKit Go.Dw Go.Lib
def GK (n:Nat):Bool:=decide (n < 33) || decide (126 < n)
theorem QE (s:d8) :∀f pos,s.length<=f+pos->(0<=Lib.idxFuncFrom GK true (bs s) f pos↔(s.drop pos).any yC=true)
 | 0,pos,h=>by
  rw[J2 om];show (0:Int)<=-1↔false=true
  exact⟨λg=>by omega,λg=>by cases g⟩
 | f+1,pos,h=>by
  have hz:=C8 s;unfold Lib.idxFuncFrom;by_cases hp:pos < s.length
  ·have hp':pos < (bs s).size:=by rw[hz];exact hp
   have hg:(bs s)[pos]'hp'=s[pos]:=rfl;rw[if_pos hp',q6 hp,UX];by_cases ha:s[pos].toNat < 128
   ·rw[decode_ascii (bs s) pos hp' (by rw[hg];exact ha),hg];dsimp only;by_cases hb:GK s[pos].toNat=true
    ·rw[if_pos hb,show yC s[pos]=true from hb];exact⟨λ_=>rfl,λ_=>by omega⟩
    ·rw[if_neg hb,show yC s[pos]=false from by unfold yC;unfold GK at hb;simpa using hb,UZ];exact QE s f (pos+1) om
   ·obtain⟨h1,_⟩:=decode_high (bs s) pos hp' (by rw[hg];omega);have h2:GK (Utf8.decode (bs s) pos).1=true:=by unfold GK;rw[decide_eq_true (show 126 < (Utf8.decode (bs s) pos).1 by omega),lX]
    obtain⟨c,hc⟩ :∃c:UInt8,c=s[pos]'hp:=⟨_,rfl⟩
    have hc2 : ¬ c.toNat < 128:=by rw[hc];exact ha
    have h3:yC c=true:=by unfold yC;rw[decide_eq_true (show 126 < c.toNat by omega),lX]
    rw[if_pos h2,<-hc,h3];exact⟨λ_=>rfl,λ_=>by omega⟩
  ·rw[if_neg (by rw[hz];exact hp),J2 om];exact⟨λg=>by omega,λg=>by cases g⟩
theorem GY (s:d8):decide (0<=Lib.idxFunc GK true (bs s))=s.any yC:=by
 have:=QE s (bs s).size 0 (by rw[C8];omega);rw[G6] at this;unfold Lib.idxFunc;rw[T7,decide_eq_true_eq];exact this
theorem Hi (w:World):PredAt Tryz.prog 109 #[] encR GK w:=λW r _=>by
 unfold FnGives;by_cases h1:r < 33 <;> by_cases h2:126 < r
 all_goals
  have z1:(r:Int) < 33↔r < 33:=om
  have z2:(r:Int) > 126↔126 < r:=om
  go_enter Tryz.func109,Tryz.ntmps109
  go_wp2
  all_goals first | (exfalso;omega) | (go_ret;exact⟨by simp[GK,h1,h2],0,rfl⟩)
theorem vR (s:d8) (w:World):j2 Tryz.prog 108 #[sv s,.func (.func 109) #[] #[]] w (v8 w (.bool (s.any yC))):=by
 have hcon:=Any.strings_ContainsFunc_grows Tryz.lCf 109 #[] (enters_of Tryz.func109 kr rfl) GK (bs s) w (Hi w).runes.grows;change Calls Tryz.prog 108 _ _ _ at hcon
 refine⟨enters_of (args:=#[sv s,.func (.func 109) #[] #[]]) Tryz.func108 kr rfl,hcon.mono ?_⟩;rintro e w' ⟨rfl,hb⟩;rw[GY];exact v8.ofBelow rfl hb
theorem dP (s:d8) (w:World):j2 Tryz.prog 36 #[sv s] w (v8 w (.bool (D8 s))):=by
 have hz:=C8 s;unfold D8;refine enterZ (cx 15) [sv s] [.tmp 2] Tryz.func36 ?_;refine pZ ?_;refine d9 (λh1=>?_) λh1=>?_
 ·rw[decide_eq_true h1,D9];refine d9 (λh2=>?_) λh2=>?_
  ·rw[decide_eq_true (show s.length<=40 by omega),D9];refine k7 _ (λw' hm=>vR s w') ?_;exact⟨[],⟨rfl,rfl⟩,pk [0]⟩
  ·rw[decide_eq_false (show ¬ s.length<=40 by omega),eG];exact⟨[],⟨rfl,rfl⟩,pk [0]⟩
 ·rw[decide_eq_false h1,eG];exact⟨[],⟨rfl,rfl⟩,pk [0]⟩
theorem cL (s:d8) (hs:s.length < 1000000) (w:World):j2 Tryz.prog 118 #[sv s] w (v8 w (iQ (H5 s))):=by
 refine enterZ (cx 11) [sv s] [.tmp 2] Tryz.func118 ?_;refine call (λw' hm=>U9 s hs w') ?_;rintro _ _ ⟨g,rfl,n1,a1,k1,c1,a2,k2,c2,x,y,rfl,h⟩;intro b3;exact⟨[],⟨rfl,rfl⟩,pk [0]⟩
theorem HU (n:Int) (most:Nat) (hm:most < 4611686018427387904) (w:World):j2 Tryz.prog 113 #[iQ n,iQ most] w (v8 w (.bool (!aF n most))):=by
 unfold aF;refine enterZ (cx 14) [iQ n,iQ most] [.tmp 4] Tryz.func113 ?_;refine nwo ?_;refine d9 (λh1=>?_) λh1=>?_
 ·rw[decide_eq_false (show ¬ n < -(most:Int) by omega),UZ];have e:(!decide (n > (most:Int)))=decide (n<=(most:Int)):=by rw[T7];simp
  rw[e];exact⟨[],⟨rfl,rfl⟩,pk [0]⟩
 ·rw[decide_eq_true (show n < -(most:Int) by omega),Bool.true_or];exact⟨[],⟨rfl,rfl⟩,pk [0]⟩
end Go.Proofs.YtpjhmeicbjkcdaaGreatDoor
namespace Go.Proofs.YtpjhmeicbjkcdaaGreatDoor
open Go Go.RowKit Go.Dw
theorem gM {K:Nat} {p:Value} {nm:Nat->d8} (i:Nat) (hi:i < 1000000) (w:World) (h :∀k,k<=i->∀w',(Hp.whole w).In w'->j2 Tryz.prog K #[iQ k,p] w' (v8 w' (sv (nm k)))) :
  j2 Tryz.prog 50 #[.func (.func K) #[] #[p],iQ i] w (v8 w (iQ (xT ((x8 i).map nm) (nm i)))):=by
 unfold xT;refine enterZ (cx 23) [.func (.func K) #[] #[p],iQ i] [.tmp 4] Tryz.func50 ?_;refine k7 _ (λw' hm=>h i (j8 _) w' (hm 0 _ rfl)) ?_;refine k7 _ (λw' hm=>dP (nm i) w') ?_;refine v7 (λh1=>?_) λh1=>?_
 ·have h1:D8 (nm i)=false:=by simpa using h1
  rw[if_pos h1];exact⟨[],⟨rfl,rfl⟩,pk [0]⟩
 have h1:D8 (nm i)=true:=by simpa using h1
 rw[if_neg (by rw[h1];decide)];refine z6.mk Nat (λk=>[(0,.v (.func (.func K) #[] #[p])),(1,.v (iQ i)),(11,.v (iQ i)),(12,.v (iQ k))]) (λ_=>[.hp (Hp.whole w)])
  (λk=>k<=i/\∀j,j < k->nm j≠nm i) (λk=>i - k) 0 ⟨j0 _,λj hj=>absurd hj (M1 _)⟩ (y6.mk (λ_ _ h=>h) rfl rfl) ?_
 rintro k ⟨hk,hn⟩;dsimp only at hk hn ⊢;refine d9 (λh2=>?_) λh2=>?_
 ·have hk1:k < i:=om
  refine k7 _ (λw' hm=>h k om w' (hm 0 _ rfl)) ?_;refine k7 _ (λw' hm=>h i (j8 _) w' (hm 0 _ rfl)) ?_;refine dL ?_;refine d9 (λh3=>?_) λh3=>?_
  ·rw[if_pos (y7.2 ⟨k,S6.2 hk1,h3⟩)];exact⟨[],⟨rfl,rfl⟩,pk [0]⟩
  ·refine nwo ?_;exact⟨k+1,⟨hk1,λj hj=>(M9 j k).elim (hn j) (λg=>by rw[show j=k by omega];exact h3)⟩,by (try dsimp only);omega,y6.mk (λ_ _ h=>h) rfl rfl⟩
 ·have hk2:k=i:=om
  subst hk2;rw[if_neg (λg=>by
   obtain⟨j,hj,e⟩:=y7.1 g;exact hn j (S6.1 hj) e)]
  exact⟨[],⟨rfl,rfl⟩,pk [0]⟩
theorem kH {K:Nat} {p:Value} {f:Nat->Int} (count most:Nat) (hc:count < 1000000) (hm:most < 1000000) (w:World) (h :∀k,k < count->∀w',(Hp.whole w).In w'->j2 Tryz.prog K #[iQ k,p] w' (v8 w' (iQ (f k)))) :
  j2 Tryz.prog 39 #[iQ count,iQ most,.func (.func K) #[] #[p]] w (v8 w (iQ (if most < count then 6 else qE f count))):=by
 refine enterZ (cx 23) [iQ count,iQ most,.func (.func K) #[] #[p]] [.tmp 6] Tryz.func39 ?_;refine d9 (λh1=>?_) λh1=>?_
 ·rw[if_pos om];exact⟨[],⟨rfl,rfl⟩,pk [0]⟩
 rw[if_neg om];refine z6.mk Nat (λk=>[(2,.v (.func (.func K) #[] #[p])),(12,.v (iQ count)),(13,.v (iQ k))]) (λ_=>[.hp (Hp.whole w)])
  (λk=>k<=count/\∀j,j < k->f j=0) (λk=>count - k) 0 ⟨j0 _,λj hj=>absurd hj (M1 _)⟩ (y6.mk (λ_ _ h=>h) rfl rfl) ?_
 rintro k ⟨hk,hn⟩;dsimp only at hk hn ⊢;refine d9 (λh2=>?_) λh2=>?_
 ·have hk1:k < count:=om
  refine k7 _ (λw' hm=>h k hk1 w' (hm 0 _ rfl)) ?_;refine d9 (λh3=>?_) λh3=>?_
  ·rw[yP hn h3 hk1];exact⟨[],⟨rfl,rfl⟩,pk [0]⟩
  ·have h3:f k=0:=j3 h3;refine nwo ?_;exact⟨k+1,⟨hk1,λj hj=>(M9 j k).elim (hn j) (λg=>by rw[show j=k by omega];exact h3)⟩,by (try dsimp only);omega,y6.mk (λ_ _ h=>h) rfl rfl⟩
 ·have hk2:k=count:=om
  subst hk2;rw[Y4.2 hn];exact⟨[],⟨rfl,rfl⟩,pk [0]⟩
def Ol (v:Value):List Value:=[v]
theorem KM {K0 K1 K2 K3 K4:Nat} {p0 p1 p2 p3 p4:Value} {e0 e1 e2 e3 e4:Int} {a:Option Addr} {c:Nat} (w:World)
  (hL:Sl (E0 Ol) 1 (Hp.whole w) a 5 c [.func (.func K0) #[] #[p0],.func (.func K1) #[] #[p1],.func (.func K2) #[] #[p2],.func (.func K3) #[] #[p3],.func (.func K4) #[] #[p4]])
  (h0 :∀w',(Hp.whole w).In w'->j2 Tryz.prog K0 #[p0] w' (v8 w' (iQ e0))) (h1 :∀w',(Hp.whole w).In w'->j2 Tryz.prog K1 #[p1] w' (v8 w' (iQ e1))) (h2 :∀w',(Hp.whole w).In w'->j2 Tryz.prog K2 #[p2] w' (v8 w' (iQ e2)))
  (h3 :∀w',(Hp.whole w).In w'->j2 Tryz.prog K3 #[p3] w' (v8 w' (iQ e3))) (h4 :∀w',(Hp.whole w).In w'->j2 Tryz.prog K4 #[p4] w' (v8 w' (iQ e4))) :
  j2 Tryz.prog 37 #[.slice a 5 c] w (v8 w (iQ (qB e0 (qB e1 (qB e2 (qB e3 e4)))))):=by
 refine enterZ (cx 18) [.slice a 5 c] [.tmp 2] Tryz.func37 ?_;refine z6.mk Nat (λk=>[(6,.v (.slice a 5 c)),(7,.v (iQ 5)),(8,.v (iQ k))]) (λ_=>[.hp (Hp.whole w)])
  (λk=>k<=5/\(0 < k->e0=0)/\(1 < k->e1=0)/\(2 < k->e2=0)/\(3 < k->e3=0)/\(4 < k->e4=0)) (λk=>5 - k) 0 ⟨dc,om,om,om,om,om⟩ (y6.mk (λ_ _ h=>h) rfl rfl) ?_
 have hl :∀j,j < 5->j < ([.func (.func K0) #[] #[p0],.func (.func K1) #[] #[p1],.func (.func K2) #[] #[p2],.func (.func K3) #[] #[p3],.func (.func K4) #[] #[p4]]:List Value).length:=λj h=>h;rintro k ⟨hk,g0,g1,g2,g3,g4⟩;match k,hk with
 | 0,_=>
  refine R2 cQ (e:=106) rfl hL 0 rfl (hl 0 dc) λb o cs hcs hR hcell=>?_;subst hR;refine lQ 0 (hcell 0 _ rfl) ?_;refine k7 _ (λw' hm=>h0 w' (hm 0 _ rfl)) ?_;refine d9 (λq1=>?_) λq1=>?_
  ·rw[iL q1];exact⟨[],⟨rfl,rfl⟩,pk [0]⟩
  ·have q1:e0=0:=j3 q1;refine nw dc dc ?_;exact⟨1,⟨dc,λ_=>q1,om,om,om,om⟩,by (try dsimp only);omega,y6.mk (λ_ _ h=>h) rfl rfl⟩
 | 1,_=>
  have z0:=g0 dc;subst z0;refine R2 cQ (e:=106) rfl hL 1 rfl (hl 1 dc) λb o cs hcs hR hcell=>?_;subst hR;refine lQ 0 (hcell 0 _ rfl) ?_;refine k7 _ (λw' hm=>h1 w' (hm 0 _ rfl)) ?_;refine d9 (λq1=>?_) λq1=>?_
  ·rw[O5,iL q1];exact⟨[],⟨rfl,rfl⟩,pk [0]⟩
  ·have q1:e1=0:=j3 q1;refine nw dc dc ?_;exact⟨2,⟨dc,λ_=>rfl,λ_=>q1,om,om,om⟩,by (try dsimp only);omega,y6.mk (λ_ _ h=>h) rfl rfl⟩
 | 2,_=>
  have z0:=g0 dc;subst z0;have z1:=g1 dc;subst z1;refine R2 cQ (e:=106) rfl hL 2 rfl (hl 2 dc) λb o cs hcs hR hcell=>?_;subst hR;refine lQ 0 (hcell 0 _ rfl) ?_;refine k7 _ (λw' hm=>h2 w' (hm 0 _ rfl)) ?_;refine d9 (λq1=>?_) λq1=>?_
  ·rw[O5,O5,iL q1];exact⟨[],⟨rfl,rfl⟩,pk [0]⟩
  ·have q1:e2=0:=j3 q1;refine nw dc dc ?_;exact⟨3,⟨dc,λ_=>rfl,λ_=>rfl,λ_=>q1,om,om⟩,by (try dsimp only);omega,y6.mk (λ_ _ h=>h) rfl rfl⟩
 | 3,_=>
  have z0:=g0 dc;subst z0;have z1:=g1 dc;subst z1;have z2:=g2 dc;subst z2;refine R2 cQ (e:=106) rfl hL 3 rfl (hl 3 dc) λb o cs hcs hR hcell=>?_;subst hR;refine lQ 0 (hcell 0 _ rfl) ?_;refine k7 _ (λw' hm=>h3 w' (hm 0 _ rfl)) ?_;refine d9 (λq1=>?_) λq1=>?_
  ·rw[O5,O5,O5,iL q1];exact⟨[],⟨rfl,rfl⟩,pk [0]⟩
  ·have q1:e3=0:=j3 q1;refine nw dc dc ?_;exact⟨4,⟨dc,λ_=>rfl,λ_=>rfl,λ_=>rfl,λ_=>q1,om⟩,by (try dsimp only);omega,y6.mk (λ_ _ h=>h) rfl rfl⟩
 | 4,_=>
  have z0:=g0 dc;subst z0;have z1:=g1 dc;subst z1;have z2:=g2 dc;subst z2;have z3:=g3 dc;subst z3;refine R2 cQ (e:=106) rfl hL 4 rfl (hl 4 dc) λb o cs hcs hR hcell=>?_;subst hR;refine lQ 0 (hcell 0 _ rfl) ?_;refine k7 _ (λw' hm=>h4 w' (hm 0 _ rfl)) ?_;refine d9 (λq1=>?_) λq1=>?_
  ·rw[O5,O5,O5,O5];exact⟨[],⟨rfl,rfl⟩,pk [0]⟩
  ·have q1:e4=0:=j3 q1;refine nw dc dc ?_;exact⟨5,⟨dc,λ_=>rfl,λ_=>rfl,λ_=>rfl,λ_=>rfl,λ_=>q1⟩,by (try dsimp only);omega,y6.mk (λ_ _ h=>h) rfl rfl⟩
 | 5,_=>
  rw[g0 dc,g1 dc,g2 dc,g3 dc,g4 dc];exact⟨[],⟨rfl,rfl⟩,pk [0]⟩
end Go.Proofs.YtpjhmeicbjkcdaaGreatDoor
namespace Go.Proofs.YtpjhmeicbjkcdaaGreatDoor
open Go Go.RowKit Go.Dw
structure LR (f:uZ):Prop where
 con:f.1.length < 1000000
 len:f.2.length < 1000000
 trm :∀t∈f.2,t.2.length < 1000000
set_option maxHeartbeats 1000000 in
theorem oO {a:Option Addr} {n c:Nat} {f:uZ} (dims:Nat) (w:World) (hT:Sl (E0 bO) 2 (Hp.whole w) a n c f.2) (hf:LR f) (_hd:dims < 1000000) :
  j2 Tryz.prog 52 #[.agg #[sv f.1,.slice a n c],iQ dims] w (v8 w (iQ (oE dims f))):=by
 obtain⟨fc,L⟩:=f;obtain⟨hf1,hf2,hf3⟩:=hf;have hlen:=hT.len;dsimp only at hT hf1 hf2 hf3 hlen ⊢;have hE:oE dims (fc,L)=if H5 fc≠0 then H5 fc else if 64 < L.length then 6 else qE (zN dims L) L.length:=rfl
 refine enterZ (cx 62) [.agg #[sv fc,.slice a n c],iQ dims] [.tmp 4] Tryz.func52 ?_;intro b2;refine k7 _ (λw' hm=>cL fc hf1 w') ?_;refine d9 (λh1=>?_) λh1=>?_
 ·rw[hE,if_pos h1];exact⟨[],⟨rfl,rfl⟩,pk [0]⟩
 rw[if_neg h1] at hE;refine d9 (λh2=>?_) λh2=>?_
 ·rw[hE,if_pos om];exact⟨[],⟨rfl,rfl⟩,pk [0]⟩
 rw[if_neg om] at hE;refine z6.mk Nat (λk=>[(1,.v (iQ dims)),(2,.bx 1 0),(20,.v (.slice a n c)),(21,.v (iQ n)),(22,.v (iQ k))]) (λ_=>[.hp (Hp.whole w),.box b2 [sv fc,.slice a n c] 41])
  (λk=>k<=n/\∀j,j < k->zN dims L j=0) (λk=>n - k) 0 ⟨j0 _,λj hj=>absurd hj (M1 _)⟩ (y6.mk (λ_ _ h=>h) rfl rfl) ?_
 rintro k ⟨hk,hz⟩;dsimp only at hk hz ⊢;refine d9 (λh3=>?_) λh3=>?_
 ·have hkn:k < L.length:=om
  obtain⟨t,ht⟩ :∃t,t=L[k]:=⟨_,rfl⟩
  have htm:t∈L:=by rw[ht];exact j5 hkn
  have hts:t.2.length < 1000000:=hf3 t htm;have hgd:L.getD k (0,[])=t:=by rw[e8,i7 hkn,ht];rfl
  have hK:zN dims L k=if t.1 < 0\/(dims:Int)<=t.1 then 10 else if 0 < k/\t.1<=(L.getD (k - 1) (0,[])).1 then 8 else if H5 t.2≠0 then H5 t.2 else if t.2 = [48] then 19 else 0:=by
   unfold zN;rw[hgd]
  have hout:zN dims L k≠0->oE dims (fc,L)=zN dims L k:=λg=>by rw[hE,yP hz g hkn]
  obtain⟨t1,t2⟩:=t;dsimp only at hts hK;refine R2 cQ (e:=80) rfl hT k rfl hkn λb9 o9 cs hcs hR hcell4=>?_;rw[<-ht] at hR;subst hR;refine nX cQ (i:=0) rfl hcell4 rfl ?_;intro b7;refine d9 (λh5=>?_) λh5=>?_
  ·rw[hout (by rw[hK,if_pos (Or.inl h5)];decide),hK,if_pos (Or.inl h5)];exact⟨[],⟨rfl,rfl⟩,pk [0]⟩
  refine d9 (λh6=>?_) λh6=>?_
  ·rw[hout (by rw[hK,if_pos (Or.inr h6)];decide),hK,if_pos (Or.inr h6)];exact⟨[],⟨rfl,rfl⟩,pk [0]⟩
  rw[if_neg om] at hK;refine u6.cut Bool (λq=>[(1,.v (iQ dims)),(2,.bx 1 0),(7,.bx 2 0),(20,.v (.slice a n c)),(21,.v (iQ n)),(22,.v (iQ k)),(37,.v (.bool q))]) (λ_=>[.hp (Hp.whole w),.box b2 [sv fc,.slice a n c] 41,.box b7 [iQ t1,sv t2] 80]) (λq=>q=true↔(0 < k/\t1<=(L.getD (k - 1) (0,[])).1)) (u6.by_order cQ (.take 0 <| .take 1 <| .take 2 <| .take 3 <| .take 4 <| .take 5 <| .take 6 <| .take 7 <| .take 8 <| .take 9 <| .take 10 <| .take 11 <| .take 12 <| .take 13 <| .take 14 <| .done) kr ?_) ?_
  ·refine d9 (λh7=>?_) λh7=>?_
   ·have hk0:0 < k:=om
    have hk1:k - 1 < L.length:=om
    obtain⟨u,hu⟩ :∃u,u=L[k - 1]:=⟨_,rfl⟩
    have hgu:L.getD (k - 1) (0,[])=u:=by rw[e8,i7 hk1,hu];rfl
    refine nwo ?_;refine R2 cQ (e:=80) rfl hT (k - 1) om hk1 λb9 o9 cs hcs hR hcell8=>?_;rw[<-hu] at hR;obtain⟨u1,u2⟩:=u;subst hR;refine lQ 0 (hcell8 0 _ rfl) ?_;refine⟨decide (t1<=u1),?_,y6.mk (pj [0,1,2]) rfl rfl⟩;rw[hgu,decide_eq_true_eq];exact⟨λg=>⟨hk0,g⟩,λg=>g.2⟩
   ·refine⟨false,?_,y6.mk (pj [0,1,2]) rfl rfl⟩;exact⟨λg=>(ZI g).elim,λg=>absurd g.1 om⟩
  rintro q hq hsat;dsimp only;refine v7 (λh9=>?_) λh9=>?_
  ·have h9:=hq.1 h9;rw[hout (by rw[hK,if_pos h9];decide),hK,if_pos h9];exact⟨[],⟨rfl,rfl⟩,pk [0]⟩
  rw[if_neg (λg=>by rw[hq.2 g] at h9;cases h9)] at hK;refine k7 _ (λw' hm=>cL t2 hts w') ?_;refine d9 (λh10=>?_) λh10=>?_
  ·rw[if_pos h10] at hK;rw[hout (by rw[hK];exact h10),hK];exact⟨[],⟨rfl,rfl⟩,pk [0]⟩
  rw[if_neg h10] at hK;refine dL (b:=[48]) ?_;refine d9 (λh11=>?_) λh11=>?_
  ·rw[if_pos h11] at hK;rw[hout (by rw[hK];decide),hK];exact⟨[],⟨rfl,rfl⟩,pk [0]⟩
  rw[if_neg h11] at hK;refine nwo ?_;exact⟨k+1,⟨om,λj hj=>(M9 j k).elim (hz j) (λg=>by rw[show j=k by omega];exact hK)⟩,by (try dsimp only);omega,y6.mk (pj [0,1]) rfl rfl⟩
 ·rw[hE,Y4.2 (λj hj=>hz j om)];exact⟨[],⟨rfl,rfl⟩,pk [0]⟩
end Go.Proofs.YtpjhmeicbjkcdaaGreatDoor
namespace Go.Proofs.YtpjhmeicbjkcdaaGreatDoor
open Go Go.RowKit Go.Dw
theorem Hg {n op:Int} {f:uZ} {fac:d8} {k:Nat} (h:op < 0\/5 < op):jC n op f fac k=12:=if_pos h
theorem WW {n op:Int} {f:uZ} {fac:d8} {k:Nat} (h : ¬ (op < 0\/5 < op)) (h0:op=0):jC n op f fac k=if 0 < k\/fac≠[] then 3 else oE n f:=by
 unfold jC;rw[if_neg h,if_pos h0]
theorem WV {n op:Int} {f:uZ} {fac:d8} {k:Nat} (h : ¬ (op < 0\/5 < op)) (h0 : ¬ op=0):jC n op f fac k=if (f.1≠[]\/0 < f.2.length)\/(fac≠[]/\op≠2) then 3
 else if k=0\/((op=2\/op=5)/\1 < k) then 13 else if op=2 then H5 fac else 0:=by
 unfold jC;rw[if_neg h,if_neg h0]
theorem Pv {P:Prop} (h:P:=by
 first
  | exact (Hg om).symm
  | (rw[WW om om];first | (rw[if_pos (Or.inl om)];done) | (rw[if_pos (Or.inr (by assumption))];done))
  | (rw[WV om om];first
    | (rw[if_pos (Or.inl (Or.inl (by assumption)))];done)
    | (rw[if_pos (Or.inl (Or.inr om))];done)
    | (rw[if_pos (Or.inr ⟨by assumption,by assumption⟩)];done)
    | (rw[if_neg (by rintro ((g | g) | ⟨g,g2⟩) <;> first | omega | contradiction)];first
      | (rw[if_pos om];done)
      | (rw[if_neg om,if_neg om];done)))):P:=h
set_option maxRecDepth 20000 in
set_option maxHeartbeats 4000000 in
theorem BN {op : Int} {a a1 : Option Addr} {n c n1 c1 : Nat} {f : uZ} {fac : d8} (dims : Nat) (w : World) (hT : Sl (E0 bO) 2 (Hp.whole w) a n c f.2) (hf : LR f) (hs : fac.length < 1000000) (hd : dims < 1000000) :
    j2 Tryz.prog 140 #[.agg #[iQ op, sv f.1, .slice a n c, sv fac, .slice a1 n1 c1], iQ dims] w (v8 w (iQ (jC dims op f fac n1))) := by
  have hlen := hT.len
  refine enterZ (cx 92) [.agg #[iQ op, sv f.1, .slice a n c, sv fac, .slice a1 n1 c1], iQ dims] [.tmp 4] Tryz.func140 ?_
  intro b2
  repeat' first
    | (exfalso;omega)
    | refine dL (b := []) ?_
    | refine pZ (b := []) ?_
    | refine d9 (λ_ => ?_) (λ_ => ?_)
    | (refine v7 (λh => ?_) (λh => ?_) <;> simp only [yW, Bool.not_eq_false', decide_eq_false_iff_not, decide_eq_true_eq] at h)
    | (refine ⟨[], ⟨congrArg (Value.int .i64) ?_, rfl⟩, λw' h => h.pick [0] rfl rfl⟩;exact Pv)
  all_goals first
    | (refine k7 _ (λw' hm => oO dims w' (hT.mono (j7 _) (hm 0 _ rfl).whole) hf hd) ?_
       refine ⟨[], ⟨congrArg (Value.int .i64) ?_, rfl⟩, λw' h => h.pick [0] rfl rfl⟩
       rw [WW om om, if_neg (by rintro (g | g) <;> first | omega | contradiction)])
    | (refine k7 _ (λw' hm => cL fac hs w') ?_
       refine ⟨[], ⟨congrArg (Value.int .i64) ?_, rfl⟩, λw' h => h.pick [0] rfl rfl⟩
       rw [WV om om, if_neg (by rintro ((g | g) | ⟨g, g2⟩) <;> first | omega | contradiction), if_neg om, if_pos om])
end Go.Proofs.YtpjhmeicbjkcdaaGreatDoor
namespace Go.Dw
open Go Go.RowKit
theorem Db {X : Q2} (hX : X.Good) {f : Nat} {fn : Func} {c : Code} {args : List Value} {w : World} {h : Hp} {s0 : List Ch} (h0 : Ok w s0 w) {R : Value -> Hp -> List Ch -> Prop} (rs : List ResultVar)
    (hf : X.P.funcs[f]? = some fn) (hb : fn.body = some c) (hn : (fn.name == "runtime.NumGoroutine") = false) (hr : fn.results = rs.toArray) (hm : fn.ntmps = X.n) (hl : P9 args.length X.n = true)
    (hwp : WP X c (λe t s => match e with
      | .exit _ => False
      | _ => rD X s t rs λv => ∃ h' cs, R v h' cs /\ ∀ w', Ok w s w' -> Ok w (.hp ((Hp.whole w).minus h) :: .hp h' :: cs) w') (rP 0 args) s0) :
    j2 X.P f args.toArray w (O3 w h R) := by
  have hl := D3 hl
  refine ⟨λw => ?_, calls_of_wp hf hb ?_⟩
  · have hn' : ¬ fn.name = "runtime.NumGoroutine" := by simpa using hn
    simp [callFunc, hf, hn', hb]
  · refine wp_mono (uS hX c _ _ _ _ w hwp ⟨by simp [hm];omega, rfl, λi tv hi => ?_⟩ h0) λe a w' hq => ?_
    · obtain ⟨v, rfl, _, h2⟩ := fO args 0 i tv hi
      refine ⟨v, rfl, ?_⟩
      have : i < args.length := (p6.1 (by simpa using h2)).1
      rw [Array.getElem?_append_left (by simpa using this)]
      simpa using h2
    · have fin : ∀ t s, Fr X.n t s a -> Ok w s w' -> (rD X s t rs λv => ∃ h' cs, R v h' cs /\ ∀ w', Ok w s w' -> Ok w (.hp ((Hp.whole w).minus h) :: .hp h' :: cs) w') ->
          a.defers = [] /\ ∃ v, (results fn a.tmps).run X.P w' = .ok v w' /\ O3 w h R (.returned v) w' := by
        intro t s hf' hok hk
        obtain ⟨v, h1, h', cs, h2, h3⟩ := pF hX hf'.w hok.mem hk hr
        exact ⟨hf'.2.1, v, h1, v, h', cs, rfl, h3 w' hok, h2⟩
      cases e with
      | normal => obtain ⟨t, s, h1, h2, h3⟩ := hq;exact fin t s h1 h2 h3
      | ret => obtain ⟨t, s, h1, h2, h3⟩ := hq;exact fin t s h1 h2 h3
      | exit i => obtain ⟨t, s, h1, h2, h3⟩ := hq;exact h3.elim
      | goto l => exact hq.elim
      | panic c => exact hq.elim
      | outgrown => exact hq.elim
theorem enterMSZ (X : Q2) {f : Nat} {fn : Func} {c : Code} (args : List Value) {w : World} {h : Hp} {s0 : List Ch} (h0 : Ok w s0 w) {R : Value -> Hp -> List Ch -> Prop} (rs : List ResultVar) (hf : X.P.funcs[f]? = some fn) (hwp : WP X c (λe t s => match e with
      | .exit _ => False
      | _ => rD X s t rs λv => ∃ h' cs, R v h' cs /\ ∀ w', Ok w s w' -> Ok w (.hp ((Hp.whole w).minus h) :: .hp h' :: cs) w') (rP 0 args) s0) (hX : X.Good := by exact cxg _) (hb : fn.body = some c := by exact rfl) (hn : (fn.name == "runtime.NumGoroutine") = false := by exact rfl) (hr : fn.results = rs.toArray := by exact rfl) (hm : fn.ntmps = X.n := by exact rfl) (hl : P9 args.length X.n = true := by exact rfl) : j2 X.P f args.toArray w (O3 w h R) := Db hX h0 rs hf hb hn hr hm hl hwp
theorem Ok.sub {w0 w:World} {s:List Ch} {i:Nat} {c d:Ch} (hi:l7 s i=some c) (hd:d.h.le c.h) (hok:Ok w0 s w):Ok w0 (w8 s i d) w:=by
 refine⟨hok.os,hok.tape,hok.output,hok.size,hok.drawn,λk x hx=>?_,λj k x y hjk h1 h2=>?_⟩
 ·rw[U5 hi] at hx;split at hx
  ·cases hx;exact λa o e=>hok.mem i c hi a o (hd a o e)
  ·exact hok.mem k x hx
 ·rw[U5 hi] at h1 h2;have hl :∀{h k:Hp},c.h.dj h->d.h.dj h:=λg a=>by
   rcases g a with g | g
   ·refine .inl ?_;cases e:d.h a with
    | none=>rfl
    | some o=>rw[hd a o e] at g;cases g
   ·exact .inr g
  split at h1 <;> split at h2
  ·omega
  ·cases h1;exact hl (k:=Hp.emp) (hok.disj _ _ _ _ om hi h2)
  ·cases h2;exact (hl (k:=Hp.emp) ((hok.disj _ _ _ _ om h1 hi).symm)).symm
  ·exact hok.disj _ _ _ _ hjk h1 h2
theorem NY {P:Program} {s:List Ch} {f:Nat} {args:List Value} {q:TV->List Ch->Prop} {i:Nat} {b T:Nat} {cs:List Value} (hi:l7 s i=some (.box b cs T)) {R:Value->List Value->Prop}
  (hc :∀w0 w,Ok w0 s w->j2 P f args.toArray w (O3 w (Ch.box b cs T).h λv h' cs2=>cs2 = []/\∃cs',(Ch.box b cs' T).h.le h'/\R v cs'))
  (k :∀v cs',R v cs'->q (.v v) (w8 s i (.box b cs' T))):P4 P s f args q:=by
 refine⟨λw0 w hok=>⟨(hc w0 w hok).1,(hc w0 w hok).2.mono λe w' he=>?_⟩⟩;obtain⟨v,h',cs2,rfl,h1,rfl,cs',hle,hR⟩:=he;have hok1:Ok w0 (w8 s i (.hp (Ch.box b cs T).h)) w:=Ok.same (d:=.hp (Ch.box b cs T).h) hi rfl hok;have hi1:l7 (w8 s i (.hp (Ch.box b cs T).h)) i=some (.hp (Ch.box b cs T).h):=by rw[U5 hi,if_pos rfl]
 have hok3:=hok1.callM hi1 h1;rw[k8] at hok3;have hi3:l7 (w8 (w8 s i (.hp (Ch.box b cs T).h)) i (.hp h')) i=some (.hp h'):=by rw[U5 hi1,if_pos rfl]
 have hok4:=Ok.sub hi3 (d:=.box b cs' T) hle hok3;have e:w8 (w8 (w8 s i (.hp (Ch.box b cs T).h)) i (.hp h')) i (.box b cs' T)=w8 s i (.box b cs' T):=by simp only[S0,List.set_set]
 rw[e] at hok4;exact⟨v,_,rfl,hok4,I5.set hi (λb' cs0 T' e=>by cases e;exact⟨_,_,rfl⟩),k v cs' hR⟩
end Go.Dw
namespace Go.Proofs.YtpjhmeicbjkcdaaGreatDoor
open Go Go.RowKit Go.Dw
inductive RA:Ex->Prop
 | mk {op:Int} {f:uZ} {fac:d8} {args:List Ex} (hf:LR f) (hs:fac.length < 1000000) (hn:args.length < 1000000) (ha :∀y∈args,RA y):RA (.mk op f fac args)
theorem YA (g:Nat->Ex->Int×Nat) (k:Nat):W5 g k []=(0,k):=by unfold W5;rfl
theorem TJ (g:Nat->Ex->Int×Nat) (k:Nat) (x:Ex) (r:List Ex):W5 g k (x::r)=if (g k x).1≠0 then g k x else W5 g (g k x).2 r:=by
 conv=>lhs;unfold W5
theorem Ia (n:Int) (k:Nat) (x:Ex):M5 n 0 k x=(15,k):=by unfold M5;rfl
theorem Hz (n:Int) (d k:Nat) (op:Int) (f:uZ) (fac:d8) (args:List Ex):M5 n (d+1) k (.mk op f fac args)=if 64<=k then (6,k) else if jC n op f fac args.length≠0 then (jC n op f fac args.length,k+1) else W5 (M5 n d) (k+1) args:=by
 conv=>lhs;unfold M5
abbrev Ma (bv bd bf:Nat):Value:=.func (.func 139) #[] #[pQ bv,pQ bd,pQ bf]
structure Lu (bv bd bf:Nat) (dims:Nat) (k:Hp):Prop where
 cd:k.cell? ⟨bd,0,none⟩=some (iQ dims)
 cf:k.cell? ⟨bf,0,none⟩=some (Ma bv bd bf)
theorem Lu.mono {bv bd bf dims:Nat} {h k:Hp} (r:Lu bv bd bf dims h) (l:h.le k):Lu bv bd bf dims k:=⟨l.cell r.cd,l.cell r.cf⟩
set_option maxRecDepth 10000 in
set_option maxHeartbeats 1000000 in
theorem MA {bv bd bf dims:Nat} (hd:dims < 1000000) :∀(d e k lv:Nat) (x:Ex) (cs:List Value) (w:World),lv+d=9->RA x->(Ch.box bv [iQ k] 3).h.In w->Lu bv bd bf dims ((Hp.whole w).minus (Ch.box bv [iQ k] 3).h)->bE e ((Hp.whole w).minus (Ch.box bv [iQ k] 3).h) x cs->
  j2 Tryz.prog 139 #[.agg cs.toArray,iQ lv,pQ bv,pQ bd,pQ bf] w
   (O3 w (Ch.box bv [iQ k] 3).h λv h' cs2=>cs2 = []/\∃cs',(Ch.box bv cs' 3).h.le h'/\v=iQ (M5 dims d k x).1/\cs' = [iQ (M5 dims d k x).2]):=by
 intro d;induction d with
 | zero=>
  intro e k lv x cs w hlv hx hin hR he;match e,he with
  | e+1,he=>
  obtain⟨op,f,fac,args⟩:=x;obtain⟨a,n,c,a1,n1,c1,rfl,hf,ha⟩:=he;rw[Ia];obtain⟨c0,hc0⟩ :∃c0,c0=(Hp.whole w).minus (Ch.box bv [iQ k] 3).h:=⟨_,rfl⟩
  have ok0:Ok w [.hp c0,.box bv [iQ k] 3] w:=by rw[hc0];exact Ok.same (s:=[.hp ((Hp.whole w).minus (Ch.box bv [iQ k] 3).h),.hp (Ch.box bv [iQ k] 3).h]) (i:=1) (c:=.hp (Ch.box bv [iQ k] 3).h) (d:=.box bv [iQ k] 3) rfl rfl (Ok.start2 w hin)
  refine enterMSZ (cx 42) [.agg #[iQ op,sv f.1,.slice a n c,sv fac,.slice a1 n1 c1],iQ lv,pQ bv,pQ bd,pQ bf] ok0 [.tmp 7] Tryz.func139 ?_;rw[<-hc0] at hR hf ha ⊢;intro b5;refine d9 (λh1=>?_) (λh1=>by omega);exact⟨(Ch.box bv [iQ k] 3).h,[],⟨rfl,_,λ_ _ h=>h,rfl,rfl⟩,λw' h=>(h.pick [0,1] rfl rfl).boxHp⟩
 | succ d ih=>
  intro e k lv x cs w hlv hx hin hR he;match e,he with
  | e+1,he=>
  obtain⟨op,f,fac,args⟩:=x;obtain⟨a,n,c,a1,n1,c1,rfl,hf,ha⟩:=he;cases hx with
  | mk hxf hxs hxn hxa=>
  have hla:=ha.len;rw[Hz,<-hla];obtain⟨c0,hc0⟩ :∃c0,c0=(Hp.whole w).minus (Ch.box bv [iQ k] 3).h:=⟨_,rfl⟩
  have ok0:Ok w [.hp c0,.box bv [iQ k] 3] w:=by rw[hc0];exact Ok.same (s:=[.hp ((Hp.whole w).minus (Ch.box bv [iQ k] 3).h),.hp (Ch.box bv [iQ k] 3).h]) (i:=1) (c:=.hp (Ch.box bv [iQ k] 3).h) (d:=.box bv [iQ k] 3) rfl rfl (Ok.start2 w hin)
  refine enterMSZ (cx 42) [.agg #[iQ op,sv f.1,.slice a n c,sv fac,.slice a1 n1 c1],iQ lv,pQ bv,pQ bd,pQ bf] ok0 [.tmp 7] Tryz.func139 ?_;rw[<-hc0] at hR hf ha ⊢;intro b5;refine d9 (λh1=>by omega) λh1=>?_;refine lR 1 0 ?_;refine d9 (λh2=>?_) λh2=>?_
  ·rw[if_pos om];exact⟨(Ch.box bv [iQ k] 3).h,[],⟨rfl,_,λ_ _ h=>h,rfl,rfl⟩,λw' h=>(h.pick [0,1] rfl rfl).boxHp⟩
  rw[if_neg om];refine lR 1 0 ?_;refine nwo ?_;refine iW cQ (i:=1) (j:=0) rfl rfl rfl sQ rfl rfl ?_;refine lQ 0 hR.cd ?_;refine k7 _ (λw' hm=>BN dims w' (hf.mono (j7 _) (hm 0 _ rfl).whole) hxf hxs hd) ?_;refine d9 (λh3=>?_) λh3=>?_
  ·rw[if_pos h3];exact⟨(Ch.box bv [iQ ((k+1:Nat):Int)] 3).h,[],⟨rfl,_,λ_ _ h=>h,rfl,rfl⟩,λw' h=>(h.pick [0,1] rfl rfl).boxHp⟩
  rw[if_neg h3];refine z6.mk (Nat×Nat) (λg=>[(1,.v (iQ lv)),(2,.v (pQ bv)),(3,.v (pQ bd)),(4,.v (pQ bf)),(27,.v (.slice a1 n1 c1)),(28,.v (iQ n1)),(29,.v (iQ g.1))]) (λg=>[.hp c0,.box bv [iQ g.2] 3])
   (λg=>g.1<=n1/\W5 (M5 dims d) (k+1) args=W5 (M5 dims d) g.2 (args.drop g.1)) (λg=>n1 - g.1) (0,k+1) ⟨j0 _,rfl⟩ (y6.mk (pj [0,1]) rfl rfl) ?_
  rintro⟨i,m⟩ ⟨hi,hE⟩;dsimp only at hi hE ⊢;rw[hE];refine d9 (λh4=>?_) λh4=>?_
  ·have hil:i < args.length:=om
   obtain⟨y,hy⟩ :∃y,y=args[i]:=⟨_,rfl⟩
   have hym:y∈args:=by rw[hy];exact j5 hil
   rw[q6 hil,<-hy,TJ] at hE ⊢;refine R2 cQ (e:=44) rfl ha i rfl hil λb9 o9 cs hcs hR9 hcell=>?_;rw[<-hy] at hR9;match e,hR9 with
   | e+1,hR9=>
   obtain⟨op',f',fac',args'⟩:=y;have hR9':=hR9;obtain⟨a',n',c',a1',n1',c1',rfl,hf',ha'⟩:=hR9;refine nX cQ (i:=0) rfl hcell rfl ?_;intro b10;refine lQ 0 hR.cf ?_;refine nwo ?_;refine NY (i:=1) rfl (λw0 w1 hok=>ih (e+1) m (lv+1) _ _ w1 om (hxa _ hym) (hok.mem 1 _ rfl) (hR.mono (Hp.le_minus (hok.mem 0 _ rfl).whole (hok.disj 0 1 _ _ dc rfl rfl))) (D6 _ _ _ _ _ (Hp.le_minus (hok.mem 0 _ rfl).whole (hok.disj 0 1 _ _ dc rfl rfl)) hR9')) ?_;rintro _ _ ⟨rfl,rfl⟩;refine d9 (λh6=>?_) λh6=>?_
   ·rw[if_pos h6];exact⟨(Ch.box bv [iQ _] 3).h,[],⟨rfl,_,λ_ _ h=>h,rfl,rfl⟩,λw' h=>(h.pick [0,1] rfl rfl).boxHp⟩
   ·refine nwo ?_;exact⟨(i+1,_),⟨by dsimp only;omega,if_neg h6⟩,by dsimp only;omega,y6.mk (pj [0,1]) rfl rfl⟩
  ·rw[J2 om,YA];exact⟨(Ch.box bv [iQ m] 3).h,[],⟨rfl,_,λ_ _ h=>h,rfl,rfl⟩,λw' h=>(h.pick [0,1] rfl rfl).boxHp⟩
theorem bT (b:Nat) (v:Value) (T:Nat):(Ch.box b [v] T).h.cell? ⟨b,0,none⟩=some v:=by simp[Hp.cell?,Ch.h,Hp.one]
set_option maxRecDepth 10000 in
theorem oQ {dims e:Nat} {x:Ex} {cs:List Value} (w:World) (hd:dims < 1000000) (hx:RA x) (he:bE e (Hp.whole w) x cs) :
  j2 Tryz.prog 67 #[.agg cs.toArray,iQ dims] w (v8 w (iQ (AZ dims x))):=by
 match e,he with
 | e+1,he=>
 obtain⟨op,f,fac,args⟩:=x;have he':=he;obtain⟨a,n,c,a1,n1,c1,rfl,hf,ha⟩:=he;refine enterZ (cx 11) [.agg #[iQ op,sv f.1,.slice a n c,sv fac,.slice a1 n1 c1],iQ dims] [.tmp 4] Tryz.func67 ?_;intro b2 b3 b5 b6;refine NY (i:=3) rfl (λw0 w1 hok=>MA (bf:=b6) hd 8 (e+1) 0 1 _ _ w1 dc hx (hok.mem 3 _ rfl)
  ⟨(Hp.le_minus (hok.mem 2 _ rfl).whole (hok.disj 2 3 _ _ dc rfl rfl)).cell (bT b3 _ 3),(Hp.le_minus (hok.mem 4 _ rfl).whole (hok.disj 4 3 _ _ dc rfl rfl)).cell (bT b6 _ _)⟩
  (D6 _ _ _ _ _ (Hp.le_minus (hok.mem 0 _ rfl).whole (hok.disj 0 3 _ _ dc rfl rfl)) he')) ?_
 rintro _ _ ⟨rfl,rfl⟩;exact⟨[],⟨rfl,rfl⟩,pk [0]⟩
end Go.Proofs.YtpjhmeicbjkcdaaGreatDoor
namespace Go.Dw
open Go Go.RowKit
section
variable {X:Q2} {s:List Ch}
theorem ZA (hX:X.Good) {T n e:Nat} {ti:TI} (hT:G9 X.tt T=some ti) (hk:ti.k=.ar n e):X.P.underlying T=some (.array n e):=by
 have:=(Good.und hX hT).2;rw[hk] at this;exact this
theorem Lt (hX:X.Good) {T n e:Nat} {ti te:TI} (hT:G9 X.tt T=some ti) (hk:ti.k=.ar n e) (he:G9 X.tt e=some te) {b off:Nat} {q:TV->Prop}
  (hq:q (.v (.slice (some ⟨b,off,none⟩) n n))):C9 X.P s (Instr.sliceAt T (.pointer (some ⟨b,off,none⟩)) none none none) q:=by
 have hu:=ZA hX hT hk;refine⟨_,λw _=>?_,hq⟩;have h1:=(Good.und hX he).size w;simp[Instr.sliceAt,run_underlying hu,Instr.sliceBounds,Instr.sureAddr,h1];intro _;simp[Addr.add]
theorem Ns (hX:X.Good) {T n e:Nat} {ti te:TI} (hT:G9 X.tt T=some ti) (hk:ti.k=.ar n e) (he:G9 X.tt e=some te) (ha:te.agg=false) {cs:List Value} {k:IntKind} {j:Nat} {x:Int} (hx:x=j) (hj:j < n) {v:Value} (hc:cs[j*te.size]?=some v) {q:TV->Prop}
  (hq:q (.v v)):C9 X.P s (Instr.index T (.agg cs.toArray) (.int k x)) q:=by
 subst hx;have hu:=ZA hX hT hk;refine⟨_,λw _=>?_,hq⟩;have h1:=(Good.und hX he).size w;have h2:=(Good.und hX he).agg w;rw[ha] at h2;simp[Instr.index,asIntOf,run_underlying hu,h1,h2,part,hj,hc]
theorem Ev {α:Type} {f:α->List Value} {sz b T:Nat} {cs:List Value} {w:World} (hin:(Ch.box b cs T).h.In w) {off:Nat} {L:List α} (hs :∀x,(f x).length=sz) (hc :∀i (hi:i < L.length) j v,(f L[i])[j]?=some v->cs[off+i*sz+j]?=some v) :
  Sl (E0 f) sz (Hp.whole w) (some ⟨b,off,none⟩) L.length L.length L:=by
 refine⟨rfl,j8 _,λi hi=>⟨b,off,f L[i],rfl,hs _,rfl,λj v hj=>?_⟩⟩;refine (Hp.In.whole hin).cell ?_;have:=hc i hi j v hj;simp[Hp.cell?,Ch.h,Hp.one,this]
end
end Go.Dw
namespace Go.Proofs.YtpjhmeicbjkcdaaGreatDoor
open Go Go.RowKit Go.Dw
def Jc (x:Int):List Value:=[iQ x]
def Gm (p:V9) (cs:List Value):Prop:=∃a n c,cs = [sv p.1,iQ p.2.1,.slice a n c]
def Ar (d:O7) (cs:List Value):Prop:=cs=P2 d
theorem rR {a:Option Addr} {n c:Nat} {L:List Int} (g:Nat) (p:Int->Bool) (w:World) (hL:Sl (E0 Jc) 1 (Hp.whole w) a n c L) (hn:n < 1000000000)
  (hp :∀w',(Hp.whole w).In w'->∀x∈L,j2 Tryz.prog g #[iQ x] w' (v8 w' (.bool (p x)))) :
  j2 Tryz.prog 179 #[.slice a n c,.func (.func g) #[] #[]] w (v8 w (iQ (Y9 p L))):=by
 have hlen:=hL.len;refine enterZ (cx 19) [.slice a n c,.func (.func g) #[] #[]] [.tmp 4] Tryz.func179 ?_;refine z6.mk Nat (λk=>[(0,.v (.slice a n c)),(1,.v (.func (.func g) #[] #[])),(7,.v (iQ n)),(8,.v (iQ k))]) (λ_=>[.hp (Hp.whole w)])
  (λk=>k<=n/\∀y∈L.take k,p y=false) (λk=>n - k) 0 ⟨j0 _,sQ⟩ (y6.mk (λ_ _ h=>h) rfl rfl) ?_
 rintro k ⟨hk,ho⟩;refine d9 (λhlt=>?_) λhge=>?_
 ·have hlt':k < L.length:=om
  refine R2 cQ (e:=3) rfl hL k rfl hlt' λb o cs hcs hR hcell=>?_;subst hR;refine lQ 0 (hcell 0 _ rfl) ?_;refine k7 (.bool (p L[k])) (λw' hm=>hp w' (hm 0 _ rfl) L[k] (j5 hlt')) ?_;refine v7 (λhb=>?_) λhb=>?_
  ·exact⟨[],⟨by rw[pK p L k hlt' ho hb],rfl⟩,pk [0]⟩
  ·refine nwo ?_;exact⟨k+1,⟨om,Z9 hlt' ho hb⟩,om,y6.mk (λ_ _ h=>h) rfl rfl⟩
 ·exact⟨[],⟨by rw[lH p L k om ho],rfl⟩,pk [0]⟩
theorem cF {a:Option Addr} {n c:Nat} {L:List Int} (g:Nat) (p:Int->Bool) (w:World) (hL:Sl (E0 Jc) 1 (Hp.whole w) a n c L) (hn:n < 1000000000)
  (hp :∀w',(Hp.whole w).In w'->∀x∈L,j2 Tryz.prog g #[iQ x] w' (v8 w' (.bool (p x)))) :
  j2 Tryz.prog 111 #[.slice a n c,.func (.func g) #[] #[]] w (v8 w (.bool (L.any p))):=by
 refine enterZ (cx 9) [.slice a n c,.func (.func g) #[] #[]] [.tmp 4] Tryz.func111 ?_;refine call (λw' hm=>rR g p w' (hL.mono (j7 _) (hm 0 _ rfl)) hn (λw2 h2=>hp w2 (h2.le (hm 0 _ rfl)))) ?_;rintro _ _ ⟨rfl,rfl⟩;exact⟨[],⟨by rw[<-kC],rfl⟩,λw' h=>h⟩
theorem rQ {a:Option Addr} {n c:Nat} {L:List V9} (g:Nat) (cv:Value) (p:V9->Bool) (w:World) (hL:Sl cN 3 (Hp.whole w) a n c L) (hn:n < 1000000000)
  (hp :∀w',(Hp.whole w).In w'->∀x∈L,∀cs,cs.length=3->Gm x cs->j2 Tryz.prog g #[.agg cs.toArray,cv] w' (v8 w' (.bool (p x)))) :
  j2 Tryz.prog 180 #[.slice a n c,.func (.func g) #[] #[cv]] w (v8 w (iQ (Y9 p L))):=by
 have hlen:=hL.len;refine enterZ (cx 19) [.slice a n c,.func (.func g) #[] #[cv]] [.tmp 4] Tryz.func180 ?_;refine z6.mk Nat (λk=>[(0,.v (.slice a n c)),(1,.v (.func (.func g) #[] #[cv])),(7,.v (iQ n)),(8,.v (iQ k))]) (λ_=>[.hp (Hp.whole w)])
  (λk=>k<=n/\∀y∈L.take k,p y=false) (λk=>n - k) 0 ⟨j0 _,sQ⟩ (y6.mk (λ_ _ h=>h) rfl rfl) ?_
 rintro k ⟨hk,ho⟩;refine d9 (λhlt=>?_) λhge=>?_
 ·have hlt':k < L.length:=om
  refine R2 cQ (e:=83) rfl hL k rfl hlt' λb o cs hcs hR hcell=>?_;obtain⟨a3,n3,c3,rfl,hs3⟩:=hR;refine nX cQ (i:=0) rfl hcell rfl ?_;refine k7 (.bool (p L[k])) (λw' hm=>hp w' (hm 0 _ rfl) L[k] (j5 hlt') _ rfl ⟨a3,n3,c3,rfl⟩) ?_;refine v7 (λhb=>?_) λhb=>?_
  ·exact⟨[],⟨by rw[pK p L k hlt' ho hb],rfl⟩,pk [0]⟩
  ·refine nwo ?_;exact⟨k+1,⟨om,Z9 hlt' ho hb⟩,om,y6.mk (λ_ _ h=>h) rfl rfl⟩
 ·exact⟨[],⟨by rw[lH p L k om ho],rfl⟩,pk [0]⟩
theorem cE {a:Option Addr} {n c:Nat} {L:List V9} (g:Nat) (cv:Value) (p:V9->Bool) (w:World) (hL:Sl cN 3 (Hp.whole w) a n c L) (hn:n < 1000000000)
  (hp :∀w',(Hp.whole w).In w'->∀x∈L,∀cs,cs.length=3->Gm x cs->j2 Tryz.prog g #[.agg cs.toArray,cv] w' (v8 w' (.bool (p x)))) :
  j2 Tryz.prog 115 #[.slice a n c,.func (.func g) #[] #[cv]] w (v8 w (.bool (L.any p))):=by
 refine enterZ (cx 9) [.slice a n c,.func (.func g) #[] #[cv]] [.tmp 4] Tryz.func115 ?_;refine call (λw' hm=>rQ g cv p w' (hL.mono J0 (hm 0 _ rfl)) hn (λw2 h2=>hp w2 (h2.le (hm 0 _ rfl)))) ?_;rintro _ _ ⟨rfl,rfl⟩;exact⟨[],⟨by rw[<-kC],rfl⟩,λw' h=>h⟩
theorem rS {a:Option Addr} {n c:Nat} {L:List O7} (g:Nat) (p:O7->Bool) (w:World) (hL:Sl (E0 P2) 4 (Hp.whole w) a n c L) (hn:n < 1000000000)
  (hp :∀w',(Hp.whole w).In w'->∀x∈L,∀cs,cs.length=4->Ar x cs->j2 Tryz.prog g #[.agg cs.toArray] w' (v8 w' (.bool (p x)))) :
  j2 Tryz.prog 191 #[.slice a n c,.func (.func g) #[] #[]] w (v8 w (iQ (Y9 p L))):=by
 have hlen:=hL.len;refine enterZ (cx 19) [.slice a n c,.func (.func g) #[] #[]] [.tmp 4] Tryz.func191 ?_;refine z6.mk Nat (λk=>[(0,.v (.slice a n c)),(1,.v (.func (.func g) #[] #[])),(7,.v (iQ n)),(8,.v (iQ k))]) (λ_=>[.hp (Hp.whole w)])
  (λk=>k<=n/\∀y∈L.take k,p y=false) (λk=>n - k) 0 ⟨j0 _,sQ⟩ (y6.mk (λ_ _ h=>h) rfl rfl) ?_
 rintro k ⟨hk,ho⟩;refine d9 (λhlt=>?_) λhge=>?_
 ·have hlt':k < L.length:=om
  refine R2 cQ (e:=48) rfl hL k rfl hlt' λb o cs hcs hR hcell=>?_;subst hR;refine nX cQ (i:=0) rfl hcell rfl ?_;refine k7 (.bool (p L[k])) (λw' hm=>hp w' (hm 0 _ rfl) L[k] (j5 hlt') _ rfl rfl) ?_;refine v7 (λhb=>?_) λhb=>?_
  ·exact⟨[],⟨by rw[pK p L k hlt' ho hb],rfl⟩,pk [0]⟩
  ·refine nwo ?_;exact⟨k+1,⟨om,Z9 hlt' ho hb⟩,om,y6.mk (λ_ _ h=>h) rfl rfl⟩
 ·exact⟨[],⟨by rw[lH p L k om ho],rfl⟩,pk [0]⟩
theorem mO {a:Option Addr} {n c:Nat} {L:List O7} (g:Nat) (p:O7->Bool) (w:World) (hL:Sl (E0 P2) 4 (Hp.whole w) a n c L) (hn:n < 1000000000)
  (hp :∀w',(Hp.whole w).In w'->∀x∈L,∀cs,cs.length=4->Ar x cs->j2 Tryz.prog g #[.agg cs.toArray] w' (v8 w' (.bool (p x)))) :
  j2 Tryz.prog 141 #[.slice a n c,.func (.func g) #[] #[]] w (v8 w (.bool (L.any p))):=by
 refine enterZ (cx 9) [.slice a n c,.func (.func g) #[] #[]] [.tmp 4] Tryz.func141 ?_;refine call (λw' hm=>rS g p w' (hL.mono (j7 _) (hm 0 _ rfl)) hn (λw2 h2=>hp w2 (h2.le (hm 0 _ rfl)))) ?_;rintro _ _ ⟨rfl,rfl⟩;exact⟨[],⟨by rw[<-kC],rfl⟩,λw' h=>h⟩
theorem gR {a:Option Addr} {n c:Nat} {L:List O7} (g:Nat) (cv:Value) (p:O7->Bool) (w:World) (hL:Sl (E0 P2) 4 (Hp.whole w) a n c L) (hn:n < 1000000000)
  (hp :∀w',(Hp.whole w).In w'->∀x∈L,∀cs,cs.length=4->Ar x cs->j2 Tryz.prog g #[.agg cs.toArray,cv] w' (v8 w' (.bool (p x)))) :
  j2 Tryz.prog 191 #[.slice a n c,.func (.func g) #[] #[cv]] w (v8 w (iQ (Y9 p L))):=by
 have hlen:=hL.len;refine enterZ (cx 19) [.slice a n c,.func (.func g) #[] #[cv]] [.tmp 4] Tryz.func191 ?_;refine z6.mk Nat (λk=>[(0,.v (.slice a n c)),(1,.v (.func (.func g) #[] #[cv])),(7,.v (iQ n)),(8,.v (iQ k))]) (λ_=>[.hp (Hp.whole w)])
  (λk=>k<=n/\∀y∈L.take k,p y=false) (λk=>n - k) 0 ⟨j0 _,sQ⟩ (y6.mk (λ_ _ h=>h) rfl rfl) ?_
 rintro k ⟨hk,ho⟩;refine d9 (λhlt=>?_) λhge=>?_
 ·have hlt':k < L.length:=om
  refine R2 cQ (e:=48) rfl hL k rfl hlt' λb o cs hcs hR hcell=>?_;subst hR;refine nX cQ (i:=0) rfl hcell rfl ?_;refine k7 (.bool (p L[k])) (λw' hm=>hp w' (hm 0 _ rfl) L[k] (j5 hlt') _ rfl rfl) ?_;refine v7 (λhb=>?_) λhb=>?_
  ·exact⟨[],⟨by rw[pK p L k hlt' ho hb],rfl⟩,pk [0]⟩
  ·refine nwo ?_;exact⟨k+1,⟨om,Z9 hlt' ho hb⟩,om,y6.mk (λ_ _ h=>h) rfl rfl⟩
 ·exact⟨[],⟨by rw[lH p L k om ho],rfl⟩,pk [0]⟩
theorem mN {a:Option Addr} {n c:Nat} {L:List O7} (g:Nat) (cv:Value) (p:O7->Bool) (w:World) (hL:Sl (E0 P2) 4 (Hp.whole w) a n c L) (hn:n < 1000000000)
  (hp :∀w',(Hp.whole w).In w'->∀x∈L,∀cs,cs.length=4->Ar x cs->j2 Tryz.prog g #[.agg cs.toArray,cv] w' (v8 w' (.bool (p x)))) :
  j2 Tryz.prog 141 #[.slice a n c,.func (.func g) #[] #[cv]] w (v8 w (.bool (L.any p))):=by
 refine enterZ (cx 9) [.slice a n c,.func (.func g) #[] #[cv]] [.tmp 4] Tryz.func141 ?_;refine call (λw' hm=>gR g cv p w' (hL.mono (j7 _) (hm 0 _ rfl)) hn (λw2 h2=>hp w2 (h2.le (hm 0 _ rfl)))) ?_;rintro _ _ ⟨rfl,rfl⟩;exact⟨[],⟨by rw[<-kC],rfl⟩,λw' h=>h⟩
end Go.Proofs.YtpjhmeicbjkcdaaGreatDoor
namespace Go.Proofs.YtpjhmeicbjkcdaaGreatDoor
open Go Go.RowKit Go.Dw
theorem sS (n most:Int) (h0:0<=most) (hm:most < 4611686018427387904) (w:World):j2 Tryz.prog 113 #[iQ n,iQ most] w (v8 w (.bool (!aF n most))):=by
 obtain⟨m,rfl⟩:=S8 h0;exact HU n m om w
theorem MS {α:Type} (M:List α) (z:α) :∀i,i<=M.length->(x8 i).map (λk=>M.getD k z)=M.take i:=λi hi=>by
 apply Iu
 ·simp;omega
 ·intro j h1 h2;simp only[j6,K7] at h1;simp[e8,i7 (show j < M.length by omega)]
def eW {α:Type} (f:α->d8) (L:List α) (k:Nat):d8:=(L.map f).getD k []
theorem gK {α:Type} (f:α->d8) (L:List α) (i:Nat) (hi:i<=L.length):(x8 i).map (eW f L)=(L.take i).map f:=by
 unfold eW;rw[MS _ _ _ (by rw[j6];exact hi),List.map_take]
theorem aC {α:Type} (f:α->d8) (L:List α) (i:Nat) (hi:i < L.length):eW f L i=f L[i]:=by
 unfold eW;rw[e8,i7 (by rw[j6];exact hi),aO];rfl
theorem NT {a:Option Addr} {n c b:Nat} {L:List O7} (k:Nat) (w:World) (hc:(Hp.whole w).cell? ⟨b,0,none⟩=some (.slice a n c)) (hL:Sl (E0 P2) 4 (Hp.whole w) a n c L) (hk:k < L.length) :
  j2 Tryz.prog 119 #[iQ k,pQ b] w (v8 w (sv (eW (·.1) L k))):=by
 rw[aC _ _ _ hk];refine enterZ (cx 9) [iQ k,pQ b] [.tmp 3] Tryz.func119 ?_;refine lQ 0 hc ?_;refine R2 cQ (e:=48) rfl hL k rfl hk λb9 o9 cs hcs hR hcell=>?_;subst hR;refine lQ 0 (hcell 0 _ rfl) ?_;exact⟨[],⟨rfl,rfl⟩,pk [0]⟩
def SU {α:Type} (l:List α) (nm:α->d8) (f:α->Int) (i:Nat):Int:=match l[i]? with | some x=>qB (xT ((l.take i).map nm) (nm x)) (f x) | none=>0
theorem uC {α:Type} {l:List α} {nm:α->d8} {f:α->Int} {i:Nat} (hi:i < l.length):SU l nm f i=qB (xT ((l.take i).map nm) (nm l[i])) (f l[i]):=by unfold SU;rw[i7 hi]
theorem uB {α:Type} (most:Nat) (l:List α) (nm:α->d8) (f:α->Int):bA most l nm f=if most < l.length then 6 else qE (SU l nm f) l.length:=rfl
set_option maxRecDepth 10000 in
theorem qK {a:Option Addr} {n c:Nat} {L:List O7} (i:Nat) (w:World) (hL:Sl (E0 P2) 4 (Hp.whole w) a n c L) (hn:L.length < 1000000) (hi:i < L.length) :
  j2 Tryz.prog 47 #[.slice a n c,iQ i] w (v8 w (iQ (SU L (·.1) xZ i))):=by
 rw[uC hi];obtain⟨d,hd⟩ :∃d,d=L[i]:=⟨_,rfl⟩
 have hnm:xT ((x8 i).map (eW (·.1) L)) (eW (·.1) L i)=xT ((L.take i).map (·.1)) d.1:=by rw[gK _ _ _ om,aC _ _ _ hi,hd]
 rw[<-hd];obtain⟨nm,d1,d2,d3⟩:=d;dsimp only at hnm ⊢;have hE:xZ (nm,d1,d2,d3)=if (aF d1 1073741824 || (aF d2 1073741824 || aF d3 1073741824))=true then 2 else if d3 < d2 then 8 else 0:=rfl
 refine enterZ (cx 40) [.slice a n c,iQ i] [.tmp 4] Tryz.func47 ?_;intro b2;refine R2 cQ (e:=48) rfl hL i rfl hi λb9 o9 cs hcs hR hcell=>?_;rw[<-hd] at hR;subst hR;refine nX cQ (i:=0) rfl hcell rfl ?_;intro b5;refine k7 _ (λw' hm=>gM (K:=119) (p:=pQ b2) (nm:=eW (λd:O7=>d.1) L) i om w' (λk hk w2 h2=>NT k w2 ((h2.le (hm 1 _ rfl).whole).whole.cell (bT b2 _ _)) (hL.mono (j7 _) (h2.le (hm 0 _ rfl).whole).whole) om)) ?_;rw[hnm];refine d9 (λh2=>?_) λh2=>?_
 ·rw[iL h2];exact⟨[],⟨rfl,rfl⟩,pk [0]⟩
 have h2:xT ((L.take i).map (·.1)) nm=0:=j3 h2;rw[h2,O5,hE];refine k7 _ (λw' hm=>sS d1 1073741824 dc dc w') ?_;refine v7 (λh3=>?_) λh3=>?_
 ·rw[lY] at h3;rw[if_pos (by rw[h3];rfl)];exact⟨[],⟨rfl,rfl⟩,pk [0]⟩
 rw[lY] at h3;refine k7 _ (λw' hm=>sS d2 1073741824 dc dc w') ?_;refine v7 (λh4=>?_) λh4=>?_
 ·rw[lY] at h4;rw[if_pos (by rw[h4,h3];rfl)];exact⟨[],⟨rfl,rfl⟩,pk [0]⟩
 rw[lY] at h4;refine k7 _ (λw' hm=>sS d3 1073741824 dc dc w') ?_;refine v7 (λh5=>?_) λh5=>?_
 ·rw[lY] at h5;rw[if_pos (by rw[h5,h4,h3];rfl)];exact⟨[],⟨rfl,rfl⟩,pk [0]⟩
 rw[lY] at h5;rw[if_neg (by rw[h5,h4,h3];decide)];refine d9 (λh6=>?_) λh6=>?_
 ·rw[if_pos om];exact⟨[],⟨rfl,rfl⟩,pk [0]⟩
 ·rw[if_neg om];exact⟨[],⟨rfl,rfl⟩,pk [0]⟩
end Go.Proofs.YtpjhmeicbjkcdaaGreatDoor
namespace Go.Proofs.YtpjhmeicbjkcdaaGreatDoor
open Go Go.RowKit Go.Dw
theorem MX {a:Option Addr} {n c b:Nat} {L:List V9} (k:Nat) (w:World) (hc:(Hp.whole w).cell? ⟨b,0,none⟩=some (.slice a n c)) (hL:Sl cN 3 (Hp.whole w) a n c L) (hk:k < L.length) :
  j2 Tryz.prog 110 #[iQ k,pQ b] w (v8 w (sv (eW (λp:V9=>p.1) L k))):=by
 rw[aC _ _ _ hk];refine enterZ (cx 9) [iQ k,pQ b] [.tmp 3] Tryz.func110 ?_;refine lQ 0 hc ?_;refine R2 cQ (e:=83) rfl hL k rfl hk λb9 o9 cs hcs hR hcell=>?_;obtain⟨a3,n3,c3,rfl,hs3⟩:=hR;refine lQ 0 (hcell 0 _ rfl) ?_;exact⟨[],⟨rfl,rfl⟩,pk [0]⟩
theorem XY (x:Int) (w:World):j2 Tryz.prog 112 #[iQ x] w (v8 w (.bool (aF x 4096))):=by
 refine enterZ (cx 6) [iQ x] [.tmp 2] Tryz.func112 ?_;refine k7 _ (λw' hm=>sS x 4096 dc dc w') ?_;exact⟨[],⟨by rw[lY],rfl⟩,pk [0]⟩
structure Ej (p:V9):Prop where
 len:p.2.2.length < 1000000
 cel :∀x∈p.2.2,x.length < 1000000
theorem BB {f:Nat->Int} {k n:Nat} (hz :∀j,j < k->f j=0) (hk:k < n) {e:Int} (he:f k=e) (h0:e≠0):qE f n=e:=by rw[yP hz (by rw[he];exact h0) hk,he]
set_option maxRecDepth 10000 in
set_option maxHeartbeats 1000000 in
theorem BM {a:Option Addr} {n c:Nat} {L:List V9} (i:Nat) (w:World) (hL:Sl cN 3 (Hp.whole w) a n c L) (hn:L.length < 1000000) (hi:i < L.length) (hs :∀p∈L,Ej p) :
  j2 Tryz.prog 41 #[.slice a n c,iQ i] w (v8 w (iQ (SU L (·.1) xR i))):=by
 rw[uC hi];obtain⟨d,hd⟩ :∃d,d=L[i]:=⟨_,rfl⟩
 have hds:Ej d:=hs d (by rw[hd];exact j5 hi);have hnm:xT ((x8 i).map (eW (λp:V9=>p.1) L)) (eW (λp:V9=>p.1) L i)=xT ((L.take i).map (λp:V9=>p.1)) d.1:=by rw[gK _ _ _ om,aC _ _ _ hi,hd]
 rw[<-hd];obtain⟨nm,cap,cells⟩:=d;obtain⟨hs1,hs2⟩:=hds;dsimp only at hnm hs1 hs2 ⊢;have hE:xR (nm,cap,cells)=if cap < 1\/1048576 < cap then 2 else if 6 < cells.length then 6 else qE (λi=>LE (cells.getD i [])) cells.length:=rfl
 refine enterZ (cx 57) [.slice a n c,iQ i] [.tmp 4] Tryz.func41 ?_;intro b2;refine R2 cQ (e:=83) rfl hL i rfl hi λb9 o9 cs hcs hR hcell=>?_;rw[<-hd] at hR;have hR :∃a n c,cs = [sv nm,iQ cap,.slice a n c]/\Sl GW 1 (Hp.whole w) a n c cells:=hR;obtain⟨a3,n3,c3,rfl,hs3⟩:=hR;have hl3:=hs3.len;refine nX cQ (i:=0) rfl hcell rfl ?_;intro b5;refine k7 _ (λw' hm=>gM (K:=110) (p:=pQ b2) (nm:=eW (λp:V9=>p.1) L) i om w' (λk hk w2 h2=>MX k w2 ((h2.le (hm 1 _ rfl).whole).whole.cell (bT b2 _ _)) (hL.mono J0 (h2.le (hm 0 _ rfl).whole).whole) om)) ?_;rw[hnm];refine d9 (λh2=>?_) λh2=>?_
 ·rw[iL h2];exact⟨[],⟨rfl,rfl⟩,pk [0]⟩
 have h2:xT ((L.take i).map (λp:V9=>p.1)) nm=0:=j3 h2;rw[h2,O5,hE];refine d9 (λh3=>?_) λh3=>?_
 ·rw[if_pos (Or.inl h3)];exact⟨[],⟨rfl,rfl⟩,pk [0]⟩
 refine d9 (λh4=>?_) λh4=>?_
 ·rw[if_pos (Or.inr h4)];exact⟨[],⟨rfl,rfl⟩,pk [0]⟩
 rw[if_neg om];refine d9 (λh5=>?_) λh5=>?_
 ·rw[if_pos om];exact⟨[],⟨rfl,rfl⟩,pk [0]⟩
 rw[if_neg om];refine z6.mk Nat (λk=>[(36,.v (.slice a3 n3 c3)),(37,.v (iQ n3)),(38,.v (iQ k))]) (λ_=>[.hp (Hp.whole w)])
  (λk=>k<=n3/\∀j,j < k->LE (cells.getD j [])=0) (λk=>n3 - k) 0 ⟨j0 _,λj hj=>absurd hj (M1 _)⟩ (y6.mk (pj [0]) rfl rfl) ?_
 rintro k ⟨hk,hz⟩;dsimp only at hk hz ⊢;refine d9 (λh6=>?_) λh6=>?_
 ·have hkl:k < cells.length:=om
  obtain⟨x,hx⟩ :∃x,x=cells[k]:=⟨_,rfl⟩
  have hxs:x.length < 1000000:=hs2 x (by rw[hx];exact j5 hkl);have hgd:cells.getD k []=x:=by rw[e8,i7 hkl,hx];rfl
  have hK:LE (cells.getD k [])=if 16 < x.length then 6 else if x.any vE=true then 2 else 0:=by rw[hgd];rfl
  refine R2 cQ (e:=86) rfl hs3 k rfl hkl λb9 o9 cs hcs hR hcell7=>?_;rw[<-hx] at hR;obtain⟨a4,n4,c4,rfl,hs4⟩:=hR;have hl4:=hs4.len;refine nX cQ (i:=0) rfl hcell7 rfl ?_;intro b8;refine d9 (λh8=>?_) λh8=>?_
  ·rw[if_pos om] at hK;rw[BB hz hkl hK dc];exact⟨[],⟨rfl,rfl⟩,pk [0]⟩
  rw[if_neg om] at hK;refine z6.mk Nat (λj=>[(36,.v (.slice a3 n3 c3)),(37,.v (iQ n3)),(38,.v (iQ k)),(47,.v (.slice a4 n4 c4)),(48,.v (iQ n4)),(49,.v (iQ j))]) (λ_=>[.hp (Hp.whole w)])
   (λj=>j<=n4/\∀y∈x.take j,vE y=false) (λj=>n4 - j) 0 ⟨j0 _,sQ⟩ (y6.mk (pj [0]) rfl rfl) ?_
  rintro j ⟨hj,hv⟩;dsimp only at hj hv ⊢;refine d9 (λh9=>?_) λh9=>?_
  ·have hjl:j < x.length:=om
   obtain⟨v,hvv⟩ :∃v,v=x[j]:=⟨_,rfl⟩
   have hvm:v∈x:=by rw[hvv];exact j5 hjl
   refine R2 cQ (e:=122) rfl hs4 j rfl hjl λb9 o9 cs hcs hR hcell10=>?_;rw[<-hvv] at hR;obtain⟨v1,v2,v3⟩:=v;have hR:cs = [iQ v1,iQ v2,iQ v3]:=hR;subst hR;refine nX cQ (i:=0) rfl hcell10 rfl ?_;intro b10;refine Lt cQ rfl rfl (e:=3) rfl ?_;refine k7 _ (λw' hm=>cF (L:=[v1,v2,v3]) 112 (λz=>aF z 4096) w' (Ev (f:=Jc) (off:=0) (cs:=[iQ v1,iQ v2,iQ v3]) (L:=[v1,v2,v3]) (hm 1 _ rfl) (λ_=>rfl) (λi hi j v hj=>by
    match i,j,hi,hj with
    | 0,0,_,hj=>exact hj
    | 1,0,_,hj=>exact hj
    | 2,0,_,hj=>exact hj)) dc (λw2 _ z _=>XY z w2)) ?_
   refine v7 (λh11=>?_) λh11=>?_
   ·have:vE (v1,v2,v3)=true:=by unfold vE;simpa using h11
    rw[if_pos (E5.2 ⟨_,hvm,this⟩)] at hK;rw[BB hz hkl hK dc];exact⟨[],⟨rfl,rfl⟩,pk [0]⟩
   ·have:vE (v1,v2,v3)=false:=by unfold vE;simpa using h11
    refine nwo ?_;exact⟨j+1,⟨om,Z9 (P:=λy=>vE y=false) hjl hv (by rw[<-hvv];exact this)⟩,by (try dsimp only);omega,y6.mk (pj [0]) rfl rfl⟩
  ·have:x.any vE=false:=by
    rw[K8];intro y hy;rw[o6 om] at hv;rw[hv y hy];decide
   rw[if_neg (by rw[this];decide)] at hK;refine nwo ?_;exact⟨k+1,⟨om,λj hj=>(M9 j k).elim (hz j) (λg=>by rw[show j=k by omega];exact hK)⟩,by (try dsimp only);omega,y6.mk (pj [0]) rfl rfl⟩
 ·rw[Y4.2 (λj hj=>hz j om)];exact⟨[],⟨rfl,rfl⟩,pk [0]⟩
end Go.Proofs.YtpjhmeicbjkcdaaGreatDoor
namespace Go.Proofs.YtpjhmeicbjkcdaaGreatDoor
open Go Go.RowKit Go.Dw
theorem NM {a:Option Addr} {n c b:Nat} {L:List lW} (k:Nat) (w:World) (hc:(Hp.whole w).cell? ⟨b,0,none⟩=some (.slice a n c)) (hL:Sl (E0 fF) 9 (Hp.whole w) a n c L) (hk:k < L.length) :
  j2 Tryz.prog 114 #[iQ k,pQ b] w (v8 w (sv (eW (λp:lW=>p.1) L k))):=by
 rw[aC _ _ _ hk];refine enterZ (cx 9) [iQ k,pQ b] [.tmp 3] Tryz.func114 ?_;refine lQ 0 hc ?_;refine R2 cQ (e:=93) rfl hL k rfl hk λb9 o9 cs hcs hR hcell=>?_;subst hR;refine lQ 0 (hcell 0 _ rfl) ?_;exact⟨[],⟨rfl,rfl⟩,pk [0]⟩
theorem NL {b:Nat} {p:V9} {pt:d8} {cs:List Value} (w:World) (hp:Gm p cs) (hc:(Hp.whole w).cell? ⟨b,1,none⟩=some (sv pt)) :
  j2 Tryz.prog 116 #[.agg cs.toArray,pQ b] w (v8 w (.bool (decide (p.1=pt)))):=by
 obtain⟨a,n,c,rfl⟩:=hp;refine enterZ (cx 9) [.agg #[sv p.1,iQ p.2.1,.slice a n c],pQ b] [.tmp 3] Tryz.func116 ?_;intro b2;refine lQ 0 hc ?_;refine dL ?_;exact⟨[],⟨rfl,rfl⟩,pk [0]⟩
theorem NR (x:Int) (w:World):j2 Tryz.prog 117 #[iQ x] w (v8 w (.bool (aF x 12))):=by
 refine enterZ (cx 6) [iQ x] [.tmp 2] Tryz.func117 ?_;refine k7 _ (λw' hm=>sS x 12 dc dc w') ?_;exact⟨[],⟨by rw[lY],rfl⟩,pk [0]⟩
structure Ep (x:lW):Prop where
 o1:x.2.2.2.1.length < 1000000
 o2:x.2.2.2.2.1.length < 1000000
 o3:x.2.2.2.2.2.length < 1000000
set_option maxRecDepth 10000 in
set_option maxHeartbeats 1000000 in
theorem sF {a1 a2:Option Addr} {n1 c1 n2 c2:Nat} {P:List V9} {L:List lW} (i:Nat) (w:World) (hP:Sl cN 3 (Hp.whole w) a1 n1 c1 P) (hL:Sl (E0 fF) 9 (Hp.whole w) a2 n2 c2 L) (hpn:P.length < 1000000) (hn:L.length < 1000000) (hi:i < L.length) (hs :∀p∈L,Ep p) :
  j2 Tryz.prog 44 #[.agg #[.slice a1 n1 c1,.slice a2 n2 c2],iQ i] w (v8 w (iQ (SU L (·.1) (xX (P.map (·.1))) i))):=by
 rw[uC hi];have hlP:=hP.len;obtain⟨d,hd⟩ :∃d,d=L[i]:=⟨_,rfl⟩
 have hds:Ep d:=hs d (by rw[hd];exact j5 hi);have hnm:xT ((x8 i).map (eW (λp:lW=>p.1) L)) (eW (λp:lW=>p.1) L i)=xT ((L.take i).map (λp:lW=>p.1)) d.1:=by rw[gK _ _ _ om,aC _ _ _ hi,hd]
 rw[<-hd];obtain⟨nm,pt,⟨r1,r2,r3,r4⟩,o1,o2,o3⟩:=d;obtain⟨hs1,hs2,hs3⟩:=hds;dsimp only at hnm hs1 hs2 hs3 ⊢;have hE:xX (P.map (·.1)) (nm,pt,(r1,r2,r3,r4),o1,o2,o3)=if pt∉P.map (·.1) then 16 else if (aF r1 12 || (aF r2 12 || (aF r3 12 || aF r4 12)))=true then 2 else qB (H5 o1) (qB (H5 o2) (H5 o3)):=rfl
 have hany:P.any (λp=>decide (p.1=pt))=decide (pt∈P.map (·.1)):=by
  rw[T7,E5,decide_eq_true_eq,y7];exact⟨λ⟨p,h1,h2⟩=>⟨p,h1,of_decide_eq_true h2⟩,λ⟨p,h1,h2⟩=>⟨p,h1,decide_eq_true h2⟩⟩
 refine enterZ (cx 45) [.agg #[.slice a1 n1 c1,.slice a2 n2 c2],iQ i] [.tmp 4] Tryz.func44 ?_;intro b2;refine u6.cut (Nat×Nat) (λg=>[(1,.v (iQ i)),(2,.bx 1 0),(5,.bx 2 0),(6,.bx 3 0)]) (λg=>[.hp (Hp.whole w),.box b2 [.slice a1 n1 c1,.slice a2 n2 c2] 25,.box g.1 [.slice a2 n2 c2] 23,.box g.2 [sv nm,sv pt,iQ r1,iQ r2,iQ r3,iQ r4,sv o1,sv o2,sv o3] 93]) (λ_=>True) (u6.by_order cQ (.take 0 <| .take 1 <| .take 2 <| .take 3 <| .take 4 <| .take 5 <| .take 6 <| .two 7 (.run 8 <| .run 9 <| .run 10 <| .done) 8 (.run 7 <| .run 9 <| .run 10 <| .done)) kr ?_) ?_
 ·refine R2 cQ (e:=93) rfl hL i rfl hi λb9 o9 cs hcs hR hcell1=>?_;rw[<-hd] at hR;have hR:cs = [sv nm,sv pt,iQ r1,iQ r2,iQ r3,iQ r4,sv o1,sv o2,sv o3]:=hR;subst hR;refine nX cQ (i:=0) rfl hcell1 rfl ?_;constructor
  ·intro b5;refine⟨sK,?_⟩;intro b6;(iterate 2 refine⟨sK,?_⟩);exact⟨(b5,b6),trivial,y6.mk (pj [0,1,2,3]) rfl rfl⟩
  ·intro b6;refine⟨sK,?_⟩;intro b5;(iterate 2 refine⟨sK,?_⟩);exact⟨(b5,b6),trivial,y6.mk (pj [0,1,3,2]) rfl rfl⟩
 rintro⟨b5,b6⟩ _ hsat;dsimp only;refine k7 _ (λw' hm=>gM (K:=114) (p:=pQ b5) (nm:=eW (λp:lW=>p.1) L) i om w' (λk hk w2 h2=>NM k w2 ((h2.le (hm 2 _ rfl).whole).whole.cell (bT b5 _ _)) (hL.mono (j7 _) (h2.le (hm 0 _ rfl).whole).whole) om)) ?_;rw[hnm];refine d9 (λh2=>?_) λh2=>?_
 ·rw[iL h2];exact⟨[],⟨rfl,rfl⟩,pk [0]⟩
 have h2:xT ((L.take i).map (λp:lW=>p.1)) nm=0:=j3 h2;rw[h2,O5,hE];refine k7 _ (λw' hm=>cE 116 (pQ b6) (λp=>decide (p.1=pt)) w' (hP.mono J0 (hm 0 _ rfl).whole) om (λw2 h2 p _ cs _ hp=>NL w2 hp ((h2.le (hm 3 _ rfl).whole).whole.cell (by simp[Hp.cell?,Ch.h,Hp.one])))) ?_;rw[hany];refine v7 (λh3=>?_) λh3=>?_
 ·rw[if_pos (by simpa using h3)];exact⟨[],⟨rfl,rfl⟩,pk [0]⟩
 rw[if_neg (by simpa using h3)];refine Lt cQ rfl rfl (e:=3) rfl ?_;refine k7 _ (λw' hm=>cF (L:=[r1,r2,r3,r4]) 117 (λz=>aF z 12) w' (Ev (f:=Jc) (off:=2) (cs:=[sv nm,sv pt,iQ r1,iQ r2,iQ r3,iQ r4,sv o1,sv o2,sv o3]) (L:=[r1,r2,r3,r4]) (hm 3 _ rfl) (λ_=>rfl) (λi hi j v hj=>by
  match i,j,hi,hj with
  | 0,0,_,hj=>exact hj
  | 1,0,_,hj=>exact hj
  | 2,0,_,hj=>exact hj
  | 3,0,_,hj=>exact hj)) dc (λw2 _ z _=>NR z w2)) ?_
 refine v7 (λh4=>?_) λh4=>?_
 ·rw[if_pos (by simpa using h4)];exact⟨[],⟨rfl,rfl⟩,pk [0]⟩
 rw[if_neg (by simpa using h4)];refine z6.mk Nat (λk=>[(35,.v (.agg #[sv o1,sv o2,sv o3])),(36,.v (iQ k))]) (λ_=>[.hp (Hp.whole w)])
  (λk=>k<=3/\(0 < k->H5 o1=0)/\(1 < k->H5 o2=0)/\(2 < k->H5 o3=0)) (λk=>3 - k) 0 ⟨j0 _,λh=>absurd h dc,λh=>absurd h dc,λh=>absurd h dc⟩ (y6.mk (pj [0]) rfl rfl) ?_
 rintro k ⟨hk,g1,g2,g3⟩;match k,hk with
 | 0,_=>
  refine Ns cQ rfl rfl (n:=3) rfl rfl (cs:=[sv o1,sv o2,sv o3]) (j:=0) rfl dc rfl ?_;refine k7 _ (λw' hm=>cL o1 hs1 w') ?_;refine d9 (λq1=>?_) λq1=>?_
  ·rw[iL q1];exact⟨[],⟨rfl,rfl⟩,pk [0]⟩
  ·have q1:H5 o1=0:=j3 q1;refine nw dc dc ?_;exact⟨1,⟨dc,λ_=>q1,λh=>absurd h dc,λh=>absurd h dc⟩,by (try dsimp only);omega,y6.mk (pj [0]) rfl rfl⟩
 | 1,_=>
  rw[g1 dc,O5];refine Ns cQ rfl rfl (n:=3) rfl rfl (cs:=[sv o1,sv o2,sv o3]) (j:=1) rfl dc rfl ?_;refine k7 _ (λw' hm=>cL o2 hs2 w') ?_;refine d9 (λq1=>?_) λq1=>?_
  ·rw[iL q1];exact⟨[],⟨rfl,rfl⟩,pk [0]⟩
  ·have q1:H5 o2=0:=j3 q1;refine nw dc dc ?_;exact⟨2,⟨dc,λ_=>rfl,λ_=>q1,λh=>absurd h dc⟩,by (try dsimp only);omega,y6.mk (pj [0]) rfl rfl⟩
 | 2,_=>
  rw[g1 dc,O5,g2 dc,O5];refine Ns cQ rfl rfl (n:=3) rfl rfl (cs:=[sv o1,sv o2,sv o3]) (j:=2) rfl dc rfl ?_;refine k7 _ (λw' hm=>cL o3 hs3 w') ?_;refine d9 (λq1=>?_) λq1=>?_
  ·exact⟨[],⟨rfl,rfl⟩,pk [0]⟩
  ·have q1:H5 o3=0:=j3 q1;refine nw dc dc ?_;exact⟨3,⟨dc,λ_=>rfl,λ_=>rfl,λ_=>q1⟩,by (try dsimp only);omega,y6.mk (pj [0]) rfl rfl⟩
 | 3,_=>
  rw[g1 dc,O5,g2 dc,O5,g3 dc];exact⟨[],⟨rfl,rfl⟩,pk [0]⟩
end Go.Proofs.YtpjhmeicbjkcdaaGreatDoor
namespace Go.Proofs.YtpjhmeicbjkcdaaGreatDoor
open Go Go.RowKit Go.Dw
theorem zJ :∀(M:List Nat) (j d:Nat) (hj:j < M.length),q7 (M.set j d)+Bs ^ j*M[j]=q7 M+Bs ^ j*d
 | [],j,d,hj=>absurd hj (M1 _)
 | x::M,0,d,hj=>by
  show d+Bs*q7 M+1*x=x+Bs*q7 M+1*d
  omega
 | x::M,j+1,d,hj=>by
  have ih:=zJ M j d (by simpa using hj);show x+Bs*q7 (M.set j d)+Bs ^ (j+1)*M[j]'(by simpa using hj)=x+Bs*q7 M+Bs ^ (j+1)*d
  rw[K6,m8 (Bs ^ j) Bs,A0,A0];have e:=congrArg (Bs * ·) ih;simp only[B7] at e;omega
theorem O4.set {M:List Nat} (h:O4 M) {j d:Nat} (hd:d < Bs):O4 (M.set j d):=λx hx=>by
 rcases List.mem_or_eq_of_mem_set hx with g | g
 ·exact h x g
 ·rw[g];exact hd
structure HM (La Lb:List Nat) (i x k c:Nat) (M:List Nat):Prop where
 len:M.length=La.length+Lb.length
 lim:O4 M
 car:c < Bs
 val:q7 M+Bs ^ (i+k)*c=q7 (La.take i)*q7 Lb+Bs ^ i*(x*q7 (Lb.take k))
 tail :∀j (hj:j < M.length),i+Lb.length<=j->M[j]=0
theorem WY {a b p q c m t d e:Nat} (ht:t=c+(a*b+m)) (he:t=d+Bs*e) {v v':Nat} (hs:v'+p*m=v+p*d) (hv:v+p*c=q):v'+p*Bs*e=q+p*(a*b):=by
 have h1:p*t=p*d+p*Bs*e:=by rw[he,B7,A0]
 have h2:p*t=p*c+(p*(a*b)+p*m):=by rw[ht,B7,B7]
 omega
theorem HM.step {La Lb:List Nat} {i x k c:Nat} {M:List Nat} (h:HM La Lb i x k c M) (hx:x < Bs) (hk:k < Lb.length) (hlb:O4 Lb) (hj:i+k < M.length) :
  c+(x*Lb[k]+M[i+k]) < Bs*Bs/\HM La Lb i x (k+1) ((c+(x*Lb[k]+M[i+k])) / Bs) (M.set (i+k) ((c+(x*Lb[k]+M[i+k])) % Bs)):=by
 have hy:=hlb Lb[k] (j5 hk);have hm:=h.lim M[i+k] (j5 hj);have hc:=h.car;have hxy:x*Lb[k]<=(Bs - 1)*(Bs - 1):=P8 om om;have hB:(Bs - 1)*(Bs - 1)=Bs*Bs - 2*Bs+1:=by unfold Bs;rfl
 have hlt:c+(x*Lb[k]+M[i+k]) < Bs*Bs:=by unfold Bs at *;omega
 refine⟨hlt,by rw[M3];exact h.len,h.lim.set (A6 _ (by unfold Bs;omega)),Nat.div_lt_of_lt_mul hlt,?_,λj hj2 hj3=>?_⟩
 ·have hs:=zJ M (i+k) ((c+(x*Lb[k]+M[i+k])) % Bs) hj;have:=WY (a:=x) (b:=Lb[k]) (p:=Bs ^ (i+k)) (d:=(c+(x*Lb[k]+M[i+k])) % Bs) (e:=(c+(x*Lb[k]+M[i+k])) / Bs) rfl (by have:=Nat.mod_add_div (c+(x*Lb[k]+M[i+k])) Bs;omega) hs h.val;rw[show i+(k+1)=(i+k)+1 by omega,K6,this,I9 Lb k hk,X8,j1,T6 om,B7,B7,jR];have:Bs ^ i*Bs ^ k*(x*Lb[k])=Bs ^ i*(x*(Bs ^ k*Lb[k])):=by rw[A0,lS (Bs ^ k) x]
  omega
 ·rw[It,if_neg om];exact h.tail j (by rw[M3] at hj2;exact hj2) hj3
theorem HM.done {La Lb:List Nat} {i c:Nat} {M:List Nat} (hi:i < La.length) (h:HM La Lb i La[i] Lb.length c M) (hj:i+Lb.length < M.length):(M.set (i+Lb.length) c).length=La.length+Lb.length/\O4 (M.set (i+Lb.length) c)/\
  q7 (M.set (i+Lb.length) c)=q7 (La.take (i+1))*q7 Lb/\∀j (hj:j < (M.set (i+Lb.length) c).length),i+1+Lb.length<=j->(M.set (i+Lb.length) c)[j]=0:=by
 refine⟨by rw[M3];exact h.len,h.lim.set h.car,?_,λj hj2 hj3=>?_⟩
 ·have hs:=zJ M (i+Lb.length) c hj;rw[h.tail _ hj (j8 _),lP,E7,h.val,q8] at hs;rw[hs,I9 La i hi,X8,j1,T6 om,D2,A0]
 ·rw[It,if_neg om];exact h.tail j (by rw[M3] at hj2;exact hj2) om
theorem HM.start {La Lb:List Nat} {i x:Nat} {M:List Nat} (h1:M.length=La.length+Lb.length) (h2:O4 M) (h3:q7 M=q7 (La.take i)*q7 Lb) (h4 :∀j (hj:j < M.length),i+Lb.length<=j->M[j]=0):HM La Lb i x 0 0 M:=
 ⟨h1,h2,by unfold Bs;omega,by rw[h3,Q0];show _+0=_+Bs ^ i*(x*0);simp,h4⟩
theorem zG :∀n,q7 (m6 n 0)=0
 | 0=>rfl
 | n+1=>by show 0+Bs*q7 (m6 n 0)=0;rw[zG n];rfl
set_option maxRecDepth 10000 in
set_option maxHeartbeats 1000000 in
theorem uX {g1 g2:Bool} {a1 a2:Option Addr} {n1 c1 n2 c2 x y:Nat} {La Lb:List Nat} (w:World) (ha:Sl (E0 fW) 1 (Hp.whole w) a1 n1 c1 La) (hb:Sl (E0 fW) 1 (Hp.whole w) a2 n2 c2 Lb) (hca:fX La x) (hcb:fX Lb y) (h1:La.length < 300000) (h2:Lb.length < 300000) :
  j2 Tryz.prog 146 #[T8 g1 a1 n1 c1,T8 g2 a2 n2 c2] w (fQ w λv cs=>∃g a n c,v=T8 ((!(g1==g2)) && decide (0 < x*y)) a n c/\cs = [.hp g]/\cA g (.slice a n c) (x*y)):=by
 have hla:=ha.len;have hlb:=hb.len;refine enterZ (cx 77) [T8 g1 a1 n1 c1,T8 g2 a2 n2 c2] [.cell 4 139] Tryz.func146 ?_;intro b2 b3 b4;refine nwo ?_;refine Hj (f:=fW) cQ (e:=247) rfl (La.length+Lb.length) 0 rfl om om rfl om λo18 ho18n ho18=>?_;refine z6.mk (Nat×Dw.Os×List Nat) (λg=>[(2,.bx 1 0),(3,.bx 2 0),(4,.bx 3 0),(5,.v g.2.1.v),(20,.v (.slice a1 n1 c1)),(21,.v (iQ n1)),(22,.v (iQ g.1))])
  (λg=>[.hp (Hp.whole w),.box b2 [.bool g1,.slice a1 n1 c1] 139,.box b3 [.bool g2,.slice a2 n2 c2] 139,.box b4 [.bool false,zl] 139,.hp g.2.1.h])
  (λg=>g.1<=La.length/\w5 fW 247 1 g.2.1 g.2.2/\(g.2.2.length=La.length+Lb.length/\O4 g.2.2/\q7 g.2.2=q7 (La.take g.1)*q7 Lb/\∀j (hj:j < g.2.2.length),g.1+Lb.length<=j->g.2.2[j]=0)) (λg=>La.length - g.1) (0,o18,m6 (La.length+Lb.length) 0)
  ⟨j0 _,ho18,O1,λd hd=>by rw[List.eq_of_mem_replicate hd];unfold Bs;omega,by rw[zG,Q0];exact (bV _).symm,λj hj _=>by simp⟩ (y6.mk (λ_ _ h=>h) rfl rfl) ?_
 rintro⟨i,o,M⟩ ⟨hi,ho,hM1,hM2,hM3,hM4⟩;dsimp only at hi ho hM1 hM2 hM3 hM4 ⊢;refine d9 (λh3=>?_) λh3=>?_
 ·have hi':i < La.length:=om
  have hxB:=hca.l La[i] (j5 hi');refine R2 cQ (e:=247) rfl ha i rfl hi' λb9 o9 cs hcs hR hcell2=>?_;subst hR;refine lQ 0 (hcell2 0 _ rfl) ?_;refine z6.mk (Nat×Nat×Dw.Os×List Nat) (λg=>[(2,.bx 1 0),(3,.bx 2 0),(4,.bx 3 0),(5,.v g.2.2.1.v),(6,.v (iQ i)),(7,.v (.int .u32 La[i])),(8,.v (.int .u64 g.2.1)),(20,.v (.slice a1 n1 c1)),(21,.v (iQ n1)),(22,.v (iQ i)),(28,.v (.slice a2 n2 c2)),(29,.v (iQ n2)),(30,.v (iQ g.1))])
   (λg=>[.hp (Hp.whole w),.box b2 [.bool g1,.slice a1 n1 c1] 139,.box b3 [.bool g2,.slice a2 n2 c2] 139,.box b4 [.bool false,zl] 139,.hp g.2.2.1.h])
   (λg=>g.1<=Lb.length/\w5 fW 247 1 g.2.2.1 g.2.2.2/\HM La Lb i La[i] g.1 g.2.1 g.2.2.2) (λg=>Lb.length - g.1) (0,0,o,M)
   ⟨j0 _,ho,HM.start hM1 hM2 hM3 hM4⟩ (y6.mk (λ_ _ h=>h) rfl rfl) ?_
  rintro⟨k,c,o,M⟩ ⟨hk,ho,hI⟩;dsimp only at hk ho hI ⊢;have hIl:=hI.len;have hIc:=hI.car;refine d9 (λh4=>?_) λh4=>?_
  ·have hk':k < Lb.length:=om
   have hyB:=hcb.l Lb[k] (j5 hk');have hj:i+k < M.length:=om
   have hmB:=hI.lim M[i+k] (j5 hj);obtain⟨hlt,hN⟩:=hI.step hxB hk' hcb.l hj;have hxy:La[i]*Lb[k]<=(Bs - 1)*(Bs - 1):=P8 om om;refine R2 cQ (e:=247) rfl hb k rfl hk' λb9 o9 cs hcs hR hcell4=>?_;subst hR;refine lQ 0 (hcell4 0 _ rfl) ?_;refine I8 La[i] rfl (by unfold Bs at hxB;omega) ?_;refine I8 Lb[k] rfl (by unfold Bs at hyB;omega) ?_;refine I8 (La[i]*Lb[k]) sQ (by unfold Bs at hxy;omega) ?_;refine nwo ?_;refine aW cQ (e:=247) rfl rfl ho (i+k) sQ hj λb5 hb5=>?_;refine tY (g:=λx:Nat=>.int .u32 x) (λ_=>rfl) cQ (i:=4) rfl hb5 ho hj rfl ?_;refine I8 M[i+k] rfl (by unfold Bs at hmB;omega) ?_;refine I8 (La[i]*Lb[k]+M[i+k]) sQ (by unfold Bs at hlt;omega) ?_;refine I8 (c+(La[i]*Lb[k]+M[i+k])) sQ (by unfold Bs at hlt;omega) ?_;refine nwo ?_;refine iM (c+(La[i]*Lb[k]+M[i+k])) rfl ?_;refine aW cQ (e:=247) rfl rfl ho (i+k) sQ hj λb6 hb6=>?_;refine mG (g:=λx:Nat=>.int .u32 x) (λ_=>rfl) cQ (i:=4) rfl hb6 ho hj rfl rfl ((c+(La[i]*Lb[k]+M[i+k])) % Bs) rfl rfl rfl λo2 f1 f2 f3 ho2=>?_;refine rF (c+(La[i]*Lb[k]+M[i+k])) 32 rfl rfl dc ?_;refine nwo ?_;refine⟨(k+1,(c+(La[i]*Lb[k]+M[i+k])) / Bs,o2,_),⟨by dsimp only;omega,ho2,hN⟩,by dsimp only;omega,y6.mk (pj [0,1,2,3,4]) ?_ rfl⟩;dsimp only[Os.v];rw[f1,f2,f3];rfl
  ·have hk':k=Lb.length:=om
   subst hk';have hj:i+Lb.length < M.length:=om
   obtain⟨e1,e2,e3,e4⟩:=hI.done hi' hj;refine nwo ?_;refine iM c rfl ?_;rw[C7 (show c < 4294967296 from hIc)];refine aW cQ (e:=247) rfl rfl ho (i+Lb.length) om hj λb6 hb6=>?_;refine mG (g:=λx:Nat=>.int .u32 x) (λ_=>rfl) cQ (i:=4) rfl hb6 ho hj rfl rfl c rfl rfl rfl λo2 f1 f2 f3 ho2=>?_;refine nwo ?_;refine⟨(i+1,o2,_),⟨by dsimp only;omega,ho2,e1,e2,e3,e4⟩,by dsimp only;omega,y6.mk (pj [0,1,2,3,4]) ?_ rfl⟩;dsimp only[Os.v];rw[f1,f2,f3];rfl
 ·have hi':i=La.length:=om
  subst hi';rw[q8,hca.v,hcb.v] at hM3;refine Gs ?_;have ho3:=w5.sl (f:=fW) (sz:=1) (λ_=>rfl) dc ho;have hcan:=U7 hM2;rw[hM3] at hcan;have hz:decide (0 < trN M)=decide (0 < x*y):=by
   rw[decide_eq_decide,<-iH];have:=hcan.zero;rw[<-F7] at this;omega
  refine k7 _ (λw' hm=>aU _ w' (ho3.mono (j7 _) (hm 4 _ rfl).whole) om) ?_;rw[hz];refine⟨[.hp o.h],⟨_,_,_,_,rfl,rfl,_,_,_,_,rfl,iX ho3,hcan,by have:=nB M;rw[iH];omega⟩,pk [0,4]⟩
end Go.Proofs.YtpjhmeicbjkcdaaGreatDoor
namespace Go.Proofs.YtpjhmeicbjkcdaaGreatDoor
open Go Go.RowKit Go.Dw
def qO (h:Hp) (a:Option Addr) (n c x:Nat):Prop:=∃L,Sl (E0 fW) 1 h a n c L/\fX L x/\L.length < 300000
theorem qO.mono {h k:Hp} {a:Option Addr} {n c x:Nat} (hl:h.le k):qO h a n c x->qO k a n c x
 | ⟨L,h1,h2,h3⟩=>⟨L,h1.mono (j7 _) hl,h2,h3⟩
theorem qO.mag {h:Hp} {a:Option Addr} {n c x:Nat}:qO h a n c x->cA h (.slice a n c) x
 | ⟨L,h1,h2,h3⟩=>⟨a,n,c,L,rfl,h1,h2,om⟩
structure LK (h:Hp) (n1:Bool) (a1:Option Addr) (k1 c1:Nat) (a2:Option Addr) (k2 c2:Nat) (x y:Nat):Prop where
 num:qO h a1 k1 c1 x
 den:qO h a2 k2 c2 y
 sg:n1=true->0 < x
theorem LK.mono {h k:Hp} {n1:Bool} {a1:Option Addr} {k1 c1:Nat} {a2:Option Addr} {k2 c2:Nat} {x y:Nat} (hl:h.le k) (r:LK h n1 a1 k1 c1 a2 k2 c2 x y):LK k n1 a1 k1 c1 a2 k2 c2 x y:=⟨r.num.mono hl,r.den.mono hl,r.sg⟩
theorem DQ (w:World):j2 Tryz.prog 195 #[] w (fQ w λv cs=>∃g a n c,v=T8 false a n c/\cs = [.hp g]/\qO g a n c 1):=by
 refine enterZ (cx 2) [] [.cell 0 139] Tryz.func195 ?_;intro b0;refine call (λw' hm=>vN 1 dc dc w') ?_;rintro _ _ ⟨g,a,n,c,L,rfl,rfl,hs,hc⟩;exact⟨[.hp g],⟨g,a,n,c,rfl,rfl,L,hs,hc,by
  rcases M9 L.length 2 with h | h
  ·omega
  ·have:=hc.ge om;have h2:Bs ^ 1<=Bs ^ (L.length - 1):=E9 (by unfold Bs;omega) om;unfold Bs at *;exfalso
   have:Int.natAbs 1=1:=rfl;omega⟩,pk [0,2]⟩
def jL (y:Nat):Nat:=if y=0 then 1 else y
theorem vB {h0:Hp} {n1:Bool} {a1:Option Addr} {k1 c1:Nat} {a2:Option Addr} {k2 c2:Nat} {x y:Nat} (w:World) (hin:h0.In w) (hr0:LK h0 n1 a1 k1 c1 a2 k2 c2 x y) :
  j2 Tryz.prog 147 #[cI n1 a1 k1 c1 false a2 k2 c2] w (fQ w λv cs=>∃g a n c,v=T8 false a n c/\cs = [.hp g]/\∀W,h0.le W->g.le W->qO W a n c (jL y)):=by
 have hr:=hr0.mono hin.whole;refine enterZ (cx 10) [.agg #[.bool n1,.slice a1 k1 c1,.bool false,.slice a2 k2 c2]] [.cell 2 139] Tryz.func147 ?_;intro b1 b2;refine k7 _ (λw' hm=>cG (neg:=false) w' (hr.den.mono (hm 0 _ rfl).whole).mag) ?_;refine d9 (λh1=>?_) λh1=>?_
 ·have hy:y=0:=by
   rcases u9 y with h | h
   ·exact h
   ·rw[if_neg om,if_neg dc] at h1;exact absurd h1 dc
  refine call (λw' hm=>DQ w') ?_;rintro _ _ ⟨g,a,n,c,rfl,rfl,hg⟩;exact⟨[.hp g],⟨g,a,n,c,rfl,rfl,λW _ hW=>by unfold jL;rw[if_pos hy];exact hg.mono hW⟩,pk [0,3]⟩
 ·have hy:y≠0:=λe=>by rw[if_pos e] at h1;exact h1 rfl
  exact⟨[.hp Hp.emp],⟨Hp.emp,a2,k2,c2,rfl,rfl,λW hW _=>by unfold jL;rw[if_neg hy];exact hr0.den.mono hW⟩,λw' h=>Ok.emp (h.pick [0] rfl rfl)⟩
theorem GQ (m:Nat):aE false m=(m:Int):=rfl
theorem zC {n1:Bool} {a1:Option Addr} {k1 c1:Nat} {a2:Option Addr} {k2 c2:Nat} {x y:Nat} (w:World) (hr:LK (Hp.whole w) n1 a1 k1 c1 a2 k2 c2 x y) :
  j2 Tryz.prog 149 #[cI n1 a1 k1 c1 false a2 k2 c2] w (v8 w (.bool (decide (jL y=1)))):=by
 refine enterZ (cx 14) [.agg #[.bool n1,.slice a1 k1 c1,.bool false,.slice a2 k2 c2]] [.tmp 2] Tryz.func149 ?_;intro b1;refine u6.cut Unit (λ_=>[(2,.v (.bool (decide (jL y=1))))]) (λ_=>[.hp (Hp.whole w)]) (λ_=>True) (u6.by_order cQ (.take 0 <| .take 1 <| .run 2 <| .take 3 <| .take 4 <| .take 5 <| .take 6 <| .run 7 <| .run 8 <| .take 9 <| .take 10 <| .take 11 <| .done) kr ?_) ?_
 ·refine k7 _ (λw' hm=>cG (neg:=false) w' (hr.den.mono (hm 0 _ rfl).whole).mag) ?_;refine⟨sK,?_⟩;refine d9 (λh1=>?_) λh1=>?_
  ·have hy:y=0:=by
    rcases u9 y with h | h
    ·exact h
    ·rw[if_neg om,if_neg dc] at h1;exact absurd h1 dc
   (iterate 2 refine⟨sK,?_⟩);subst hy;exact⟨(),trivial,y6.mk (pj [0]) rfl rfl⟩
  ·have hy:y≠0:=λe=>by rw[if_pos e] at h1;exact h1 rfl
   refine call (λw' hm=>DQ w') ?_;rintro _ _ ⟨g,a,n,c,rfl,rfl,hg⟩;refine⟨sK,?_⟩;obtain⟨L1,p1,p2,p3⟩:=hg;obtain⟨L2,q1,q2,q3⟩:=hr.den;refine k7 _ (λw' hm=>cZ (g1:=false) (g2:=false) w' (q1.mono (j7 _) (hm 0 _ rfl).whole) (p1.mono (j7 _) (hm 2 _ rfl).whole) q2 p2 om om nofun nofun) ?_;refine⟨sK,?_⟩;have e:decide (jB (aE false y) (aE false 1)=0)=decide (jL y=1):=by
    rw[decide_eq_decide];rw[GQ,GQ];unfold jB jL;rw[if_neg hy];split
    ·omega
    ·split <;> omega
   refine⟨(),trivial,y6.mk (pj [0]) ?_ rfl⟩;rw[<-e];rfl
 rintro _ _ _;exact⟨[],⟨rfl,rfl⟩,pk [0]⟩
theorem JZ {g:Bool} {x d:Nat}:aE ((!(g==false)) && decide (0 < x*d)) (x*d)=aE g x*d:=by
 cases g with
 | false=>show ((x*d:Nat):Int)=(x:Int)*d;rw[Int.natCast_mul]
 | true=>
  rcases u9 (x*d) with h | h
  ·rw[h];show (0:Int) = -(x:Int)*d
   rw[Int.neg_mul,<-Int.natCast_mul,h];rfl
  ·rw[decide_eq_true h];show -((x*d:Nat):Int) = -(x:Int)*d
   rw[Int.neg_mul,Int.natCast_mul]
theorem Bo {a b:Int} {d e:Nat} (hd:d=1) (he:e=1):jB a b=jB (a*e) (b*d):=by subst hd he;rw[show ((1:Nat):Int)=1 from rfl,Int.mul_one,Int.mul_one]
set_option maxRecDepth 10000 in
theorem cX {m1 m2:Bool} {a1 a2 a3 a4:Option Addr} {k1 c1 k2 c2 k3 c3 k4 c4 x1 y1 x2 y2:Nat} (w:World) (h1:LK (Hp.whole w) m1 a1 k1 c1 a2 k2 c2 x1 y1) (h2:LK (Hp.whole w) m2 a3 k3 c3 a4 k4 c4 x2 y2) :
  j2 Tryz.prog 128 #[cI m1 a1 k1 c1 false a2 k2 c2,cI m2 a3 k3 c3 false a4 k4 c4] w (v8 w (iQ (jB (aE m1 x1*jL y2) (aE m2 x2*jL y1)))):=by
 have hy :∀{y},decide (jL y=1)=false->True:=λ_=>trivial;obtain⟨L1,p1,p2,p3⟩:=h1.num;obtain⟨L3,q1,q2,q3⟩:=h2.num;refine enterZ (cx 27) [.agg #[.bool m1,.slice a1 k1 c1,.bool false,.slice a2 k2 c2],.agg #[.bool m2,.slice a3 k3 c3,.bool false,.slice a4 k4 c4]] [.tmp 4] Tryz.func128 ?_;intro b2 b3;refine k7 _ (λw' hm=>zC w' (h1.mono (hm 0 _ rfl).whole)) ?_;refine d9 (λg1=>?_) λg1=>?_;focus
  refine k7 _ (λw' hm=>zC w' (h2.mono (hm 0 _ rfl).whole)) ?_;refine d9 (λg2=>?_) λg2=>?_
  ·refine k7 _ (λw' hm=>cZ w' (p1.mono (j7 _) (hm 0 _ rfl).whole) (q1.mono (j7 _) (hm 0 _ rfl).whole) p2 q2 om om h1.sg h2.sg) ?_;exact⟨[],⟨by rw[Bo g1 g2],rfl⟩,pk [0]⟩
  focus
   skip
 rotate_left
 focus
  skip
 all_goals
  refine u6.by_order cQ (.take 0 <| .take 1 <| .take 2 <| .take 5 <| .take 6 <| .take 7 <| .run 3 <| .run 4 <| .run 8 <| .run 9 <| .run 10 <| .take 11 <| .done) kr ?_;refine call (λw' hm=>vB w' (hm 0 _ rfl) h2) ?_;rintro _ _ ⟨gd,ad,nd,cd,rfl,rfl,hg⟩;refine⟨sK,?_⟩;refine call (λw' hm=>by
   obtain⟨Ld,d1,d2,d3⟩:=hg _ (hm 0 _ rfl).whole (hm 3 _ rfl).whole;exact uX w' (p1.mono (j7 _) (hm 0 _ rfl).whole) d1 p2 d2 p3 d3) ?_
  rintro _ _ ⟨gm,am,nm,cm,rfl,rfl,hgm⟩;refine⟨sK,?_⟩;refine call (λw' hm=>vB w' (hm 0 _ rfl) h1) ?_;rintro _ _ ⟨ge,ae,ne,ce,rfl,rfl,he⟩;refine⟨sK,?_⟩;refine call (λw' hm=>by
   obtain⟨Ld,d1,d2,d3⟩:=he _ (hm 0 _ rfl).whole (hm 5 _ rfl).whole;exact uX w' (q1.mono (j7 _) (hm 0 _ rfl).whole) d1 q2 d2 q3 d3) ?_
  rintro _ _ ⟨gn,an,nn,cn,rfl,rfl,hgn⟩;refine⟨sK,?_⟩;refine k7 (iQ (jB (aE m1 x1*jL y2) (aE m2 x2*jL y1))) (λw' hm=>by
   obtain⟨_,_,_,Lm,e,u1,u2,u3⟩:=hgm.mono (hm 4 _ rfl).whole;cases e;obtain⟨_,_,_,Ln,e,v1,v2,v3⟩:=hgn.mono (hm 6 _ rfl).whole;cases e;have:=cZ (g1:=(!(m1==false)) && decide (0 < x1*jL y2)) (g2:=(!(m2==false)) && decide (0 < x2*jL y1)) w' u1 v1 u2 v2 om om (λe=>by rw[j4,decide_eq_true_eq] at e;exact e.2) (λe=>by rw[j4,decide_eq_true_eq] at e;exact e.2);rw[JZ,JZ] at this;exact this) ?_
  refine⟨sK,?_⟩;exact⟨[],⟨rfl,rfl⟩,pk [0]⟩
end Go.Proofs.YtpjhmeicbjkcdaaGreatDoor
namespace Go.Proofs.YtpjhmeicbjkcdaaGreatDoor
open Go Go.RowKit Go.Dw
theorem Dv {L:List Nat} {x n:Nat} (h:fX L x) (hx:x < 10 ^ n) (hn:n<=400):L.length < 300000:=by
 rcases u9 L.length with h0 | h0
 ·omega
 ·have h1:=h.ge h0;have h2:10 ^ n<=Bs ^ n:=Nat.pow_le_pow_left (by unfold Bs;decide) n;have h3:Bs ^ (L.length - 1) < Bs ^ n:=om
  have:=(Nat.pow_lt_pow_iff_right (show 1 < Bs by unfold Bs;decide)).1 h3;omega
theorem GL {h:Hp} {a:Option Addr} {n c x m:Nat} (hm:cA h (.slice a n c) x) (hx:x < 10 ^ m) (hm4:m<=400):qO h a n c x:=by
 obtain⟨_,_,_,L,e,h1,h2,h3⟩:=hm;cases e;exact⟨L,h1,h2,Dv h2 hx hm4⟩
abbrev CU:=Bool×(Option Addr×Nat×Nat)×(Option Addr×Nat×Nat)
def fR (r:CU):List Value:=[.bool r.1,.slice r.2.1.1 r.2.1.2.1 r.2.1.2.2,.bool false,.slice r.2.2.1 r.2.2.2.1 r.2.2.2.2]
def UK (s:d8) (h:Hp) (r:CU):Prop:=∃x y,LK h r.1 r.2.1.1 r.2.1.2.1 r.2.1.2.2 r.2.2.1 r.2.2.2.1 r.2.2.2.2 x y/\aE r.1 x=dI s/\(jL y:Int)=dJ s
theorem QQ (s:d8):(J6 s).1.length<=s.length/\(J6 s).2.1.length<=s.length:=by
 unfold J6;split
 ·simp;omega
 ·simp
theorem VU (s:d8):(M4 s).length<=s.length:=by
 unfold M4;split
 ·simp
 ·exact j8 _
theorem SJ {s:d8} (h:H5 s=0):s.length<=400/\(M4 (J6 s).1).all k9=true/\((J6 s).2.2=true->(J6 s).2.1.all k9=true/\P6 (J6 s).2.1≠0):=by
 unfold H5 X9 at h;split at h
 ·cases h
 ·rename_i h1
  split at h
  ·cases h
  ·rename_i h2
   split at h
   ·cases h
   ·rename_i h3
    have hA:bR (M4 (J6 s).1)=true:=by
     cases hd:bR (M4 (J6 s).1) with
     | true=>rfl
     | false=>exact absurd (by rw[hd];rfl) h2
    refine⟨om,?_,λhc=>?_⟩
    ·unfold bR at hA;exact ((j4 _ _).mp hA).2
    ·have hB:bR (J6 s).2.1=true:=by
      cases hd:bR (J6 s).2.1 with
      | true=>rfl
      | false=>exact absurd (by rw[hA,hd,hc];rfl) h2
     unfold bR at hB;have hB:=((j4 _ _).mp hB).2;refine⟨hB,λhz=>h3 ?_⟩;rw[hc,D9,s7];intro c hc2;have h0:=uN.1 hz (c.toNat - 48) (y7.2 ⟨c,hc2,rfl⟩);have:=s7.1 hB c hc2;unfold k9 at this;rw[j4,decide_eq_true_eq,decide_eq_true_eq] at this;have h48:(48:UInt8).toNat<=c.toNat:=this.1;have e48:(48:UInt8).toNat=48:=rfl;exact decide_eq_true (UInt8.toNat_inj.1 om)
theorem Pt {h:Hp} {a:Option Addr} {n c x:Nat} (hm:cA h (.slice a n c) x) (hx :∃m,m<=400/\x < 10 ^ m):qO h a n c x:=by
 obtain⟨m,h4,hx⟩:=hx;exact GL hm hx h4
theorem PD {s:d8} {g:Hp} {v:Value} (h:HH 400 s g v) (hn:H5 s=0) :∃r,v=.tuple #[.agg (fR r).toArray,iQ (H5 s)]/\UK s g r:=by
 obtain⟨n1,a1,k1,c1,a2,k2,c2,x,y,hv,m1,m2,hp,h0,_⟩:=h;obtain⟨e1,e2,e3⟩:=h0 hn;obtain⟨q1,q2,q3⟩:=SJ hn;have l1:=(QQ s).1;have l2:=(QQ s).2;have l3:=VU (J6 s).1;refine⟨(n1,(a1,k1,c1),(a2,k2,c2)),hv,x,y,⟨Pt m1 ?_,Pt m2 ?_,hp⟩,?_,?_⟩
 ·rw[e2];exact⟨_,om,BH q2⟩
 ·rw[e3];split
  ·rename_i hc
   exact⟨_,om,BH (q3 hc).1⟩
  ·exact⟨0,j0 _,Nat.zero_lt_one⟩
 ·unfold dI aE;rw[e1,e2]
 ·unfold dJ jL;rw[e3];by_cases hc:(J6 s).2.2=true
  ·rw[if_pos hc,if_pos hc,if_neg (q3 hc).2]
  ·rw[if_neg hc,if_neg hc];rfl
theorem MN {d:Nat} {a:Option Addr} {n c b:Nat} {L:List kP} (k:Nat) (w:World) (hc:(Hp.whole w).cell? ⟨b,0,none⟩=some (.slice a n c)) (hL:Sl (mK d) 8 (Hp.whole w) a n c L) (hk:k < L.length) :
  j2 Tryz.prog 123 #[iQ k,pQ b] w (v8 w (sv (eW (λp:kP=>p.1) L k))):=by
 rw[aC _ _ _ hk];refine enterZ (cx 9) [iQ k,pQ b] [.tmp 3] Tryz.func123 ?_;refine lQ 0 hc ?_;refine R2 cQ (e:=74) rfl hL k rfl hk λb9 o9 cs hcs hR hcell=>?_;obtain⟨xs,rfl,hx⟩:=hR;refine lQ 0 (hcell 0 _ rfl) ?_;exact⟨[],⟨rfl,rfl⟩,pk [0]⟩
theorem RW {d:Nat} {a:Option Addr} {n c b5 b3:Nat} {L:List kP} (i:Nat) (w:World) (h5:(Hp.whole w).cell? ⟨b5,0,none⟩=some (.slice a n c)) (h3:(Hp.whole w).cell? ⟨b3,0,none⟩=some (iQ i)) (hL:Sl (mK d) 8 (Hp.whole w) a n c L) (hi:i < L.length) (hn:L.length < 1000000) :
  j2 Tryz.prog 122 #[pQ b5,pQ b3] w (v8 w (iQ (xT ((L.take i).map (λp:kP=>p.1)) L[i].1))):=by
 have hnm:xT ((x8 i).map (eW (λp:kP=>p.1) L)) (eW (λp:kP=>p.1) L i)=xT ((L.take i).map (λp:kP=>p.1)) L[i].1:=by rw[gK _ _ _ om,aC _ _ _ hi]
 rw[<-hnm];refine enterZ (cx 6) [pQ b5,pQ b3] [.tmp 2] Tryz.func122 ?_;refine lQ 0 h3 ?_;refine k7 _ (λw' hm=>gM (K:=123) (p:=pQ b5) (nm:=eW (λp:kP=>p.1) L) i om w' (λk hk w2 h2=>MN k w2 ((h2.le (hm 0 _ rfl).whole).whole.cell h5) (hL.mono (O2 d) (h2.le (hm 0 _ rfl).whole).whole) om)) ?_;exact⟨[],⟨rfl,rfl⟩,pk [0]⟩
set_option maxRecDepth 10000 in
theorem RV {d dims:Nat} {x:Ex} {xs:List Value} {a:Option Addr} {c b6 b2:Nat} (w:World) (h6 :∀j v,xs[j]?=some v->(Hp.whole w).cell? ⟨b6,1+j,none⟩=some v) (h2:(Hp.whole w).cell? ⟨b2,3,none⟩=some (.slice a dims c)) (he:bE d (Hp.whole w) x xs) (hx:RA x) (hd:dims < 1000000) :
  j2 Tryz.prog 124 #[pQ b6,pQ b2] w (v8 w (iQ (AZ dims x))):=by
 match d,he with
 | d+1,he=>
 obtain⟨op,f,fac,args⟩:=x;have he':=he;obtain⟨a2,n2,c2,a1,n1,c1,rfl,_⟩:=he;refine enterZ (cx 9) [pQ b6,pQ b2] [.tmp 2] Tryz.func124 ?_;refine nX cQ (i:=0) rfl h6 rfl ?_;refine lQ 0 h2 ?_;refine k7 _ (λw' hm=>oQ w' hd hx (D6 _ _ _ _ _ (hm 0 _ rfl).whole he')) ?_;exact⟨[],⟨rfl,rfl⟩,pk [0]⟩
def LT (s:d8) (h:Hp) (A:List CU):Prop:=(s = []/\A = [])\/(s≠[]/\∃r,A = [r]/\UK s h r)
theorem LT.mono {s:d8} {h k:Hp} {A:List CU} (hl:h.le k):LT s h A->LT s k A
 | .inl e=>.inl e
 | .inr ⟨e,r,h1,x,y,h2,h3,h4⟩=>.inr ⟨e,r,h1,x,y,h2.mono hl,h3,h4⟩
theorem gI {a b:Int}:jB a b > 0↔b < a:=by
 unfold jB;split
 ·omega
 ·split <;> omega
set_option maxRecDepth 10000 in
theorem RU {b7:Nat} {a:Option Addr} {n c:Nat} {A B:List CU} {lo hi:d8} (w:World) (h7:(Hp.whole w).cell? ⟨b7,0,none⟩=some (.slice a n c)) (hL:Sl (E0 fR) 4 (Hp.whole w) a n c (A++B)) (hA:LT lo (Hp.whole w) A) (hB:LT hi (Hp.whole w) B) :
  j2 Tryz.prog 127 #[pQ b7] w (v8 w (iQ (if (lo≠[]/\hi≠[])/\dI hi*dJ lo < dI lo*dJ hi then 8 else 0))):=by
 have hlen:=hL.len;refine enterZ (cx 15) [pQ b7] [.tmp 1] Tryz.func127 ?_;refine u6.cut Bool (λq=>[(1,.v (iQ 0)),(14,.v (.bool q))]) (λ_=>[.hp (Hp.whole w)]) (λq=>q=true↔((lo≠[]/\hi≠[])/\dI hi*dJ lo < dI lo*dJ hi)) (u6.by_order cQ (.take 0 <| .take 1 <| .take 2 <| .take 3 <| .take 4 <| .take 5 <| .take 6 <| .take 7 <| .take 8 <| .take 9 <| .run 10 <| .take 11 <| .take 12 <| .done) kr ?_) ?_
 ·refine lQ 0 h7 ?_;refine d9 (λh1=>?_) λh1=>?_
  ·obtain⟨hlo,r,hAr,x1,y1,r1,r2,r3⟩:lo≠[]/\∃r,A = [r]/\UK lo (Hp.whole w) r:=by
    rcases hA with ⟨_,e⟩ | e
    ·rcases hB with ⟨_,e2⟩ | ⟨_,r,e2,_⟩
     ·subst e e2;simp at hlen;omega
     ·subst e e2;simp at hlen;omega
    ·exact e
   obtain⟨hhi,u,hBu,x2,y2,u1,u2,u3⟩:hi≠[]/\∃r,B = [r]/\UK hi (Hp.whole w) r:=by
    rcases hB with ⟨_,e⟩ | e
    ·subst e hAr;simp at hlen;omega
    ·exact e
   subst hAr hBu;refine lQ 0 h7 ?_;refine R2 cQ (e:=141) rfl hL 0 rfl sQ λb9 o9 cs hcs hR hcell2=>?_;have hR:cs=fR r:=hR;subst hR;refine nX cQ (i:=0) rfl hcell2 rfl ?_;refine lQ 0 h7 ?_;refine R2 cQ (e:=141) rfl hL 1 rfl sQ λb9 o9 cs hcs hR hcell3=>?_;have hR:cs=fR u:=hR;subst hR;refine nX cQ (i:=0) rfl hcell3 rfl ?_;refine k7 _ (λw' hm=>cX w' (r1.mono (hm 0 _ rfl).whole) (u1.mono (hm 0 _ rfl).whole)) ?_;rw[r2,r3,u2,u3];refine⟨sK,?_⟩;refine⟨decide (jB (dI lo*dJ hi) (dI hi*dJ lo) > 0),?_,y6.mk (pj [0]) rfl rfl⟩;rw[decide_eq_true_eq,gI];exact⟨λg=>⟨⟨hlo,hhi⟩,g⟩,λg=>g.2⟩
  ·refine⟨sK,?_⟩;refine⟨false,⟨λg=>(ZI g).elim,λg=>?_⟩,y6.mk (pj [0]) rfl rfl⟩;obtain⟨⟨g1,g2⟩,_⟩:=g;rcases hA with ⟨e,_⟩ | ⟨_,r,e,_⟩
   ·exact absurd e g1
   ·rcases hB with ⟨e2,_⟩ | ⟨_,u,e2,_⟩
    ·exact absurd e2 g2
    ·subst e e2;exact absurd hlen (by simp;omega)
 rintro q hq hsat;dsimp only;refine v7 (λh4=>?_) λh4=>?_
 ·rw[if_pos (hq.1 h4)];exact⟨[],⟨rfl,rfl⟩,pk [0]⟩
 ·rw[if_neg (λg=>by rw[hq.2 g] at h4;cases h4)];exact⟨[],⟨rfl,rfl⟩,pk [0]⟩
end Go.Proofs.YtpjhmeicbjkcdaaGreatDoor
namespace Go.Proofs.YtpjhmeicbjkcdaaGreatDoor
open Go Go.RowKit Go.Dw
theorem AC {s:d8} {g:Hp} {v:Value} (h:HH 400 s g v) :∃r,v=.tuple #[.agg (fR r).toArray,iQ (H5 s)]/\(H5 s=0->UK s g r):=by
 by_cases hn:H5 s=0
 ·obtain⟨r,h1,h2⟩:=PD h hn;exact⟨r,h1,λ_=>h2⟩
 ·obtain⟨n1,a1,k1,c1,a2,k2,c2,x,y,hv,_⟩:=h;exact⟨(n1,(a1,k1,c1),(a2,k2,c2)),hv,λe=>absurd e hn⟩
theorem I0 (b:Nat) {cs:List Value} (T:Nat) {j:Nat} {v:Value} (h:cs[j]?=some v):(Ch.box b cs T).h.cell? ⟨b,j,none⟩=some v:=by simp[Hp.cell?,Ch.h,Hp.one,h]
theorem Dc {s:d8} {h:Hp} {A:List CU} (hA:LT s h A):A.length<=1:=by
 rcases hA with ⟨_,e⟩ | ⟨_,r,e,_⟩ <;> subst e <;> simp
structure Ei (r:kP):Prop where
 ex:RA r.2.1
 lo:r.2.2.1.length < 1000000
 hi:r.2.2.2.length < 1000000
set_option maxRecDepth 20000 in
set_option maxHeartbeats 1000000 in
theorem mQ {d:Nat} {nm0:d8} {a1 a2 a3 a4 a5:Option Addr} {n1 c1 n2 c2 n3 c3 n4 c4 n5 c5:Nat} {L:List kP} (i:Nat) (w:World) (hL:Sl (mK d) 8 (Hp.whole w) a5 n5 c5 L) (hn:L.length < 1000000) (hi:i < L.length) (hs :∀p∈L,Ei p) (hd:n3 < 1000000) :
  j2 Tryz.prog 55 #[.agg #[sv nm0,.slice a1 n1 c1,.slice a2 n2 c2,.slice a3 n3 c3,.slice a4 n4 c4,.slice a5 n5 c5],iQ i] w (v8 w (iQ (SU L (·.1) (xP n3) i))):=by
 rw[uC hi];obtain⟨r,hr⟩ :∃r,r=L[i]:=⟨_,rfl⟩
 have hrs:Ei r:=hs r (by rw[hr];exact j5 hi);rw[<-hr];have hE0:xP n3 r=qB (AZ n3 r.2.1) (qB (if r.2.2.1 = [] then 0 else H5 r.2.2.1) (qB (if r.2.2.2 = [] then 0 else H5 r.2.2.2) (if (r.2.2.1≠[]/\r.2.2.2≠[])/\dI r.2.2.2*dJ r.2.2.1 < dI r.2.2.1*dJ r.2.2.2 then 8 else 0))):=rfl;obtain⟨nm,x,lo,hb⟩:=r;obtain⟨hx,hlo,hhi⟩:=hrs;dsimp only at hx hlo hhi hE0 ⊢;rw[hE0];match d,hL with
 | 0,hL=>
  obtain⟨_,_,_,_,_,hR,_⟩:=hL.cells i hi;obtain⟨_,_,hR⟩:=hR;exact hR.elim
 | d+1,hL=>
 obtain⟨op,f,fac,args⟩:=x;have hnm1:L[i].1=nm:=by rw[<-hr]
 refine enterZ (cx 24) [.agg #[sv nm0,.slice a1 n1 c1,.slice a2 n2 c2,.slice a3 n3 c3,.slice a4 n4 c4,.slice a5 n5 c5],iQ i] [.tmp 4] Tryz.func55 ?_;intro b2 b3;refine u6.cut (Nat×Nat×(Option Addr×Nat×Nat)×(Option Addr×Nat×Nat)) (λg=>[(2,.bx 1 0),(3,.bx 2 0),(5,.bx 3 0),(6,.bx 4 0)]) (λg=>[.hp (Hp.whole w),.box b2 [sv nm0,.slice a1 n1 c1,.slice a2 n2 c2,.slice a3 n3 c3,.slice a4 n4 c4,.slice a5 n5 c5] 30,.box b3 [iQ i] 3,.box g.1 [.slice a5 n5 c5] 28,
   .box g.2.1 [sv nm,iQ op,sv f.1,.slice g.2.2.1.1 g.2.2.1.2.1 g.2.2.1.2.2,sv fac,.slice g.2.2.2.1 g.2.2.2.2.1 g.2.2.2.2.2,sv lo,sv hb] 74])
  (λg=>bE (d+1) (Hp.whole w) (.mk op f fac args) [iQ op,sv f.1,.slice g.2.2.1.1 g.2.2.1.2.1 g.2.2.1.2.2,sv fac,.slice g.2.2.2.1 g.2.2.2.2.1 g.2.2.2.2.2]) (u6.by_order cQ (.take 0 <| .take 1 <| .take 2 <| .take 3 <| .take 4 <| .take 5 <| .take 6 <| .two 7 (.run 8 <| .run 9 <| .run 10 <| .done) 8 (.run 7 <| .run 9 <| .run 10 <| .done)) kr ?_) ?_
 ·refine R2 cQ (e:=74) rfl hL i rfl hi λb9 o9 cs hcs hR hcell1=>?_;rw[<-hr] at hR;obtain⟨xs,rfl,hxe⟩:=hR;have hxe2:=hxe;obtain⟨p1,p2,p3,q1,q2,q3,rfl,_⟩:=hxe;refine nX cQ (i:=0) rfl hcell1 rfl ?_;constructor
  ·intro b5;refine⟨sK,?_⟩;intro b6;(iterate 2 refine⟨sK,?_⟩);exact⟨(b5,b6,(p1,p2,p3),(q1,q2,q3)),hxe2,y6.mk (pj [0,1,2,3,4]) rfl rfl⟩
  ·intro b6;refine⟨sK,?_⟩;intro b5;(iterate 2 refine⟨sK,?_⟩);exact⟨(b5,b6,(p1,p2,p3),(q1,q2,q3)),hxe2,y6.mk (pj [0,1,2,4,3]) rfl rfl⟩
 rintro⟨b5,b6,⟨p1,p2,p3⟩,q1,q2,q3⟩ hxe hsat;dsimp only at hxe ⊢;intro b7 b8 b9;refine enterFZ (cx 18) [.slice (some ⟨b9,0,none⟩) 5 5] [.tmp 2] Tryz.func37 ?_;refine z6.mk (Nat×Dw.Os×List CU×List CU×Hp×Hp) (λg=>[(6,.v (.slice (some ⟨b9,0,none⟩) 5 5)),(7,.v (iQ 5)),(8,.v (iQ g.1))])
  (λg=>[.hp (Hp.whole w),.box b2 [sv nm0,.slice a1 n1 c1,.slice a2 n2 c2,.slice a3 n3 c3,.slice a4 n4 c4,.slice a5 n5 c5] 30,.box b3 [iQ i] 3,.box b5 [.slice a5 n5 c5] 28,
   .box b6 [sv nm,iQ op,sv f.1,.slice p1 p2 p3,sv fac,.slice q1 q2 q3,sv lo,sv hb] 74,
   .box b7 [g.2.1.v] 192,.box b8 [.func (.func 120) #[] #[pQ b7]] 181,
   .box b9 [.func (.func 122) #[] #[pQ b5,pQ b3],.func (.func 124) #[] #[pQ b6,pQ b2],.func (.func 125) #[] #[pQ b8,pQ b6],.func (.func 126) #[] #[pQ b8,pQ b6],.func (.func 127) #[] #[pQ b7]] 106,
   .hp g.2.1.h,.hp g.2.2.2.2.1,.hp g.2.2.2.2.2])
  (λg=>g.1<=5/\w5 fR 141 4 g.2.1 (g.2.2.1++g.2.2.2.1)/\(g.1<=2->g.2.2.1 = [])/\(g.1<=3->g.2.2.2.1 = [])/\(2 < g.1->LT lo g.2.2.2.2.1 g.2.2.1)/\(3 < g.1->LT hb g.2.2.2.2.2 g.2.2.2.1)/\
   (0 < g.1->xT ((L.take i).map (λp:kP=>p.1)) nm=0)/\(1 < g.1->AZ n3 (.mk op f fac args)=0)/\(2 < g.1->(if lo = [] then 0 else H5 lo)=0)/\(3 < g.1->(if hb = [] then 0 else H5 hb)=0)/\(4 < g.1->(if (lo≠[]/\hb≠[])/\dI hb*dJ lo < dI lo*dJ hb then (8:Int) else 0)=0))
  (λg=>5 - g.1) (0,Dw.Os.nil,[],[],Hp.emp,Hp.emp) ⟨dc,w5.nil _ _ _,λ_=>rfl,λ_=>rfl,λh=>by simp at h,λh=>by simp at h,λh=>by simp at h,λh=>by simp at h,λh=>by simp at h,λh=>by simp at h,λh=>by simp at h⟩
  (y6.mk (λ_ _ h=>Ok.emp (Ok.emp (Ok.emp h))) rfl rfl) ?_
 rintro⟨k,o,A,B,h1,h2⟩ ⟨hk,ho,hA,hB,hPA,hPB,z0,z1,z2,z3,z4⟩;dsimp only at hk ho hA hB hPA hPB z0 z1 z2 z3 z4 ⊢;match k,hk with
 | 0,_=>
  refine dC cQ (e:=106) rfl rfl 0 0 rfl dc rfl ?_;refine lR 7 0 ?_;refine k7 _ (λw' hm=>RW i w' ((hm 3 _ rfl).whole.cell (bT b5 _ _)) ((hm 2 _ rfl).whole.cell (bT b3 _ _)) (hL.mono (O2 _) (hm 0 _ rfl).whole) hi hn) ?_;rw[hnm1];refine d9 (λe1=>?_) λe1=>?_
  ·rw[iL e1];exact⟨⟨rfl,rfl,rfl,rfl,rfl,rfl,rfl,trivial⟩,[],⟨rfl,rfl⟩,pk [0]⟩
  ·have e1:=j3 e1;refine nw dc dc ?_;exact⟨(1,o,A,B,h1,h2),⟨sQ,ho,λ_=>hA dc,λ_=>hB dc,λh=>by simp at h,λh=>by simp at h,λ_=>e1,λh=>by simp at h,λh=>by simp at h,λh=>by simp at h,λh=>by simp at h⟩,by dsimp only;omega,y6.mk (pj [0,1,2,3,4,5,6,7,8,9,10]) rfl rfl⟩
 | 1,_=>
  refine dC cQ (e:=106) rfl rfl 1 1 rfl dc rfl ?_;refine lR 7 1 ?_;have y0:=z0 dc;rw[y0,O5];refine k7 _ (λw' hm=>RV (d:=d+1) w' (λj v hj=>(hm 4 _ rfl).whole.cell (I0 b6 _ (by
   match j,hj with
   | 0,hj=>exact hj
   | 1,hj=>exact hj
   | 2,hj=>exact hj
   | 3,hj=>exact hj
   | 4,hj=>exact hj))) ((hm 1 _ rfl).whole.cell (I0 b2 _ rfl)) (D6 _ _ _ _ _ (hm 0 _ rfl).whole hxe) hx hd) ?_
  refine d9 (λe1=>?_) λe1=>?_
  ·rw[iL e1];exact⟨⟨rfl,rfl,rfl,rfl,rfl,rfl,rfl,trivial⟩,[],⟨rfl,rfl⟩,pk [0]⟩
  ·have e1:=j3 e1;refine nw dc dc ?_;exact⟨(2,o,A,B,h1,h2),⟨sQ,ho,λ_=>hA dc,λ_=>hB dc,λh=>by simp at h,λh=>by simp at h,λ_=>by first | rfl | exact z0 dc,λ_=>e1,λh=>by simp at h,λh=>by simp at h,λh=>by simp at h⟩,by dsimp only;omega,y6.mk (pj [0,1,2,3,4,5,6,7,8,9,10]) rfl rfl⟩
 | 2,_=>
  refine dC cQ (e:=106) rfl rfl 2 2 rfl dc rfl ?_;refine lR 7 2 ?_;have y0:=z0 dc;rw[y0,O5];have y1:=z1 dc;rw[y1,O5];have hA0:=hA dc;have hB0:=hB dc;subst hA0 hB0;refine enterFZ (cx 7) [pQ b8,pQ b6] [.tmp 2] Tryz.func125 ?_;refine lR 6 0 ?_;refine lR 4 6 ?_;refine enterFZ (cx 18) [sv lo,pQ b7] [.tmp 3] Tryz.func120 ?_;refine dL (b:=[]) ?_;refine d9 (λe1=>?_) λe1=>?_
  ·refine⟨⟨rfl,rfl,rfl,rfl,rfl,rfl,rfl,trivial⟩,?_⟩;refine⟨⟨rfl,rfl,rfl,rfl,rfl,rfl,rfl,trivial⟩,?_⟩;refine nw dc dc ?_;exact⟨(3,o,[],[],h1,h2),⟨sQ,ho,λh=>by simp at h,λ_=>rfl,λ_=>.inl ⟨e1,rfl⟩,λh=>by simp at h,λ_=>by first | rfl | exact z0 dc,λ_=>by first | rfl | exact z1 dc,λ_=>if_pos e1,λh=>by simp at h,λh=>by simp at h⟩,by dsimp only;omega,y6.mk (pj [0,1,2,3,4,5,6,7,8,9,10]) rfl rfl⟩
  ·refine call (λw' hm=>U9 lo hlo w') ?_;rintro _ _ ⟨g,rfl,hr2⟩;obtain⟨⟨m1,⟨u1,u2,u3⟩,v1,v2,v3⟩,rfl,hrS⟩:=AC hr2;intro b4;refine lR 5 0 ?_;intro b41;refine gZ (f:=fR) cQ (e:=141) rfl (i:=8) rfl ho (j:=13) ((m1,(u1,u2,u3),v1,v2,v3):CU) rfl rfl rfl rfl dc λo2 ho2=>?_;refine iW cQ (i:=5) (j:=0) rfl rfl rfl sQ rfl rfl ?_;(iterate 2 refine⟨⟨rfl,rfl,rfl,rfl,rfl,rfl,rfl,trivial⟩,?_⟩);refine d9 (λe2=>?_) λe2=>?_
   ·rw[if_neg e1,iL e2];exact⟨⟨rfl,rfl,rfl,rfl,rfl,rfl,rfl,trivial⟩,[],⟨rfl,rfl⟩,pk [0]⟩
   ·have e2:=j3 e2;refine nw dc dc ?_;exact⟨(3,o2,[(m1,(u1,u2,u3),v1,v2,v3)],[],g,h2),⟨sQ,by simpa using ho2,λh=>by simp at h,λ_=>rfl,λ_=>.inr ⟨e1,_,rfl,hrS e2⟩,λh=>by simp at h,λ_=>by first | rfl | exact z0 dc,λ_=>by first | rfl | exact z1 dc,λ_=>by rw[if_neg e1];exact e2,λh=>by simp at h,λh=>by simp at h⟩,by dsimp only;omega,y6.mk (pj [0,1,2,3,4,5,6,7,8,11,10]) rfl rfl⟩
 | 3,_=>
  refine dC cQ (e:=106) rfl rfl 3 3 rfl dc rfl ?_;refine lR 7 3 ?_;have y0:=z0 dc;rw[y0,O5];have y1:=z1 dc;rw[y1,O5];have y2:=z2 dc;rw[y2,O5];have hB0:=hB dc;subst hB0;have hPA0:=hPA dc;refine enterFZ (cx 7) [pQ b8,pQ b6] [.tmp 2] Tryz.func126 ?_;refine lR 6 0 ?_;refine lR 4 7 ?_;refine enterFZ (cx 18) [sv hb,pQ b7] [.tmp 3] Tryz.func120 ?_;refine dL (b:=[]) ?_;refine d9 (λe1=>?_) λe1=>?_
  ·refine⟨⟨rfl,rfl,rfl,rfl,rfl,rfl,rfl,trivial⟩,?_⟩;refine⟨⟨rfl,rfl,rfl,rfl,rfl,rfl,rfl,trivial⟩,?_⟩;refine nw dc dc ?_;exact⟨(4,o,A,[],h1,h2),⟨sQ,ho,λh=>by simp at h,λh=>by simp at h,λ_=>hPA0,λ_=>.inl ⟨e1,rfl⟩,λ_=>by first | rfl | exact z0 dc,λ_=>by first | rfl | exact z1 dc,λ_=>by first | rfl | exact z2 dc,λ_=>if_pos e1,λh=>by simp at h⟩,by dsimp only;omega,y6.mk (pj [0,1,2,3,4,5,6,7,8,9,10]) rfl rfl⟩
  ·refine call (λw' hm=>U9 hb hhi w') ?_;rintro _ _ ⟨g,rfl,hr2⟩;obtain⟨⟨m1,⟨u1,u2,u3⟩,v1,v2,v3⟩,rfl,hrS⟩:=AC hr2;intro b4;refine lR 5 0 ?_;intro b41;refine gZ (f:=fR) cQ (e:=141) rfl (i:=8) rfl ho (j:=13) ((m1,(u1,u2,u3),v1,v2,v3):CU) rfl rfl rfl rfl (by have:=Dc hPA0;simp;omega) λo2 ho2=>?_;refine iW cQ (i:=5) (j:=0) rfl rfl rfl sQ rfl rfl ?_;(iterate 2 refine⟨⟨rfl,rfl,rfl,rfl,rfl,rfl,rfl,trivial⟩,?_⟩);refine d9 (λe2=>?_) λe2=>?_
   ·rw[if_neg e1,iL e2];exact⟨⟨rfl,rfl,rfl,rfl,rfl,rfl,rfl,trivial⟩,[],⟨rfl,rfl⟩,pk [0]⟩
   ·have e2:=j3 e2;refine nw dc dc ?_;exact⟨(4,o2,A,[(m1,(u1,u2,u3),v1,v2,v3)],h1,g),⟨sQ,by simpa using ho2,λh=>by simp at h,λh=>by simp at h,λ_=>hPA0,λ_=>.inr ⟨e1,_,rfl,hrS e2⟩,λ_=>by first | rfl | exact z0 dc,λ_=>by first | rfl | exact z1 dc,λ_=>by first | rfl | exact z2 dc,λ_=>by rw[if_neg e1];exact e2,λh=>by simp at h⟩,by dsimp only;omega,y6.mk (pj [0,1,2,3,4,5,6,7,8,9,11]) rfl rfl⟩
 | 4,_=>
  refine dC cQ (e:=106) rfl rfl 4 4 rfl dc rfl ?_;refine lR 7 4 ?_;have y0:=z0 dc;rw[y0,O5];have y1:=z1 dc;rw[y1,O5];have y2:=z2 dc;rw[y2,O5];have y3:=z3 dc;rw[y3,O5];have hPA0:=hPA dc;have hPB0:=hPB dc;refine k7 _ (λw' hm=>RU w' ((hm 5 _ rfl).whole.cell (bT b7 _ _)) ((w5.sl (f:=fR) (sz:=4) (λ_=>rfl) dc ho).mono (j7 _) (hm 8 _ rfl).whole) (hPA0.mono (hm 9 _ rfl).whole) (hPB0.mono (hm 10 _ rfl).whole)) ?_;refine d9 (λe1=>?_) λe1=>?_
  ·exact⟨⟨rfl,rfl,rfl,rfl,rfl,rfl,rfl,trivial⟩,[],⟨rfl,rfl⟩,pk [0]⟩
  ·have e1:=j3 e1;refine nw dc dc ?_;exact⟨(5,o,A,B,h1,h2),⟨sQ,ho,λh=>by simp at h,λh=>by simp at h,λ_=>hPA0,λ_=>hPB0,λ_=>by first | rfl | exact z0 dc,λ_=>by first | rfl | exact z1 dc,λ_=>by first | rfl | exact z2 dc,λ_=>by first | rfl | exact z3 dc,λ_=>e1⟩,by dsimp only;omega,y6.mk (pj [0,1,2,3,4,5,6,7,8,9,10]) rfl rfl⟩
 | 5,_=>
  have y0:=z0 dc;have y1:=z1 dc;have y2:=z2 dc;have y3:=z3 dc;have y4:=z4 dc;rw[y0,O5,y1,O5,y2,O5,y3,O5,y4];exact⟨⟨rfl,rfl,rfl,rfl,rfl,rfl,rfl,trivial⟩,[],⟨rfl,rfl⟩,pk [0]⟩
end Go.Proofs.YtpjhmeicbjkcdaaGreatDoor
namespace Go.Proofs.YtpjhmeicbjkcdaaGreatDoor
open Go Go.RowKit Go.Dw
structure Ek (p:kR):Prop where
 nm:p.nm.length < 1000000
 np:p.parts.length < 1000000
 ni:p.insts.length < 1000000
 nd:p.dims.length < 1000000
 nc:p.cons.length < 1000000
 nr:p.reqs.length < 1000000
 sp :∀x∈p.parts,Ej x
 si :∀x∈p.insts,Ep x
 sc :∀x∈p.cons,LR x.2
 sr :∀x∈p.reqs,Ei x
theorem TY {b:Nat} {a1 a2:Option Addr} {n1 c1 n2 c2:Nat} {P:List V9} (w:World) (hc :∀j v,[Value.slice a1 n1 c1,.slice a2 n2 c2][j]?=some v->(Hp.whole w).cell? ⟨b,j,none⟩=some v) (hP:Sl cN 3 (Hp.whole w) a1 n1 c1 P) (hn:P.length < 1000000) (hs :∀x∈P,Ej x) :
  j2 Tryz.prog 38 #[pQ b] w (v8 w (iQ (bA 64 P (·.1) xR))):=by
 have hlen:=hP.len;rw[uB,<-hlen];refine enterZ (cx 7) [pQ b] [.tmp 1] Tryz.func38 ?_;refine lQ 0 (hc 0 _ rfl) ?_;refine k7 _ (λw' hm=>kH (K:=40) (p:=pQ b) (f:=SU P (λp:V9=>p.1) xR) n1 64 om dc w' (λk hk w2 h2=>?_)) ?_
 ·have hc2:=(h2.le (hm 0 _ rfl).whole).whole;refine enterZ (cx 8) [iQ k,pQ b] [.tmp 3] Tryz.func40 ?_;refine lQ 0 (hc2.cell (hc 0 _ rfl)) ?_;refine k7 _ (λw3 h3=>BM k w3 (hP.mono J0 (λ_ _ e=>(h3 0 _ rfl).whole _ _ (hc2 _ _ e))) hn om hs) ?_;exact⟨[],⟨rfl,rfl⟩,pk [0]⟩
 ·exact⟨[],⟨rfl,rfl⟩,pk [0]⟩
theorem TX {b:Nat} {a1 a2:Option Addr} {n1 c1 n2 c2:Nat} {P:List V9} {L:List lW} (w:World) (hc :∀j v,[Value.slice a1 n1 c1,.slice a2 n2 c2][j]?=some v->(Hp.whole w).cell? ⟨b,j,none⟩=some v) (hP:Sl cN 3 (Hp.whole w) a1 n1 c1 P) (hL:Sl (E0 fF) 9 (Hp.whole w) a2 n2 c2 L) (hpn:P.length < 1000000) (hn:L.length < 1000000) (hs :∀x∈L,Ep x) :
  j2 Tryz.prog 42 #[pQ b] w (v8 w (iQ (bA 12 L (·.1) (xX (P.map (λp:V9=>p.1)))))):=by
 have hlen:=hL.len;rw[uB,<-hlen];refine enterZ (cx 7) [pQ b] [.tmp 1] Tryz.func42 ?_;refine lQ 0 (hc 1 _ rfl) ?_;refine k7 _ (λw' hm=>kH (K:=43) (p:=pQ b) (f:=SU L (λp:lW=>p.1) (xX (P.map (λp:V9=>p.1)))) n2 12 om dc w' (λk hk w2 h2=>?_)) ?_
 ·have hc2:=(h2.le (hm 0 _ rfl).whole).whole;refine enterZ (cx 7) [iQ k,pQ b] [.tmp 3] Tryz.func43 ?_;refine nX cQ (i:=0) rfl (cs:=[Value.slice a1 n1 c1,.slice a2 n2 c2]) (λj v hj=>by rw[w7];exact hc2.cell (hc j v hj)) rfl ?_;refine k7 _ (λw3 h3=>sF k w3 (hP.mono J0 (λ_ _ e=>(h3 0 _ rfl).whole _ _ (hc2 _ _ e))) (hL.mono (j7 _) (λ_ _ e=>(h3 0 _ rfl).whole _ _ (hc2 _ _ e))) hpn hn om hs) ?_;exact⟨[],⟨rfl,rfl⟩,pk [0]⟩
 ·exact⟨[],⟨rfl,rfl⟩,pk [0]⟩
theorem TW {b:Nat} {a:Option Addr} {n c:Nat} {L:List O7} (w:World) (hc:(Hp.whole w).cell? ⟨b,3,none⟩=some (.slice a n c)) (hL:Sl (E0 P2) 4 (Hp.whole w) a n c L) (hn:L.length < 1000000) :
  j2 Tryz.prog 45 #[pQ b] w (v8 w (iQ (bA 64 L (·.1) xZ))):=by
 have hlen:=hL.len;rw[uB,<-hlen];refine enterZ (cx 7) [pQ b] [.tmp 1] Tryz.func45 ?_;refine lQ 0 hc ?_;refine k7 _ (λw' hm=>kH (K:=46) (p:=pQ b) (f:=SU L (λp:O7=>p.1) xZ) n 64 om dc w' (λk hk w2 h2=>?_)) ?_
 ·have hc2:=(h2.le (hm 0 _ rfl).whole).whole;refine enterZ (cx 8) [iQ k,pQ b] [.tmp 3] Tryz.func46 ?_;refine lQ 0 (hc2.cell hc) ?_;refine k7 _ (λw3 h3=>qK k w3 (hL.mono (j7 _) (λ_ _ e=>(h3 0 _ rfl).whole _ _ (hc2 _ _ e))) hn om) ?_;exact⟨[],⟨rfl,rfl⟩,pk [0]⟩
 ·exact⟨[],⟨rfl,rfl⟩,pk [0]⟩
theorem NW {a:Option Addr} {n c b:Nat} {L:List kT} (k:Nat) (w:World) (hc:(Hp.whole w).cell? ⟨b,0,none⟩=some (.slice a n c)) (hL:Sl qF 3 (Hp.whole w) a n c L) (hk:k < L.length) :
  j2 Tryz.prog 51 #[iQ k,pQ b] w (v8 w (sv (eW (λp:kT=>p.1) L k))):=by
 rw[aC _ _ _ hk];refine enterZ (cx 9) [iQ k,pQ b] [.tmp 3] Tryz.func51 ?_;refine lQ 0 hc ?_;refine R2 cQ (e:=96) rfl hL k rfl hk λb9 o9 cs hcs hR hcell=>?_;obtain⟨a3,n3,c3,rfl,hs3⟩:=hR;refine lQ 0 (hcell 0 _ rfl) ?_;exact⟨[],⟨rfl,rfl⟩,pk [0]⟩
theorem NX {b:Nat} {a a3:Option Addr} {n c n3 c3:Nat} {L:List kT} (k:Nat) (w:World) (h3:(Hp.whole w).cell? ⟨b,3,none⟩=some (.slice a3 n3 c3)) (h4:(Hp.whole w).cell? ⟨b,4,none⟩=some (.slice a n c)) (hL:Sl qF 3 (Hp.whole w) a n c L) (hn:L.length < 1000000) (hk:k < L.length) (hs :∀x∈L,LR x.2) (hd:n3 < 1000000) :
  j2 Tryz.prog 49 #[iQ k,pQ b] w (v8 w (iQ (SU L (·.1) (λx=>oE n3 x.2) k))):=by
 rw[uC hk];obtain⟨d,hd'⟩ :∃d,d=L[k]:=⟨_,rfl⟩
 have hds:LR d.2:=hs d (by rw[hd'];exact j5 hk);have hnm:xT ((x8 k).map (eW (λp:kT=>p.1) L)) (eW (λp:kT=>p.1) L k)=xT ((L.take k).map (λp:kT=>p.1)) d.1:=by rw[gK _ _ _ om,aC _ _ _ hk,hd']
 rw[<-hd'];obtain⟨nm,fc,ts⟩:=d;dsimp only at hnm hds ⊢;refine enterZ (cx 23) [iQ k,pQ b] [.tmp 3] Tryz.func49 ?_;refine lQ 0 h4 ?_;intro b4;refine k7 _ (λw' hm=>gM (K:=51) (p:=pQ b4) (nm:=eW (λp:kT=>p.1) L) k om w' (λj hj w2 h2=>NW j w2 ((h2.le (hm 1 _ rfl).whole).whole.cell (bT b4 _ _)) (hL.mono V5 (h2.le (hm 0 _ rfl).whole).whole) om)) ?_;rw[hnm];refine d9 (λe1=>?_) λe1=>?_
 ·rw[iL e1];exact⟨[],⟨rfl,rfl⟩,pk [0]⟩
 have e1:=j3 e1;rw[e1,O5];refine u6.by_order cQ (.take 0 <| .take 1 <| .take 2 <| .take 3 <| .take 4 <| .take 5 <| .take 6 <| .take 7 <| .run 8 <| .take 9 <| .done) kr ?_;refine R2 cQ (e:=96) rfl hL k rfl hk λb9 o9 cs hcs hR hcell2=>?_;rw[<-hd'] at hR;have hR :∃a n c,cs = [sv nm,sv fc,.slice a n c]/\Sl (E0 bO) 2 (Hp.whole w) a n c ts:=hR;obtain⟨a5,n5,c5,rfl,hs5⟩:=hR;refine nX cQ (i:=0) rfl (cs:=[sv fc,.slice a5 n5 c5]) (λj v hj=>by
  rw[BZ];match j,hj with
  | 0,hj=>exact hcell2 1 v hj
  | 1,hj=>exact hcell2 2 v hj) rfl ?_
 refine lQ 0 h3 ?_;refine k7 _ (λw' hm=>oO (f:=(fc,ts)) n3 w' (hs5.mono (j7 _) (hm 0 _ rfl).whole) hds hd) ?_;refine⟨sK,?_⟩;exact⟨[],⟨rfl,rfl⟩,pk [0]⟩
theorem TU {b:Nat} {a a3:Option Addr} {n c n3 c3:Nat} {L:List kT} (w:World) (h3:(Hp.whole w).cell? ⟨b,3,none⟩=some (.slice a3 n3 c3)) (h4:(Hp.whole w).cell? ⟨b,4,none⟩=some (.slice a n c)) (hL:Sl qF 3 (Hp.whole w) a n c L) (hn:L.length < 1000000) (hs :∀x∈L,LR x.2) (hd:n3 < 1000000) :
  j2 Tryz.prog 48 #[pQ b] w (v8 w (iQ (bA 64 L (·.1) λx=>oE n3 x.2))):=by
 have hlen:=hL.len;rw[uB,<-hlen];refine enterZ (cx 7) [pQ b] [.tmp 1] Tryz.func48 ?_;refine lQ 0 h4 ?_;refine k7 _ (λw' hm=>kH (K:=49) (p:=pQ b) (f:=SU L (λp:kT=>p.1) (λx=>oE n3 x.2)) n 64 om dc w' (λk hk w2 h2=>by
  have hc2:=(h2.le (hm 0 _ rfl).whole).whole;exact NX k w2 (hc2.cell h3) (hc2.cell h4) (hL.mono V5 hc2) hn om hs hd)) ?_
 exact⟨[],⟨rfl,rfl⟩,pk [0]⟩
theorem TT {d b:Nat} {nm0:d8} {a1 a2 a3 a4 a5:Option Addr} {n1 c1 n2 c2 n3 c3 n4 c4 n5 c5:Nat} {L:List kP} (w:World) (hc :∀j v,[Value.string (bs nm0),.slice a1 n1 c1,.slice a2 n2 c2,.slice a3 n3 c3,.slice a4 n4 c4,.slice a5 n5 c5][j]?=some v->(Hp.whole w).cell? ⟨b,j,none⟩=some v)
  (hL:Sl (mK d) 8 (Hp.whole w) a5 n5 c5 L) (hn:L.length < 1000000) (hs :∀x∈L,Ei x) (hd:n3 < 1000000) :
  j2 Tryz.prog 53 #[pQ b] w (v8 w (iQ (bA 64 L (·.1) (xP n3)))):=by
 have hlen:=hL.len;rw[uB,<-hlen];refine enterZ (cx 7) [pQ b] [.tmp 1] Tryz.func53 ?_;refine lQ 0 (hc 5 _ rfl) ?_;refine k7 _ (λw' hm=>kH (K:=54) (p:=pQ b) (f:=SU L (λp:kP=>p.1) (xP n3)) n5 64 om dc w' (λk hk w2 h2=>?_)) ?_
 ·have hc2:=(h2.le (hm 0 _ rfl).whole).whole;refine enterZ (cx 7) [iQ k,pQ b] [.tmp 3] Tryz.func54 ?_;refine nX cQ (i:=0) rfl (cs:=[Value.string (bs nm0),.slice a1 n1 c1,.slice a2 n2 c2,.slice a3 n3 c3,.slice a4 n4 c4,.slice a5 n5 c5]) (λj v hj=>by rw[w7];exact hc2.cell (hc j v hj)) rfl ?_;refine k7 _ (λw3 h3=>mQ k w3 (hL.mono (O2 d) (λ_ _ e=>(h3 0 _ rfl).whole _ _ (hc2 _ _ e))) hn om hs hd) ?_;exact⟨[],⟨rfl,rfl⟩,pk [0]⟩
 ·exact⟨[],⟨rfl,rfl⟩,pk [0]⟩
set_option maxRecDepth 10000 in
theorem OO {d:Nat} {p:kR} {cs:List Value} (w:World) (hp:vX d (Hp.whole w) p cs) (hs:Ek p) :
  j2 Tryz.prog 12 #[.agg cs.toArray] w (v8 w (iQ (LD p))):=by
 obtain⟨a1,n1,c1,a2,n2,c2,a3,n3,c3,a4,n4,c4,a5,n5,c5,rfl,h1,h2,h3,h4,h5⟩:=hp.ex;have hl3:=h3.len;have hE:LD p=if D8 p.nm=false then 11 else qB (bA 64 p.parts (·.1) xR) (qB (bA 12 p.insts (·.1) (xX (p.parts.map (λp:V9=>p.1)))) (qB (bA 64 p.dims (·.1) xZ) (qB (bA 64 p.cons (·.1) λc=>oE n3 c.2) (bA 64 p.reqs (·.1) (xP n3))))):=by rw[hl3];rfl
 rw[hE];refine enterZ (cx 17) [.agg #[sv p.nm,.slice a1 n1 c1,.slice a2 n2 c2,.slice a3 n3 c3,.slice a4 n4 c4,.slice a5 n5 c5]] [.tmp 2] Tryz.func12 ?_;intro b1;refine k7 _ (λw' hm=>dP p.nm w') ?_;refine v7 (λe1=>?_) λe1=>?_
 ·rw[yW] at e1;rw[if_pos e1];exact⟨[],⟨rfl,rfl⟩,pk [0]⟩
 rw[Bool.not_eq_false'] at e1;rw[if_neg (by rw[e1];decide)];intro b3 b15;refine k7 _ (λw' hm=>KM (e0:=bA 64 p.parts (λx:V9=>x.1) xR) (e1:=bA 12 p.insts (λx:lW=>x.1) (xX (p.parts.map (λp:V9=>p.1)))) (e2:=bA 64 p.dims (λx:O7=>x.1) xZ) (e3:=bA 64 p.cons (λx:kT=>x.1) λc=>oE n3 c.2) (e4:=bA 64 p.reqs (λx:kP=>x.1) (xP n3)) w' (Sl.box (f:=Ol) (λ_=>rfl) dc (hm 3 _ rfl) [.func (.func 38) #[] #[pQ b3],.func (.func 42) #[] #[pQ b3],.func (.func 45) #[] #[pQ b1],.func (.func 48) #[] #[pQ b1],.func (.func 53) #[] #[pQ b1]] rfl rfl sQ)
  (λw2 g=>?_) (λw2 g=>?_) (λw2 g=>?_) (λw2 g=>?_) (λw2 g=>?_)) ?_
 ·have hW:=(g.le (hm 0 _ rfl).whole).whole;exact TY w2 (λj v hj=>((g.le (hm 2 _ rfl).whole).whole).cell (I0 b3 _ hj)) (h1.mono J0 hW) hs.np hs.sp
 ·have hW:=(g.le (hm 0 _ rfl).whole).whole;exact TX w2 (λj v hj=>((g.le (hm 2 _ rfl).whole).whole).cell (I0 b3 _ hj)) (h1.mono J0 hW) (h2.mono (j7 _) hW) hs.np hs.ni hs.si
 ·have hW:=(g.le (hm 0 _ rfl).whole).whole;exact TW w2 (((g.le (hm 1 _ rfl).whole).whole).cell (I0 b1 _ rfl)) (h3.mono (j7 _) hW) hs.nd
 ·have hW:=(g.le (hm 0 _ rfl).whole).whole;exact TU w2 (((g.le (hm 1 _ rfl).whole).whole).cell (I0 b1 _ rfl)) (((g.le (hm 1 _ rfl).whole).whole).cell (I0 b1 _ rfl)) (h4.mono V5 hW) hs.nc hs.sc (by have:=hs.nd;omega)
 ·have hW:=(g.le (hm 0 _ rfl).whole).whole;exact TT w2 (λj v hj=>((g.le (hm 1 _ rfl).whole).whole).cell (I0 b1 _ hj)) (h5.mono (O2 d) hW) hs.nr hs.sr (by have:=hs.nd;omega)
 ·exact⟨[],⟨rfl,rfl⟩,pk [0]⟩
end Go.Proofs.YtpjhmeicbjkcdaaGreatDoor
namespace Go.Proofs.YtpjhmeicbjkcdaaGreatDoor
open Go
def s8 (r:RS) (s:d8):RS:=if S7 r s=true then C6 r else w9 r 14
def H6 (r:RS) (count most:Nat):RS:=if most<=count then w9 r 6 else r
def GU (r:RS):RS:=if (z8 r).1≠5 then w9 r 14 else r
def G2 (r:RS):Nat:=if r.e≠0 then 0 else r.ts.length
def Z6 (names:List d8) (s:d8):Int:=if s∈names then 9 else 0
def rN (t:mR):Prop:=t.1=1\/t.1=3
instance (t:mR):Decidable (rN t):=by unfold rN;exact inferInstance
def namC (r:RS) (chk:d8->Int):RS:=if rN (z8 r) then (if D8 (z8 r).2.1=false then w9 r 11 else w9 r (chk (z8 r).2.1)) else r
def L0 (r:RS) (chk:d8->Int):RS×d8:=if (z8 r).1=3 then J9 (namC r chk) 3 else J9 (namC r chk) 1
def L9 (r:RS):RS×d8:=(if 400 < (X0 r).2.length then w9 (X0 r).1 5 else (X0 r).1,(X0 r).2)
def xK (r:RS):RS×d8:=X0 (if (z8 r).1≠2 then w9 r 14 else r)
def aD {α:Type} (tk:RS->RS×α):Nat->RS->RS×List α
 | 0,r=>(r,[])
 | n+1,r=>((tk (if 0 < n then s8 (aD tk n r).1 [44] else (aD tk n r).1)).1,(aD tk n r).2++[(tk (if 0 < n then s8 (aD tk n r).1 [44] else (aD tk n r).1)).2])
def lE {α:Type} (tk:RS->RS×α) (n:Nat) (r:RS):RS×List α:=(s8 (aD tk n (s8 r [40])).1 [41],(aD tk n (s8 r [40])).2)
def HY (r:RS):RS×V3:=((lE (λr=>U2 r (-4096) 4096) 3 r).1,(lE (λr=>U2 r (-4096) 4096) 3 r).2.getD 0 0,(lE (λr=>U2 r (-4096) 4096) 3 r).2.getD 1 0,(lE (λr=>U2 r (-4096) 4096) 3 r).2.getD 2 0)
def vD:Nat->RS->List V3->RS×List V3
 | 0,r,out=>(r,out)
 | f+1,r,out=>if S7 r [40]=true then vD f (HY (H6 r out.length 16)).1 (out++[(HY (H6 r out.length 16)).2]) else (r,out)
def eH:d8:=[99,101,108,108]
def S9:d8:=[112,97,114,116]
def zF:d8:=[100,101,110,115,105,116,121]
def dE:d8:=[105,110,115,116,97,110,99,101]
def Fw:d8:=[111,102]
def zE:d8:=[116,117,114,110]
def wO:d8:=[115,104,105,102,116]
def Z8:d8:=[100,105,109,101,110,115,105,111,110]
def Y8:d8:=[99,111,110,115,116,114,97,105,110,116]
def W7:d8:=[114,101,113,117,105,114,101]
def iG:d8:=[102,114,111,109]
def HW:d8:=[116,111]
def fY:d8:=[112,114,111,100,117,99,116]
def celV (r:RS) (cnt:Nat):RS×List V3:=vD (G2 (s8 (H6 r cnt 6) eH)) (s8 (H6 r cnt 6) eH) []
def kL:Nat->RS->List (List V3)->RS×List (List V3)
 | 0,r,out=>(r,out)
 | f+1,r,out=>if S7 r eH=true then kL f (s8 (celV r out.length).1 [59]) (out++[(celV r out.length).2]) else (r,out)
def dM (names:List d8) (r0:RS):RS×V9:=
 let a:=L0 (s8 (H6 r0 names.length 64) S9) (Z6 names)
 let b:=U2 (s8 a.1 zF) 1 1048576
 let r:=s8 b.1 [123]
 let c:=kL (G2 r) r []
 (s8 c.1 [125],(a.2,b.2,c.2))
def RF (parts:List d8) (s:d8):Int:=if s∈parts then 0 else 16
def kA (parts names:List d8) (r0:RS):RS×lW:=
 let a:=L0 (s8 (H6 r0 names.length 12) dE) (Z6 names)
 let b:=L0 (s8 a.1 Fw) (RF parts)
 let c:=lE (λr=>U2 r (-12) 12) 4 (s8 b.1 zE)
 let d:=lE L9 3 (s8 c.1 wO)
 (s8 d.1 [59],(a.2,b.2,(c.2.getD 0 0,c.2.getD 1 0,c.2.getD 2 0,c.2.getD 3 0),(d.2.getD 0 [],d.2.getD 1 [],d.2.getD 2 [])))
def rL (r:RS):RS×Int:=U2 r (-1073741824) 1073741824
def kI (names:List d8) (r0:RS):RS×O7:=
 let a:=L0 (s8 (H6 r0 names.length 64) Z8) (Z6 names)
 let b:=rL (s8 a.1 [61])
 let c:=rL (s8 b.1 [91])
 let d:=rL (s8 c.1 [44])
 let r:=s8 d.1 [93]
 (s8 (if S7 r [59]=true/\d.2 < c.2 then w9 r 8 else r) [59],(a.2,b.2,c.2,d.2))
def kB (names:List d8) (s:d8):Int:=if s∈names then ((names.idxOf s:Nat):Int) else -1
def jV (names:List d8) (last:Int) (s:d8):Int:=if kB names s < 0 then 16 else if kB names s<=last then 8 else 0
def UF (names:List d8) (r:RS):Int:=if rN (z8 r)/\D8 (z8 r).2.1=true then kB names (z8 r).2.1 else -1
def jS (r0:RS) (cnt:Nat):RS×d8:=
 let r1:=H6 r0 cnt 64
 let n:=xK (C6 r1)
 let x:=if S7 r1 [45]=true then 45::n.2 else n.2
 (if 400 < x.length then w9 n.1 5 else if S7 n.1 [42]=true/\(x = [48]\/x = [45,48]) then w9 n.1 19 else n.1,x)
def hZ (names:List d8) (last:Int) (r0:RS) (cnt:Nat):RS×OF:=
 let n:=jS r0 cnt
 let r:=s8 n.1 [42]
 ((L0 r (jV names last)).1,(UF names r,n.2))
def eJ (names:List d8):Nat->RS->Int->List OF->RS×List OF
 | 0,r,_,out=>(r,out)
 | f+1,r,last,out=>if S7 r [43]=true\/S7 r [45]=true then eJ names f (hZ names last r out.length).1 (hZ names last r out.length).2.1 (out++[(hZ names last r out.length).2]) else (r,out)
def qD (names:List d8) (r0:RS):RS×uZ:=
 let c:=L9 (s8 r0 [91])
 let p:=eJ names (G2 c.1) c.1 (-1) []
 (s8 p.1 [93],(c.2,p.2))
def JG (s:d8):Option Int:=if s = [97,100,100] then some 1 else if s = [115,99,97,108,101] then some 2 else if s = [109,105,110] then some 3 else if s = [109,97,120] then some 4 else if s = [97,98,115] then some 5 else none
def nZ (t:mR):Bool:=(JG t.2.1).isSome && decide (t.1=1)
def Z0 (g:RS->Nat->RS×Nat×Ex):Nat->RS->Nat->List Ex->RS×Nat×List Ex
 | 0,r,k,out=>(r,k,out)
 | f+1,r,k,out=>if S7 r [44]=true then Z0 g f (g (C6 r) k).1 (g (C6 r) k).2.1 (out++[(g (C6 r) k).2.2]) else (r,k,out)
def expS (d:Nat) (r:RS) (k:Nat):RS:=if nZ (z8 r)=false/\S7 r [91]=false then w9 r 14 else if d=0 then w9 r 15 else H6 r k 64
abbrev Nd:Ex:=.mk 0 ([],[]) [] []
def J8 (names:List d8):Nat->RS->Nat->RS×Nat×Ex
 | 0,r,k=>(expS 0 r k,k+1,Nd)
 | d+1,r,k=>
  if (expS (d+1) r k).e≠0 then (expS (d+1) r k,k+1,Nd)
  else if nZ (z8 r)=false then ((qD names r).1,k+1,.mk 0 (qD names r).2 [] [])
  else
   let op:=(JG (z8 r).2.1).getD 0
   let p:=if op=2 then L9 (C6 r) else (C6 r,[])
   let a:=J8 names d (s8 p.1 [40]) (k+1)
   let b:=if op≠2/\op≠5 then Z0 (J8 names d) (G2 a.1) a.1 a.2.1 [a.2.2] else (a.1,a.2.1,[a.2.2])
   (s8 b.1 [41],b.2.1,.mk op ([],[]) p.2 b.2.2)
def iC (names dims:List d8) (r0:RS):RS×kT:=
 let a:=L0 (s8 (H6 r0 names.length 64) Y8) (Z6 names)
 let f:=qD dims (s8 a.1 [58])
 let r:=s8 f.1 [60,61]
 (s8 (C6 (if (z8 r).1≠2\/(z8 r).2.1≠[48] then w9 r 14 else r)) [59],(a.2,f.2))
def eQ (names dims:List d8) (r0:RS):RS×kP:=
 let a:=L0 (s8 (H6 r0 names.length 64) W7) (Z6 names)
 let x:=J8 dims 8 (s8 a.1 [58]) 0
 let l:=if S7 x.1 iG=true then L9 (C6 x.1) else (x.1,[])
 let h:=if S7 l.1 HW=true then L9 (C6 l.1) else (l.1,[])
 (s8 (if (l.2≠[]/\h.2≠[])/\S7 h.1 [59]=true/\dI h.2*dJ l.2 < dI l.2*dJ h.2 then w9 h.1 8 else h.1) [59],(a.2,x.2.2,l.2,h.2))
def W4 {α:Type} (w:d8) (tk:List α->RS->RS×α):Nat->RS->List α->RS×List α
 | 0,r,out=>(r,out)
 | f+1,r,out=>if S7 r w=true then W4 w tk f (tk out r).1 (out++[(tk out r).2]) else (r,out)
def CJ (r0:RS):RS×kR:=
 let a:=L0 (s8 r0 fY) (λ_=>0)
 let r:=s8 a.1 [59]
 let p:=W4 S9 (λout r=>dM (out.map (·.1)) r) (G2 r) r []
 let i:=W4 dE (λout r=>kA (p.2.map (·.1)) (out.map (·.1)) r) (G2 p.1) p.1 []
 let d:=W4 Z8 (λout r=>kI (out.map (·.1)) r) (G2 i.1) i.1 []
 let c:=W4 Y8 (λout r=>iC (out.map (·.1)) (d.2.map (·.1)) r) (G2 d.1) d.1 []
 let q:=W4 W7 (λout r=>eQ (out.map (·.1)) (d.2.map (·.1)) r) (G2 c.1) c.1 []
 (GU q.1,⟨a.2,p.2,i.2,d.2,c.2,q.2⟩)
def rG (s:d8):RS×kR:=CJ (uA s)
end Go.Proofs.YtpjhmeicbjkcdaaGreatDoor
namespace Go.Proofs.YtpjhmeicbjkcdaaGreatDoor
open Go
structure o7 (r r':RS):Prop where
 st:r.e≠0->r'=r
 sf:r'.e=0->r'.ts <:+ r.ts
 en:(r.e=0->cU r.ts)->r'.e=0->cU r'.ts
 sb :∀t∈r'.ts,t∈r.ts
theorem o7.refl (r:RS):o7 r r:=⟨λ_=>rfl,λ_=>List.suffix_rfl,λh=>h,λ_ h=>h⟩
theorem o7.ok {r r':RS} (h:o7 r r') (h':r'.e=0):r.e=0:=j3 λc=>c (by rw[<-h.st c];exact h')
theorem o7.trans {r s t:RS} (a:o7 r s) (b:o7 s t):o7 r t:=
 ⟨λh=>by have e:=a.st h;rw[b.st (by rw[e];exact h),e],λh=>(b.sf h).trans (a.sf (b.ok h)),λh h'=>b.en (a.en h) h',λt ht=>a.sb t (b.sb t ht)⟩
theorem o7.bad {r r':RS} (h:o7 r r') (hr:r.e≠0):r'.e≠0:=by rw[h.st hr];exact hr
theorem o7.good {r r':RS} (h:o7 r r') (g:X4 r):X4 r':=⟨h.en g.l,λt ht=>g.t t (h.sb t ht)⟩
theorem o7.rem {r r':RS} (h:o7 r r'):G2 r'<=G2 r:=by
 unfold G2;by_cases h':r'.e=0
 ·rw[if_neg (λc=>c h'),if_neg (λc=>c (h.ok h'))];exact (h.sf h').length_le
 ·rw[if_pos h'];exact j0 _
theorem o7.ite {r a b:RS} {c:Prop} [Decidable c] (h1:o7 r a) (h2:o7 r b):o7 r (if c then a else b):=by split <;> assumption
theorem o7.next (r:RS):o7 r (C6 r):=by
 unfold C6;by_cases h:r.e=0/\(z8 r).1≠5
 ·rw[if_pos h];refine⟨λc=>absurd h.1 c,λ_=>List.tail_suffix _,λhe _=>?_,λt ht=>List.mem_of_mem_tail ht⟩;have h5:=h.2;unfold z8 at h5;rw[if_neg (λc=>c h.1)] at h5;exact (he h.1).tail h5
 ·rw[if_neg h];exact o7.refl r
theorem o7.fail (r:RS) (e:Int):o7 r (w9 r e):=by
 unfold w9;by_cases h:r.e=0
 ·rw[if_neg (λc=>c h)];by_cases he:e=0
  ·rw[if_neg (λc=>c he)];exact o7.refl r
  ·rw[if_pos he];exact⟨λc=>absurd h c,λc=>absurd c he,λ_ c=>absurd c he,λ_ ht=>ht⟩
 ·rw[if_pos h];exact o7.refl r
theorem o7.exp (r:RS) (s:d8):o7 r (s8 r s):=(o7.next r).ite (o7.fail r 14)
theorem o7.lim (r:RS) (c m:Nat):o7 r (H6 r c m):=(o7.fail r 6).ite (o7.refl r)
theorem o7.fin (r:RS):o7 r (GU r):=(o7.fail r 14).ite (o7.refl r)
theorem o7.take (r:RS) (s:d8):o7 r (R3 r s):=(o7.next r).ite (o7.refl r)
theorem o7.kind (r:RS) (z:Int):o7 r (J9 r z).1:=by
 unfold J9;split
 ·exact o7.fail r 14
 ·exact o7.next r
theorem o7.num (r:RS):o7 r (X0 r).1:=by
 unfold X0 qU;dsimp only;exact (((o7.take r [45]).trans (o7.fail _ 3)).ite (o7.take r [45])).trans (o7.kind _ 2)
theorem o7.int (r:RS) (lo hi:Int):o7 r (U2 r lo hi).1:=by
 unfold U2;split
 ·exact o7.num r
 ·split
  ·exact o7.fail r 2
  ·split
   ·exact o7.fail r 2
   ·exact o7.num r
theorem o7.namC (r:RS) (chk:d8->Int):o7 r (namC r chk):=((o7.fail r 11).ite (o7.fail r _)).ite (o7.refl r)
theorem o7.nam (r:RS) (chk:d8->Int):o7 r (L0 r chk).1:=by
 unfold L0;split
 ·exact (o7.namC r chk).trans (o7.kind _ 3)
 ·exact (o7.namC r chk).trans (o7.kind _ 1)
theorem o7.numb (r:RS):o7 r (L9 r).1:=by
 unfold L9;exact ((o7.num r).trans (o7.fail _ 5)).ite (o7.num r)
theorem o7.uns (r:RS):o7 r (xK r).1:=by
 unfold xK;exact ((o7.fail r 14).ite (o7.refl r)).trans (o7.num _)
theorem o7.itm {α:Type} {tk:RS->RS×α} (h :∀r,o7 r (tk r).1) :∀n r,o7 r (aD tk n r).1
 | 0,r=>o7.refl r
 | n+1,r=>by
  unfold aD;exact (((o7.itm h n r).trans (o7.exp _ _)).ite (o7.itm h n r)).trans (h _)
theorem o7.lst {α:Type} {tk:RS->RS×α} (h :∀r,o7 r (tk r).1) (n:Nat) (r:RS):o7 r (lE tk n r).1:=((o7.exp r _).trans (o7.itm h n _)).trans (o7.exp _ _)
theorem o7.ver (r:RS):o7 r (HY r).1:=o7.lst (λr=>o7.int r _ _) 3 r
theorem o7.vrs :∀f r out,o7 r (vD f r out).1
 | 0,r,_=>o7.refl r
 | f+1,r,out=>by
  unfold vD;split
  ·exact ((o7.lim r _ _).trans (o7.ver _)).trans (o7.vrs f _ _)
  ·exact o7.refl r
theorem o7.celV (r:RS) (cnt:Nat):o7 r (celV r cnt).1:=((o7.lim r _ _).trans (o7.exp _ _)).trans (o7.vrs _ _ _)
theorem o7.cels :∀f r out,o7 r (kL f r out).1
 | 0,r,_=>o7.refl r
 | f+1,r,out=>by
  unfold kL;split
  ·exact ((o7.celV r _).trans (o7.exp _ _)).trans (o7.cels f _ _)
  ·exact o7.refl r
theorem o7.par (names:List d8) (r:RS):o7 r (dM names r).1:=by
 unfold dM;dsimp only;exact (((((((o7.lim r _ _).trans (o7.exp _ _)).trans (o7.nam _ _)).trans (o7.exp _ _)).trans (o7.int _ _ _)).trans (o7.exp _ _)).trans (o7.cels _ _ _)).trans (o7.exp _ _)
theorem o7.ins (parts names:List d8) (r:RS):o7 r (kA parts names r).1:=by
 unfold kA;dsimp only;exact (((((((((o7.lim r _ _).trans (o7.exp _ _)).trans (o7.nam _ _)).trans (o7.exp _ _)).trans (o7.nam _ _)).trans (o7.exp _ _)).trans (o7.lst (λr=>o7.int r _ _) 4 _)).trans (o7.exp _ _)).trans (o7.lst o7.numb 3 _)).trans (o7.exp _ _)
theorem o7.dim (names:List d8) (r:RS):o7 r (kI names r).1:=by
 unfold kI rL;dsimp only;have h:=(((((((((o7.lim r names.length 64).trans (o7.exp _ Z8)).trans (o7.nam _ (Z6 names))).trans (o7.exp _ [61])).trans (o7.int _ (-1073741824) 1073741824)).trans (o7.exp _ [91])).trans (o7.int _ (-1073741824) 1073741824)).trans (o7.exp _ [44])).trans (o7.int _ (-1073741824) 1073741824)).trans (o7.exp _ [93]);exact ((h.trans (o7.fail _ 8)).ite h).trans (o7.exp _ _)
theorem o7.tmN (r:RS) (cnt:Nat):o7 r (jS r cnt).1:=by
 unfold jS;dsimp only;have h:=((o7.lim r cnt 64).trans (o7.next _)).trans (o7.uns _);exact (h.trans (o7.fail _ 5)).ite ((h.trans (o7.fail _ 19)).ite h)
theorem o7.trm (names:List d8) (last:Int) (r:RS) (cnt:Nat):o7 r (hZ names last r cnt).1:=by
 unfold hZ;dsimp only;exact ((o7.tmN r cnt).trans (o7.exp _ _)).trans (o7.nam _ _)
theorem o7.trms (names:List d8) :∀f r last out,o7 r (eJ names f r last out).1
 | 0,r,_,_=>o7.refl r
 | f+1,r,last,out=>by
  unfold eJ;split
  ·exact (o7.trm names last r _).trans (o7.trms names f _ _ _)
  ·exact o7.refl r
theorem o7.for (names:List d8) (r:RS):o7 r (qD names r).1:=by
 unfold qD;dsimp only;exact (((o7.exp r _).trans (o7.numb _)).trans (o7.trms names _ _ _ _)).trans (o7.exp _ _)
theorem o7.args {g:RS->Nat->RS×Nat×Ex} (h :∀r k,o7 r (g r k).1) :∀f r k out,o7 r (Z0 g f r k out).1
 | 0,r,_,_=>o7.refl r
 | f+1,r,k,out=>by
  unfold Z0;split
  ·exact ((o7.next r).trans (h _ _)).trans (o7.args h f _ _ _)
  ·exact o7.refl r
theorem o7.expS (d:Nat) (r:RS) (k:Nat):o7 r (expS d r k):=(o7.fail r 14).ite ((o7.fail r 15).ite (o7.lim r _ _))
theorem o7.expr (names:List d8) :∀d r k,o7 r (J8 names d r k).1
 | 0,r,k=>o7.expS 0 r k
 | d+1,r,k=>by
  unfold J8;split
  ·exact o7.expS (d+1) r k
  ·split
   ·exact o7.for names r
   ·dsimp only;have h1:o7 r (if (JG (z8 r).2.1).getD 0=2 then L9 (C6 r) else (C6 r,[])).1:=by
     split
     ·exact (o7.next r).trans (o7.numb _)
     ·exact o7.next r
    have h2:=(h1.trans (o7.exp _ [40])).trans (o7.expr names d _ (k+1));refine o7.trans ?_ (o7.exp _ _);split
    ·exact h2.trans (o7.args (o7.expr names d) _ _ _ _)
    ·exact h2
theorem o7.con (names dims:List d8) (r:RS):o7 r (iC names dims r).1:=by
 unfold iC;dsimp only;have h:=(((((o7.lim r names.length 64).trans (o7.exp _ Y8)).trans (o7.nam _ (Z6 names))).trans (o7.exp _ [58])).trans (o7.for dims _)).trans (o7.exp _ [60,61]);exact (((h.trans (o7.fail _ 14)).ite h).trans (o7.next _)).trans (o7.exp _ _)
theorem o7.opt (r:RS) (w:d8):o7 r (if S7 r w=true then L9 (C6 r) else (r,[])).1:=by
 split
 ·exact (o7.next r).trans (o7.numb _)
 ·exact o7.refl r
theorem o7.req (names dims:List d8) (r:RS):o7 r (eQ names dims r).1:=by
 unfold eQ;dsimp only;have h:=((((((o7.lim r names.length 64).trans (o7.exp _ W7)).trans (o7.nam _ (Z6 names))).trans (o7.exp _ [58])).trans (o7.expr dims 8 _ 0)).trans (o7.opt _ iG)).trans (o7.opt _ HW);exact ((h.trans (o7.fail _ 8)).ite h).trans (o7.exp _ _)
theorem o7.its {α:Type} (w:d8) {tk:List α->RS->RS×α} (h :∀o r,o7 r (tk o r).1) :∀f r out,o7 r (W4 w tk f r out).1
 | 0,r,_=>o7.refl r
 | f+1,r,out=>by
  unfold W4;split
  ·exact (h _ r).trans (o7.its w h f _ _)
  ·exact o7.refl r
theorem P5 {r:RS} {s:d8} (h:S7 r s=true):r.e=0/\((z8 r).1=1\/(z8 r).1=4)/\(z8 r).2.1=s:=by
 unfold S7 at h;rw[j4,Q3,decide_eq_true_iff,decide_eq_true_iff,decide_eq_true_iff] at h;refine⟨j3 λc=>?_,h⟩;have h5:(z8 r).1=5:=by unfold z8;rw[if_pos c]
 rcases h.1 with e | e <;> rw[h5] at e <;> exact absurd e dc
theorem GH {r:RS} (he:r.e=0->cU r.ts) (h0:r.e=0) (h5:(z8 r).1≠5):G2 (C6 r) < G2 r:=by
 have hp:=(he h0).pos;unfold C6;rw[if_pos ⟨h0,h5⟩];unfold G2;dsimp only;rw[if_neg (λc=>c h0),if_neg (λc=>c h0),List.length_tail];omega
theorem YB {r:RS} {s:d8} (he:r.e=0->cU r.ts) (h:S7 r s=true):G2 (s8 r s) < G2 r:=by
 obtain⟨h0,hk,_⟩:=P5 h;unfold s8;rw[if_pos h];exact GH he h0 (by rcases hk with e | e <;> rw[e] <;> decide)
theorem rK {r:RS} {s:d8} {c m:Nat} (he:r.e=0->cU r.ts) (h:S7 r s=true):G2 (s8 (H6 r c m) s) < G2 r:=by
 obtain⟨h0,hk,_⟩:=P5 h;unfold H6;split
 ·have h1:=aK r (show (6:Int)≠0 by decide);have h2:=(o7.exp (w9 r 6) s).bad h1;have hp:=(he h0).pos;unfold G2;rw[if_pos h2,if_neg (λc=>c h0)];exact hp
 ·exact YB he h
theorem kX {r:RS} {s:d8} (he:r.e=0->cU r.ts) (h:S7 r s=true):0 < G2 r:=p8 (j0 _) (YB he h)
end Go.Proofs.YtpjhmeicbjkcdaaGreatDoor
namespace Go.Proofs.YtpjhmeicbjkcdaaGreatDoor
open Go Go.RowKit Go.Dw
theorem sT {n1:Bool} {a1 a2:Option Addr} {k1 c1 k2 c2 y:Nat} (w:World) (hM2:cA (Hp.whole w) (.slice a2 k2 c2) y) :
  j2 Tryz.prog 149 #[cI n1 a1 k1 c1 false a2 k2 c2] w (v8 w (.bool (decide (y=0\/y=1)))):=by
 unfold cI;refine enterZ (cx 14) [.agg #[.bool n1,.slice a1 k1 c1,.bool false,.slice a2 k2 c2]] [.tmp 2] Tryz.func149 ?_;intro b1;refine u6.by_order cQ (.take 0 <| .take 1 <| .run 2 <| .take 3 <| .take 4 <| .take 5 <| .take 6 <| .run 7 <| .run 8 <| .take 9 <| .take 10 <| .take 11 <| .done) kr ?_;refine k7 _ (λw' hm=>cG w' (hM2.mono (hm 0 _ rfl).whole)) ?_;refine⟨sK,?_⟩;refine d9 (λh1=>?_) λh1=>?_
 ·have h1:y=0:=by
   refine j3 λc=>?_;rw[if_neg c] at h1;cases h1
  (iterate 2 refine⟨sK,?_⟩);exact⟨[],⟨by rw[decide_eq_true (Or.inl h1)],rfl⟩,pk [0]⟩
 ·have h1:y≠0:=λc=>h1 (by rw[if_pos c]);refine call (λw' hm=>tX w') ?_;rintro _ _ ⟨g3,a3,k3,c3,rfl,rfl,hM3⟩;refine⟨sK,?_⟩;refine k7 _ (λw' hm=>dA w' (hM2.mono (hm 0 _ rfl).whole) (hM3.mono (hm 2 _ rfl).whole) nofun nofun) ?_;refine⟨sK,?_⟩;refine⟨[],⟨?_,rfl⟩,pk [0]⟩;congr 1
  rw[decide_eq_decide,yI];exact⟨λh=>.inr h,λh=>h.resolve_left h1⟩
theorem IV {n1:Bool} {a1 a2:Option Addr} {k1 c1 k2 c2 x y:Nat} (w:World) (hM1:cA (Hp.whole w) (.slice a1 k1 c1) x) (hM2:cA (Hp.whole w) (.slice a2 k2 c2) y) :
  j2 Tryz.prog 204 #[cI n1 a1 k1 c1 false a2 k2 c2] w (v8 w (.tuple #[iQ (if y=0\/y=1 then (fB n1 x).1 else 0),.bool (decide (y=0\/y=1) && (fB n1 x).2)])):=by
 unfold cI;refine enterZ (cx 12) [.agg #[.bool n1,.slice a1 k1 c1,.bool false,.slice a2 k2 c2]] [.tmp 2,.tmp 3] Tryz.func204 ?_;intro b1;refine k7 _ (λw' hm=>by
  have:=sT (n1:=n1) (a1:=a1) (k1:=k1) (c1:=c1) w' (hM2.mono (hm 0 _ rfl).whole);unfold cI at this;exact this) ?_
 by_cases hy:y=0\/y=1
 ·rw[decide_eq_true hy,if_pos hy];refine k7 _ (λw' hm=>XI w' (hM1.mono (hm 0 _ rfl).whole)) ?_;exact⟨[],⟨rfl,rfl⟩,pk [0]⟩
 ·rw[decide_eq_false hy,if_neg hy];exact⟨[],⟨rfl,rfl⟩,pk [0]⟩
theorem ZV (r:RS) :∀t∈(C6 r).ts,t∈r.ts:=by
 unfold C6;split
 ·exact λt h=>List.mem_of_mem_tail h
 ·exact λt h=>h
theorem ZW (r:RS) (e:Int):(w9 r e).ts=r.ts:=by
 unfold w9;split
 ·rfl
 ·split <;> rfl
theorem Ji (r:RS) :∀t∈(qU r).ts,t∈r.ts:=by
 have h1 :∀t∈(R3 r [45]).ts,t∈r.ts:=by
  unfold R3;split
  ·exact ZV r
  ·exact λt h=>h
 unfold qU;split
 ·rw[ZW];exact h1
 ·exact h1
theorem WO {r:RS} (h :∀t∈r.ts,t.2.1.length < 900000):(z8 r).2.1.length < 900000:=by
 unfold z8;split
 ·exact E3 _
 ·cases hts:r.ts with
  | nil=>exact E3 _
  | cons t ts=>exact h t (by rw[hts];simp)
theorem WU {r:RS} (h :∀t∈r.ts,t.2.1.length < 900000):(X0 r).2.length < 1000000:=by
 have h1:(J9 (qU r) 2).2.length < 900000:=by
  unfold J9;split
  ·exact E3 _
  ·exact WO λt ht=>h t (Ji r t ht)
 unfold X0;dsimp only;split
 ·exact E3 _
 ·rw[d6];split
  ·rw[p7];omega
  ·rw[i6];omega
theorem RY {s:d8} (h:X9 400 s≠0):qA s=none:=by unfold qA;rw[if_neg h]
theorem RZ {s:d8} (h : ¬ (xQ s=0\/xQ s=1)):qA s=none:=by
 unfold qA;rw[if_neg h,ite_self]
theorem WI {s:d8} (h:X9 400 s=0) (h1:xQ s=0\/xQ s=1):qA s=DF (fB (bH (J6 s).1) (P6 (M4 (J6 s).1))):=by unfold qA;rw[if_pos h,if_pos h1]
set_option maxRecDepth 20000 in
set_option maxHeartbeats 1000000 in
theorem uY {k h:Hp} {b:Nat} {r:RS} {lo hi:Int} (w:World) (hin:h.In w) (hk:k.le ((Hp.whole w).minus h)) (hR:G0 k h b r) :
  j2 Tryz.prog 159 #[pQ b,iQ lo,iQ hi] w (O3 w h λv h' cs=>cs = []/\v=iQ (U2 r lo hi).2/\G0 k h' b (U2 r lo hi).1):=by
 have hR0:=hR;obtain⟨a,n,c,hO,hS,hE,hB⟩:=hR;have hn:=hS.len;have hlen0:=WU hB;unfold MQ at hO;refine enterMZ (cx 57) [pQ b,iQ lo,iQ hi] hin [.tmp 6] Tryz.func159 ?_;refine Be ?_;refine nX cQ (i:=1) rfl (λj v hv=>by
  obtain⟨b',arr,e,_,_,h4⟩:=hO.cell hv;cases e;rw[w7];exact h4) rfl ?_
 intro b7;refine k6 (i:=1) rfl (λw0 w' hok=>iS w' (hok.mem 1 _ rfl) (hok.kle rfl rfl hk) hR0) ?_;rintro _ h2 _ ⟨rfl,rfl,hR2⟩;have hlen:(X0 r).2.length < 1000000:=hlen0;have hR2':=hR2;obtain⟨a',n',c',hO2,hS2,hE2,hB2⟩:=hR2;unfold MQ at hO2;refine bK (j:=3) cQ (i:=1) rfl hO2 rfl rfl ?_;refine d9 (λh3=>?_) λh3=>?_
 ·have h3:(X0 r).1.e≠0:=h3;have hI:U2 r lo hi=((X0 r).1,0):=by unfold U2;rw[if_pos h3]
  exact⟨h2,[],⟨rfl,by rw[hI],by rw[hI];exact hR2'⟩,pk [0,1]⟩
 ·have h3 : ¬ (X0 r).1.e≠0:=h3;have hI0:U2 r lo hi=match qA (X0 r).2 with
   | none=>(w9 r 2,0)
   | some n=>if n < lo\/hi < n then (w9 r 2,0) else ((X0 r).1,n):=by unfold U2;rw[if_neg h3] <;> rfl
  refine call (λw' hm=>U9 (X0 r).2 hlen w') ?_;rintro _ _ ⟨g,rfl,n1,a1,k1,c1,a2,k2,c2,x,y,rfl,hM1,hM2,hp,hz,hnz⟩;intro b9;refine k7 _ (λw' hm=>IV w' (hM1.mono (hm 3 _ rfl).whole) (hM2.mono (hm 3 _ rfl).whole)) ?_;refine d9 (λh4=>?_) λh4=>?_;focus
   have h4:X9 400 (X0 r).2≠0:=h4;have hI:U2 r lo hi=(w9 r 2,0):=by rw[hI0,RY h4]
  rotate_left
  focus
   have h4:X9 400 (X0 r).2=0:=j3 h4;obtain⟨e1,e2,e3⟩:=hz h4;have hpro:qA (X0 r).2=if (decide (y=0\/y=1) && (fB n1 x).2)=true then some (if y=0\/y=1 then (fB n1 x).1 else 0) else none:=by
    by_cases hy:y=0\/y=1
    ·rw[WI h4 (by unfold xQ;rw[<-e3];exact hy),<-e1,<-e2,decide_eq_true hy,if_pos hy,D9];rfl
    ·rw[RZ (by unfold xQ;rw[<-e3];exact hy),decide_eq_false hy];rfl
   generalize (decide (y=0\/y=1) && (fB n1 x).2)=ok at *;generalize (if y=0\/y=1 then (fB n1 x).1 else 0)=val at *;refine v7 (λh5=>?_) λh5=>?_;focus
    have h5:ok=false:=by simpa using h5
    have hI:U2 r lo hi=(w9 r 2,0):=by rw[hI0,hpro,h5];rfl
   rotate_left
   ·have h5:ok=true:=by simpa using h5
    rw[h5,if_pos rfl] at hpro;rw[hpro] at hI0;dsimp only at hI0;refine d9 (λh6=>?_) λh6=>?_;focus
     have hI:U2 r lo hi=(w9 r 2,0):=by rw[hI0,if_pos (.inl h6)]
    rotate_left
    focus
     refine d9 (λh7=>?_) λh7=>?_;focus
      have hI:U2 r lo hi=(w9 r 2,0):=by rw[hI0,if_pos (.inr h7)]
     rotate_left
     ·have hI:U2 r lo hi=((X0 r).1,val):=by rw[hI0,if_neg (λg=>g.elim h6 h7)]
      exact⟨h2,[],⟨rfl,by rw[hI],by rw[hI];exact hR2'⟩,pk [0,1]⟩
    all_goals
     refine US (j:=0) cQ (i:=1) rfl hO2 rfl rfl rfl dc rfl λh5 hO5=>?_;have hR5:G0 k h5 b r:=⟨a,n,c,hO5,hS,hE,hB⟩
     refine k6 (i:=1) rfl (λw0 w' hok=>F9 (e:=2) w' (hok.mem 1 _ rfl) (hok.kle rfl rfl hk) hR5) ?_;rintro _ h6 _ ⟨rfl,hR6⟩;exact⟨h6,[],⟨rfl,by rw[hI],by rw[hI];exact hR6⟩,pk [0,1]⟩
  all_goals
   refine US (j:=0) cQ (i:=1) rfl hO2 rfl rfl rfl dc rfl λh5 hO5=>?_;have hR5:G0 k h5 b r:=⟨a,n,c,hO5,hS,hE,hB⟩
   refine k6 (i:=1) rfl (λw0 w' hok=>F9 (e:=2) w' (hok.mem 1 _ rfl) (hok.kle rfl rfl hk) hR5) ?_;rintro _ h6 _ ⟨rfl,hR6⟩;exact⟨h6,[],⟨rfl,by rw[hI],by rw[hI];exact hR6⟩,pk [0,1]⟩
end Go.Proofs.YtpjhmeicbjkcdaaGreatDoor
namespace Go.Proofs.YtpjhmeicbjkcdaaGreatDoor
open Go Go.RowKit Go.Dw
theorem oH {l:List Value} {q:List Value->Prop} (h:q l):lI l q:=by rw[aY];exact h
structure DR (c k h:Hp) (rb b:Nat) (r:RS):Prop where
 hk:k.le c
 hR:G0 k h b r
 hB:c.cell? ⟨rb,0,none⟩=some (pQ b)
theorem DR.mono {c c' k h:Hp} {rb b:Nat} {r:RS} (hc:c.le c') (d:DR c k h rb b r):DR c' k h rb b r:=⟨d.hk.trans hc,d.hR,hc.cell d.hB⟩
theorem DR.to {c k h h':Hp} {rb b:Nat} {r r':RS} (d:DR c k h rb b r) (hR:G0 k h' b r'):DR c k h' rb b r':=⟨d.hk,hR,d.hB⟩
abbrev UP (w:World) (k h:Hp) (b:Nat) (v:Value) (r':RS):Ending->World->Prop:=O3 w h λv' h' cs=>cs = []/\v'=v/\G0 k h' b r'
section
variable {k h:Hp} {rb b:Nat} {r:RS}
theorem M6 {count most:Int} {n m:Nat} (hn:count=n) (hm:most=m) (w:World) (hin:h.In w) (hd:DR ((Hp.whole w).minus h) k h rb b r) :
  j2 Tryz.prog 156 #[pQ rb,iQ count,iQ most] w (O3 w h λ_ h' cs=>cs = []/\G0 k h' b (H6 r n m)):=by
 subst hn;subst hm;refine enterMZ (cx 14) [pQ rb,iQ (n:Int),iQ (m:Int)] hin [] Tryz.func156 ?_;unfold H6;refine d9 (λh1=>?_) λh1=>?_
 ·rw[if_pos om];refine lQ 0 hd.hB ?_;refine k6 (i:=1) rfl (λw0 w' hok=>F9 w' (hok.mem 1 _ rfl) (hok.kle rfl rfl hd.hk) hd.hR) ?_;rintro _ h3 _ ⟨rfl,hR3⟩;exact⟨h3,[],⟨rfl,hR3⟩,pk [0,1]⟩
 ·rw[if_neg om];exact⟨h,[],⟨rfl,hd.hR⟩,pk [0,1]⟩
theorem V0 (w:World) (hin:h.In w) (hd:DR ((Hp.whole w).minus h) k h rb b r) :
  j2 Tryz.prog 167 #[pQ rb] w (UP w k h b (sv (L9 r).2) (L9 r).1):=by
 refine enterMZ (cx 18) [pQ rb] hin [.tmp 2] Tryz.func167 ?_;refine lQ 0 hd.hB ?_;refine k6 (i:=1) rfl (λw0 w' hok=>iS w' (hok.mem 1 _ rfl) (hok.kle rfl rfl hd.hk) hd.hR) ?_;rintro _ h2 _ ⟨rfl,rfl,hR2⟩;unfold L9;refine d9 (λh1=>?_) λh1=>?_
 ·rw[C8] at h1;rw[if_pos om];refine lQ 0 hd.hB ?_;refine k6 (i:=1) rfl (λw0 w' hok=>F9 w' (hok.mem 1 _ rfl) (hok.kle rfl rfl hd.hk) hR2) ?_;rintro _ h3 _ ⟨rfl,hR3⟩;exact⟨h3,[],⟨rfl,rfl,hR3⟩,pk [0,1]⟩
 ·rw[C8] at h1;rw[if_neg om];exact⟨h2,[],⟨rfl,rfl,hR2⟩,pk [0,1]⟩
theorem xJ (w:World) (hin:h.In w) (hd:DR ((Hp.whole w).minus h) k h rb b r) :
  j2 Tryz.prog 205 #[pQ rb] w (UP w k h b (sv (xK r).2) (xK r).1):=by
 refine enterMZ (cx 20) [pQ rb] hin [.tmp 2] Tryz.func205 ?_;refine lQ 0 hd.hB ?_;refine k7 _ (λw' hm=>R7 w' (hm 1 _ rfl) (hd.hk.trans (hm 0 _ rfl).whole) hd.hR) ?_;unfold xK;refine d9 (λh1=>?_) λh1=>?_
 ·have h1':(z8 r).1≠2:=h1;rw[if_pos h1'];refine lQ 0 hd.hB ?_;refine k6 (i:=1) rfl (λw0 w' hok=>F9 w' (hok.mem 1 _ rfl) (hok.kle rfl rfl hd.hk) hd.hR) ?_;rintro _ h3 _ ⟨rfl,hR3⟩;refine lQ 0 hd.hB ?_;refine k6 (i:=1) rfl (λw0 w' hok=>iS w' (hok.mem 1 _ rfl) (hok.kle rfl rfl hd.hk) hR3) ?_;rintro _ h2 _ ⟨rfl,rfl,hR2⟩;exact⟨h2,[],⟨rfl,rfl,hR2⟩,pk [0,1]⟩
 ·have h1' : ¬ (z8 r).1≠2:=h1;rw[if_neg h1'];refine lQ 0 hd.hB ?_;refine k6 (i:=1) rfl (λw0 w' hok=>iS w' (hok.mem 1 _ rfl) (hok.kle rfl rfl hd.hk) hd.hR) ?_;rintro _ h2 _ ⟨rfl,rfl,hR2⟩;exact⟨h2,[],⟨rfl,rfl,hR2⟩,pk [0,1]⟩
theorem S4 (w:World) (hin:h.In w) (hR:G0 k h b r) (hB:(Hp.whole w).cell? ⟨rb,0,none⟩=some (pQ b)) :
  j2 Tryz.prog 208 #[pQ rb] w (v8 w (.bool (decide (r.e≠0)))):=by
 refine enterZ (cx 17) [pQ rb] [.tmp 2] Tryz.func208 ?_;refine lQ 0 hB ?_;refine k7 _ (λw' hm=>CB w' ((hm 0 _ rfl).le hin.whole) hR) ?_;exact⟨[],⟨rfl,rfl⟩,pk [0]⟩
theorem jG (w:World) (hin:h.In w) (hd:DR ((Hp.whole w).minus h) k h rb b r) :
  j2 Tryz.prog 169 #[pQ rb] w (UP w k h b (iQ (rL r).2) (rL r).1):=by
 refine enterMZ (cx 8) [pQ rb] hin [.tmp 2] Tryz.func169 ?_;refine lQ 0 hd.hB ?_;refine k6 (i:=1) rfl (λw0 w' hok=>uY w' (hok.mem 1 _ rfl) (hok.kle rfl rfl hd.hk) hd.hR) ?_;rintro _ h2 _ ⟨rfl,rfl,hR2⟩;exact⟨h2,[],⟨rfl,rfl,hR2⟩,pk [0,1]⟩
theorem CS (s:d8) (w:World):j2 Tryz.prog 78 #[sv s] w (v8 w (iQ 0)):=by
 refine enterZ (cx 3) [sv s] [.tmp 2] Tryz.func78 ?_;exact⟨[],⟨rfl,rfl⟩,pk [0]⟩
set_option maxRecDepth 10000 in
theorem O6 {g:Nat} {cap:List Value} {chk:d8->Int} (w:World) (hin:h.In w) (hd:DR ((Hp.whole w).minus h) k h rb b r)
  (hc :∀w',((Hp.whole w).minus h).In w'->∀s:d8,s.length < 900000->j2 Tryz.prog g (sv s::cap).toArray w' (v8 w' (iQ (chk s)))) :
  j2 Tryz.prog 77 #[pQ rb,.func (.func g) #[] cap.toArray] w (UP w k h b (sv (L0 r chk).2) (L0 r chk).1):=by
 have hpk:=hd.hR.peekB;refine enterMZ (cx 50) [pQ rb,.func (.func g) #[] cap.toArray] hin [.tmp 4] Tryz.func77 ?_;obtain⟨c0,hc0⟩ :∃c0,c0=(Hp.whole w).minus h:=⟨_,rfl⟩
 rw[<-hc0] at hd hc ⊢;refine lQ 0 hd.hB ?_;refine k7 _ (λw' hm=>R7 w' (hm 1 _ rfl) (hd.hk.trans (hm 0 _ rfl).whole) hd.hR) ?_;obtain⟨⟨K,T,ln,co⟩,hP⟩ :∃p,p=z8 r:=⟨_,rfl⟩
 rw[<-hP] at hpk ⊢;dsimp only at hpk;intro b5;refine d9 (λh1=>?_) λh1=>?_;focus
  have hnm:rN (z8 r):=by rw[<-hP];exact .inl h1
 rotate_left
 focus
  refine d9 (λh2=>?_) λh2=>?_;focus
   have hnm:rN (z8 r):=by rw[<-hP];exact .inr h2
  rotate_left
  ·have hnm : ¬ rN (z8 r):=by rw[<-hP];exact λc=>c.elim h1 h2
   have hC:namC r chk=r:=by unfold namC;rw[if_neg hnm]
   refine d9 (λh6=>?_) λh6=>?_
   ·refine lQ 0 hd.hB ?_;refine k6 (i:=1) rfl (λw0 w' hok=>fP w' (hok.mem 1 _ rfl) (hok.kle rfl rfl hd.hk) hd.hR) ?_;rintro _ h2 _ ⟨rfl,rfl,hR2⟩;have e:L0 r chk=J9 r 3:=by unfold L0;rw[<-hP,if_pos h6,hC]
    rw[e];exact⟨h2,[],⟨rfl,rfl,hR2⟩,pk [0,1]⟩
   ·refine lQ 0 hd.hB ?_;refine k6 (i:=1) rfl (λw0 w' hok=>fV w' (hok.mem 1 _ rfl) (hok.kle rfl rfl hd.hk) hd.hR) ?_;rintro _ h2 _ ⟨rfl,rfl,hR2⟩;have e:L0 r chk=J9 r 1:=by unfold L0;rw[<-hP,if_neg h6,hC]
    rw[e];exact⟨h2,[],⟨rfl,rfl,hR2⟩,pk [0,1]⟩
 all_goals
  refine k7 _ (λw' hm=>dP T w') ?_;refine v7 (λh3=>?_) λh3=>?_
  ·have h3:D8 T=false:=by simpa using h3
   have hC:namC r chk=w9 r 11:=by unfold namC;rw[if_pos hnm,<-hP,if_pos h3]
   refine lQ 0 hd.hB ?_;refine k6 (i:=1) rfl (λw0 w' hok=>F9 w' (hok.mem 1 _ rfl) (hok.kle rfl rfl hd.hk) hd.hR) ?_;rintro _ h1 _ ⟨rfl,hR1⟩;refine d9 (λh6=>?_) λh6=>?_
   ·refine lQ 0 hd.hB ?_;refine k6 (i:=1) rfl (λw0 w' hok=>fP w' (hok.mem 1 _ rfl) (hok.kle rfl rfl hd.hk) hR1) ?_;rintro _ h2 _ ⟨rfl,rfl,hR2⟩;have e:L0 r chk=J9 (w9 r 11) 3:=by unfold L0;rw[<-hP,if_pos h6,hC]
    rw[e];exact⟨h2,[],⟨rfl,rfl,hR2⟩,pk [0,1]⟩
   ·refine lQ 0 hd.hB ?_;refine k6 (i:=1) rfl (λw0 w' hok=>fV w' (hok.mem 1 _ rfl) (hok.kle rfl rfl hd.hk) hR1) ?_;rintro _ h2 _ ⟨rfl,rfl,hR2⟩;have e:L0 r chk=J9 (w9 r 11) 1:=by unfold L0;rw[<-hP,if_neg h6,hC]
    rw[e];exact⟨h2,[],⟨rfl,rfl,hR2⟩,pk [0,1]⟩
  ·have h3:D8 T=true:=by simpa using h3
   have hC:namC r chk=w9 r (chk T):=by unfold namC;rw[if_pos hnm,<-hP,if_neg (by rw[h3];decide)]
   refine u6.cut Hp (λ_=>[(0,.v (pQ rb)),(5,.bx 2 0)]) (λg=>[.hp c0,.hp g,.box b5 [iQ K,sv T,iQ ln,iQ co] 211]) (λg=>G0 k g b (w9 r (chk T))) (u6.by_order0 cQ (.take 0 <| .take 1 <| .take 2 <| .take 3 <| .take 4 <| .take 5 <| .take 6 <| .run 7 <| .run 8 <| .done) kr (J5 _ 1) ?_) ?_
   ·refine lQ 0 hd.hB ?_;refine oH ?_;refine k7 _ (λw' hm=>hc w' (hm 0 _ rfl) T hpk) ?_;refine⟨sK,?_⟩;refine k6 (i:=1) rfl (λw0 w' hok=>F9 w' (hok.mem 1 _ rfl) (hok.kle rfl rfl hd.hk) hd.hR) ?_;rintro _ h1 _ ⟨rfl,hR1⟩;refine⟨sK,?_⟩;exact⟨h1,hR1,y6.mk (pj [0,1,2]) rfl rfl⟩
   intro h1 hR1 _;refine d9 (λh6=>?_) λh6=>?_
   ·refine lQ 0 hd.hB ?_;refine k6 (i:=1) rfl (λw0 w' hok=>fP w' (hok.mem 1 _ rfl) (hok.kle rfl rfl hd.hk) hR1) ?_;rintro _ h2 _ ⟨rfl,rfl,hR2⟩;have e:L0 r chk=J9 (w9 r (chk T)) 3:=by unfold L0;rw[<-hP,if_pos h6,hC]
    rw[e];exact⟨h2,[],⟨rfl,rfl,hR2⟩,pk [0,1]⟩
   ·refine lQ 0 hd.hB ?_;refine k6 (i:=1) rfl (λw0 w' hok=>fV w' (hok.mem 1 _ rfl) (hok.kle rfl rfl hd.hk) hR1) ?_;rintro _ h2 _ ⟨rfl,rfl,hR2⟩;have e:L0 r chk=J9 (w9 r (chk T)) 1:=by unfold L0;rw[<-hP,if_neg h6,hC]
    rw[e];exact⟨h2,[],⟨rfl,rfl,hR2⟩,pk [0,1]⟩
end
end Go.Proofs.YtpjhmeicbjkcdaaGreatDoor
namespace Go.Dw
open Go Go.RowKit
theorem dU {X:Q2} {x y:Code} {Q:Ex->Tm->List Ch->Prop} {t:Tm} {s:List Ch} {c:Operand} (h:ZJ t c=some (.v (.bool false))) (hq:WP X y Q t s):WP X (.cond c x y) Q t s:=by
 unfold WP tvk;rw[h];exact hq
theorem TS {X:Q2} {x y:Code} {Q:Ex->Tm->List Ch->Prop} {t:Tm} {s:List Ch} {c:Operand} (h:ZJ t c=some (.v (.bool true))) (hq:WP X x Q t s):WP X (.cond c x y) Q t s:=by
 unfold WP tvk;rw[h];exact hq
theorem Ok.le01 {w0 w:World} {s:List Ch} {c0 h:Hp} (hok:Ok w0 s w) (h0:l7 s 0=some (.hp c0)) (h1:l7 s 1=some (.hp h)):c0.le ((Hp.whole w).minus h):=
 Hp.le_minus (hok.mem 0 _ h0).whole (hok.disj 0 1 _ _ dc h0 h1)
end Go.Dw
namespace Go.Proofs.YtpjhmeicbjkcdaaGreatDoor
open Go Go.RowKit Go.Dw
theorem _root_.Go.Dw.Ok.bx1 {w0 w:World} {s:List Ch} {h:Hp} {j bb T:Nat} {cs:List Value} (hok:Ok w0 s w) (h1:l7 s 1=some (.hp h)) (hj:l7 s j=some (.box bb cs T)) (hn:j≠1) {n:Nat} {v:Value} (hv:cs[n]?=some v):((Hp.whole w).minus h).cell? ⟨bb,n,none⟩=some v:=
 (Hp.le_minus (hok.mem j _ hj).whole (hok.disj j 1 _ _ hn hj h1)).cell (I0 bb T hv)
theorem nP {a:Option Addr} {n c b:Nat} {L:List V9} (i:Nat) (w:World) (hc:(Hp.whole w).cell? ⟨b,0,none⟩=some (.slice a n c)) (hL:Sl cN 3 (Hp.whole w) a n c L) (hk:i < (L.map λx:V9=>x.1).length) :
  j2 Tryz.prog 158 #[iQ i,pQ b] w (v8 w (sv (L.map λx:V9=>x.1)[i])):=by
 have hk2:i < L.length:=by rw[j6] at hk;exact hk
 rw[aO];refine enterZ (cx 9) [iQ i,pQ b] [.tmp 3] Tryz.func158 ?_;refine lQ 0 hc ?_;refine R2 cQ (e:=83) rfl hL i rfl hk2 λb9 o9 cs hcs hR hcell=>?_;obtain⟨a3,n3,c3,rfl,hs3⟩:=hR;refine lQ 0 (hcell 0 _ rfl) ?_;exact⟨[],⟨rfl,rfl⟩,pk [0]⟩
theorem oB {a:Option Addr} {n c b:Nat} {L:List lW} (i:Nat) (w:World) (hc:(Hp.whole w).cell? ⟨b,0,none⟩=some (.slice a n c)) (hL:Sl (E0 fF) 9 (Hp.whole w) a n c L) (hk:i < (L.map λx:lW=>x.1).length) :
  j2 Tryz.prog 162 #[iQ i,pQ b] w (v8 w (sv (L.map λx:lW=>x.1)[i])):=by
 have hk2:i < L.length:=by rw[j6] at hk;exact hk
 rw[aO];refine enterZ (cx 9) [iQ i,pQ b] [.tmp 3] Tryz.func162 ?_;refine lQ 0 hc ?_;refine R2 cQ (e:=93) rfl hL i rfl hk2 λb9 o9 cs hcs hR hcell=>?_;subst hR;refine lQ 0 (hcell 0 _ rfl) ?_;exact⟨[],⟨rfl,rfl⟩,pk [0]⟩
theorem KU {a:Option Addr} {n c b:Nat} {L:List O7} (i:Nat) (w:World) (hc:(Hp.whole w).cell? ⟨b,0,none⟩=some (.slice a n c)) (hL:Sl (E0 P2) 4 (Hp.whole w) a n c L) (hk:i < (L.map λx:O7=>x.1).length) :
  j2 Tryz.prog 168 #[iQ i,pQ b] w (v8 w (sv (L.map λx:O7=>x.1)[i])):=by
 have hk2:i < L.length:=by rw[j6] at hk;exact hk
 rw[aO];refine enterZ (cx 9) [iQ i,pQ b] [.tmp 3] Tryz.func168 ?_;refine lQ 0 hc ?_;refine R2 cQ (e:=48) rfl hL i rfl hk2 λb9 o9 cs hcs hR hcell=>?_;subst hR;refine lQ 0 (hcell 0 _ rfl) ?_;exact⟨[],⟨rfl,rfl⟩,pk [0]⟩
theorem LB {a:Option Addr} {n c b:Nat} {L:List kT} (i:Nat) (w:World) (hc:(Hp.whole w).cell? ⟨b,0,none⟩=some (.slice a n c)) (hL:Sl qF 3 (Hp.whole w) a n c L) (hk:i < (L.map λx:kT=>x.1).length) :
  j2 Tryz.prog 170 #[iQ i,pQ b] w (v8 w (sv (L.map λx:kT=>x.1)[i])):=by
 have hk2:i < L.length:=by rw[j6] at hk;exact hk
 rw[aO];refine enterZ (cx 9) [iQ i,pQ b] [.tmp 3] Tryz.func170 ?_;refine lQ 0 hc ?_;refine R2 cQ (e:=96) rfl hL i rfl hk2 λb9 o9 cs hcs hR hcell=>?_;obtain⟨a3,n3,c3,rfl,hs3⟩:=hR;refine lQ 0 (hcell 0 _ rfl) ?_;exact⟨[],⟨rfl,rfl⟩,pk [0]⟩
theorem IS {d:Nat} {a:Option Addr} {n c b:Nat} {L:List kP} (i:Nat) (w:World) (hc:(Hp.whole w).cell? ⟨b,0,none⟩=some (.slice a n c)) (hL:Sl (mK d) 8 (Hp.whole w) a n c L) (hk:i < (L.map λx:kP=>x.1).length) :
  j2 Tryz.prog 173 #[iQ i,pQ b] w (v8 w (sv (L.map λx:kP=>x.1)[i])):=by
 have hk2:i < L.length:=by rw[j6] at hk;exact hk
 rw[aO];refine enterZ (cx 9) [iQ i,pQ b] [.tmp 3] Tryz.func173 ?_;refine lQ 0 hc ?_;refine R2 cQ (e:=74) rfl hL i rfl hk2 λb9 o9 cs hcs hR hcell=>?_;obtain⟨xs,rfl,hx⟩:=hR;refine lQ 0 (hcell 0 _ rfl) ?_;exact⟨[],⟨rfl,rfl⟩,pk [0]⟩
theorem U4 (count:Int) (g:Nat) (p:Value) (w:World):j2 Tryz.prog 157 #[iQ count,.func (.func g) #[] #[p]] w (fQ w λv' cs=>∃b1 b2,v'=.func (.func 202) #[] #[pQ b1,pQ b2]/\cs = [.box b1 [iQ count] 3,.box b2 [.func (.func g) #[] #[p]] 110]):=by
 refine enterZ (cx 6) [iQ count,.func (.func g) #[] #[p]] [.tmp 4] Tryz.func157 ?_;intro b1 b2;exact⟨[.box b1 _ _,.box b2 _ _],⟨b1,b2,rfl,rfl⟩,pk [0,1,2]⟩
theorem S2 {names:List d8} {g:Nat} {cap:List Value} {b1 b2:Nat} (s:d8) (w:World) (hn:names.length < 1000000) (h1:(Hp.whole w).cell? ⟨b1,0,none⟩=some (iQ names.length)) (h2:(Hp.whole w).cell? ⟨b2,0,none⟩=some (.func (.func g) #[] cap.toArray))
  (hg :∀w',(Hp.whole w).In w'->∀i (hi:i < names.length),j2 Tryz.prog g (iQ i::cap).toArray w' (v8 w' (sv names[i]))) :
  j2 Tryz.prog 202 #[sv s,pQ b1,pQ b2] w (v8 w (iQ (Z6 names s))):=by
 refine enterZ (cx 16) [sv s,pQ b1,pQ b2] [.tmp 4] Tryz.func202 ?_;refine lQ 0 h1 ?_;refine z6.mk Nat (λi=>[(0,.v (sv s)),(1,.v (pQ b1)),(2,.v (pQ b2)),(6,.v (iQ names.length)),(7,.v (iQ i))]) (λ_=>[.hp (Hp.whole w)])
  (λi=>i<=names.length/\s∉names.take i) (λi=>names.length - i) 0 ⟨j0 _,sQ⟩ (y6.mk (pj [0]) rfl rfl) ?_
 rintro i ⟨hi,hm⟩;refine d9 (λg1=>?_) λg1=>?_
 ·have hil:i < names.length:=om
  refine lQ 0 h2 ?_;refine oH ?_;refine k7 _ (λw' hm=>hg w' (hm 0 _ rfl) i hil) ?_;refine dL ?_;refine d9 (λg2=>?_) λg2=>?_
  ·have e:Z6 names s=9:=if_pos (by rw[<-g2];exact j5 hil);rw[e];exact⟨[],⟨rfl,rfl⟩,pk [0]⟩
  ·refine nwo ?_;refine⟨i+1,⟨om,?_⟩,om,y6.mk (pj [0]) rfl rfl⟩;rw[I9 names i hil];intro c;rcases y8.1 c with c | c
   ·exact hm c
   ·exact g2 (v6.1 c).symm
 ·have e:Z6 names s=0:=if_neg (by
   have:i=names.length:=om
   rw[this,q8] at hm;exact hm)
  rw[e];exact⟨[],⟨rfl,rfl⟩,pk [0]⟩
end Go.Proofs.YtpjhmeicbjkcdaaGreatDoor
namespace Go.Proofs.YtpjhmeicbjkcdaaGreatDoor
open Go Go.RowKit Go.Dw
set_option maxRecDepth 10000 in
theorem vP {k h:Hp} {rb b:Nat} {r:RS} {a:Option Addr} {n c:Nat} {L:List O7} (w:World) (hin:h.In w) (hd:DR ((Hp.whole w).minus h) k h rb b r) (hL:Sl (E0 P2) 4 ((Hp.whole w).minus h) a n c L) (hn:L.length < 1000000) :
  j2 Tryz.prog 82 #[pQ rb,.slice a n c] w (UP w k h b (.agg (P2 (kI (L.map λx:O7=>x.1) r).2).toArray) (kI (L.map λx:O7=>x.1) r).1):=by
 have hlen:=hL.len;refine enterMZ (cx 74) [pQ rb,.slice a n c] hin [.cell 4 48] Tryz.func82 ?_;obtain⟨c0,hc0⟩ :∃c0,c0=(Hp.whole w).minus h:=⟨_,rfl⟩
 rw[<-hc0] at hd hL ⊢;obtain⟨names,hnames⟩ :∃l,l=L.map λx:O7=>x.1:=⟨_,rfl⟩
 rw[<-hnames];have hnl:n=names.length:=by rw[hnames,j6];exact hlen
 intro b3 b4;refine m9 λq' hq'=>?_;apply hq';refine nQ [.hp c0,.hp h,.box b3 [.slice a n c] 26,.box b4 [zs,iQ 0,iQ 0,iQ 0] 48] λq' hq'=>?_;refine k6 (i:=1) rfl (λw0 w' hok=>M6 (n:=names.length) (m:=64) (by rw[hnl]) rfl w' (hok.mem 1 _ rfl) (hd.mono (hok.le01 rfl rfl))) ?_;rintro _ h1 _ ⟨rfl,hR1⟩;have hR1:G0 k h1 b (H6 (r) names.length 64):=hR1;apply hq';refine nQ [.hp c0,.hp h1,.box b3 [.slice a n c] 26,.box b4 [zs,iQ 0,iQ 0,iQ 0] 48] λq' hq'=>?_;refine lQ 0 hd.hB ?_;refine k6 (i:=1) rfl (λw0 w' hok=>l6 w' (hok.mem 1 _ rfl) (hok.kle rfl rfl hd.hk) hR1) ?_;rintro _ h2 _ ⟨rfl,hR2⟩;have hR2:G0 k h2 b (s8 (H6 (r) names.length 64) Z8):=hR2;obtain⟨r2,e2⟩ :∃x,x=s8 (H6 (r) names.length 64) Z8:=⟨_,rfl⟩
 rw[<-e2] at hR2;apply hq';refine nQ [.hp c0,.hp h2,.box b3 [.slice a n c] 26,.box b4 [zs,iQ 0,iQ 0,iQ 0] 48] λq' hq'=>?_;refine call (λw' hm=>U4 _ _ _ w') ?_;rintro _ _ ⟨b5,b6,rfl,rfl⟩;refine k6 (i:=1) rfl (λw0 w' hok=>O6 (cap:=[pQ b5,pQ b6]) (chk:=Z6 names) w' (hok.mem 1 _ rfl) ((hd.to hR2).mono (hok.le01 rfl rfl)) (λw1 hi1 s _=>S2 (cap:=[pQ b3]) s w1 om (by rw[<-hnl];exact hi1.whole.cell (hok.bx1 (j:=4) (n:=0) rfl rfl dc rfl)) (hi1.whole.cell (hok.bx1 (j:=5) (n:=0) rfl rfl dc rfl)) (λw2 hi2 i hi=>by
  have hle:c0.le (Hp.whole w2):=((hok.le01 rfl rfl).trans hi1.whole).trans hi2.whole;subst hnames;exact KU (L:=L) i w2 ((hi1.whole.trans hi2.whole).cell (hok.bx1 (j:=2) (n:=0) rfl rfl dc rfl)) (hL.mono (j7 _) hle) hi))) ?_
 rintro _ h3 _ ⟨rfl,rfl,hR3⟩;obtain⟨A,hA⟩ :∃x,x=L0 (r2) (Z6 names):=⟨_,rfl⟩
 rw[<-hA] at hR3 ⊢;intro b7;apply hq';refine nQ [.hp c0,.hp h3,.box b3 [.slice a n c] 26,.box b4 [zs,iQ 0,iQ 0,iQ 0] 48,.box b5 [iQ n] 3,.box b6 [.func (.func 168) #[] #[pQ b3]] 110,.box b7 [sv A.2,iQ 0,iQ 0,iQ 0] 48] λq' hq'=>?_;refine lQ 0 hd.hB ?_;refine k6 (i:=1) rfl (λw0 w' hok=>l6 w' (hok.mem 1 _ rfl) (hok.kle rfl rfl hd.hk) hR3) ?_;rintro _ h4 _ ⟨rfl,hR4⟩;have hR4:G0 k h4 b (s8 (A.1) [61]):=hR4;apply hq';refine nQ [.hp c0,.hp h4,.box b3 [.slice a n c] 26,.box b4 [zs,iQ 0,iQ 0,iQ 0] 48,.box b5 [iQ n] 3,.box b6 [.func (.func 168) #[] #[pQ b3]] 110,.box b7 [sv A.2,iQ 0,iQ 0,iQ 0] 48] λq' hq'=>?_;refine k6 (i:=1) rfl (λw0 w' hok=>jG w' (hok.mem 1 _ rfl) ((hd.to hR4).mono (hok.le01 rfl rfl))) ?_;rintro _ h5 _ ⟨rfl,rfl,hR5⟩;have hR5:G0 k h5 b ((rL (s8 (A.1) [61])).1):=hR5;obtain⟨B,hB⟩ :∃x,x=rL (s8 (A.1) [61]):=⟨_,rfl⟩
 rw[<-hB] at hR5 ⊢;apply hq';refine nQ [.hp c0,.hp h5,.box b3 [.slice a n c] 26,.box b4 [zs,iQ 0,iQ 0,iQ 0] 48,.box b5 [iQ n] 3,.box b6 [.func (.func 168) #[] #[pQ b3]] 110,.box b7 [sv A.2,iQ B.2,iQ 0,iQ 0] 48] λq' hq'=>?_;refine lQ 0 hd.hB ?_;refine k6 (i:=1) rfl (λw0 w' hok=>l6 w' (hok.mem 1 _ rfl) (hok.kle rfl rfl hd.hk) hR5) ?_;rintro _ h6 _ ⟨rfl,hR6⟩;have hR6:G0 k h6 b (s8 (B.1) [91]):=hR6;apply hq';refine nQ [.hp c0,.hp h6,.box b3 [.slice a n c] 26,.box b4 [zs,iQ 0,iQ 0,iQ 0] 48,.box b5 [iQ n] 3,.box b6 [.func (.func 168) #[] #[pQ b3]] 110,.box b7 [sv A.2,iQ B.2,iQ 0,iQ 0] 48] λq' hq'=>?_;refine k6 (i:=1) rfl (λw0 w' hok=>jG w' (hok.mem 1 _ rfl) ((hd.to hR6).mono (hok.le01 rfl rfl))) ?_;rintro _ h7 _ ⟨rfl,rfl,hR7⟩;have hR7:G0 k h7 b ((rL (s8 (B.1) [91])).1):=hR7;obtain⟨C,hC⟩ :∃x,x=rL (s8 (B.1) [91]):=⟨_,rfl⟩
 rw[<-hC] at hR7 ⊢;apply hq';refine nQ [.hp c0,.hp h7,.box b3 [.slice a n c] 26,.box b4 [zs,iQ 0,iQ 0,iQ 0] 48,.box b5 [iQ n] 3,.box b6 [.func (.func 168) #[] #[pQ b3]] 110,.box b7 [sv A.2,iQ B.2,iQ C.2,iQ 0] 48] λq' hq'=>?_;refine lQ 0 hd.hB ?_;refine k6 (i:=1) rfl (λw0 w' hok=>l6 w' (hok.mem 1 _ rfl) (hok.kle rfl rfl hd.hk) hR7) ?_;rintro _ h8 _ ⟨rfl,hR8⟩;have hR8:G0 k h8 b (s8 (C.1) [44]):=hR8;apply hq';refine nQ [.hp c0,.hp h8,.box b3 [.slice a n c] 26,.box b4 [zs,iQ 0,iQ 0,iQ 0] 48,.box b5 [iQ n] 3,.box b6 [.func (.func 168) #[] #[pQ b3]] 110,.box b7 [sv A.2,iQ B.2,iQ C.2,iQ 0] 48] λq' hq'=>?_;refine k6 (i:=1) rfl (λw0 w' hok=>jG w' (hok.mem 1 _ rfl) ((hd.to hR8).mono (hok.le01 rfl rfl))) ?_;rintro _ h9 _ ⟨rfl,rfl,hR9⟩;have hR9:G0 k h9 b ((rL (s8 (C.1) [44])).1):=hR9;obtain⟨D,hD⟩ :∃x,x=rL (s8 (C.1) [44]):=⟨_,rfl⟩
 rw[<-hD] at hR9 ⊢;apply hq';refine nQ [.hp c0,.hp h9,.box b3 [.slice a n c] 26,.box b4 [zs,iQ 0,iQ 0,iQ 0] 48,.box b5 [iQ n] 3,.box b6 [.func (.func 168) #[] #[pQ b3]] 110,.box b7 [sv A.2,iQ B.2,iQ C.2,iQ D.2] 48] λq' hq'=>?_;refine lQ 0 hd.hB ?_;refine k6 (i:=1) rfl (λw0 w' hok=>l6 w' (hok.mem 1 _ rfl) (hok.kle rfl rfl hd.hk) hR9) ?_;rintro _ h10 _ ⟨rfl,hR10⟩;have hR10:G0 k h10 b (s8 (D.1) [93]):=hR10;obtain⟨r10,e10⟩ :∃x,x=s8 (D.1) [93]:=⟨_,rfl⟩
 rw[<-e10] at hR10;apply hq';refine nQ [.hp c0,.hp h10,.box b3 [.slice a n c] 26,.box b4 [zs,iQ 0,iQ 0,iQ 0] 48,.box b5 [iQ n] 3,.box b6 [.func (.func 168) #[] #[pQ b3]] 110,.box b7 [sv A.2,iQ B.2,iQ C.2,iQ D.2] 48] λq' hq'=>?_;have eD:kI names r=(s8 (if S7 r10 [59]=true/\D.2 < C.2 then w9 r10 8 else r10) [59],(A.2,B.2,C.2,D.2)):=by
  unfold kI;dsimp only;rw[<-e2,<-hA,<-hB,<-hC,<-hD,<-e10]
 refine lQ 0 hd.hB ?_;refine k7 _ (λw' hm=>R1 w' (hm 1 _ rfl) (hd.hk.trans (hm 0 _ rfl).whole) hR10) ?_;refine v7 (λg1=>?_) λg1=>?_
 ·apply hq';refine d9 (λg2=>?_) λg2=>?_
  ·refine nQ [.hp c0,.hp h10,.box b3 [.slice a n c] 26,.box b4 [zs,iQ 0,iQ 0,iQ 0] 48,.box b5 [iQ n] 3,.box b6 [.func (.func 168) #[] #[pQ b3]] 110,.box b7 [sv A.2,iQ B.2,iQ C.2,iQ D.2] 48] λq' hq'=>?_;refine lQ 0 hd.hB ?_;refine k6 (i:=1) rfl (λw0 w' hok=>F9 w' (hok.mem 1 _ rfl) (hok.kle rfl rfl hd.hk) hR10) ?_;rintro _ h11 _ ⟨rfl,hR11⟩;have hR11:G0 k h11 b (w9 (r10) 8):=hR11;apply hq';refine nQ [.hp c0,.hp h11,.box b3 [.slice a n c] 26,.box b4 [zs,iQ 0,iQ 0,iQ 0] 48,.box b5 [iQ n] 3,.box b6 [.func (.func 168) #[] #[pQ b3]] 110,.box b7 [sv A.2,iQ B.2,iQ C.2,iQ D.2] 48] λq' hq'=>?_;refine lQ 0 hd.hB ?_;refine k6 (i:=1) rfl (λw0 w' hok=>l6 w' (hok.mem 1 _ rfl) (hok.kle rfl rfl hd.hk) hR11) ?_;rintro _ h12 _ ⟨rfl,hR12⟩;have hR12:G0 k h12 b (s8 (w9 (r10) 8) [59]):=hR12;apply hq';rw[eD,if_pos ⟨g1,om⟩];exact⟨h12,[],⟨rfl,rfl,hR12⟩,pk [0,1]⟩
  ·refine nQ [.hp c0,.hp h10,.box b3 [.slice a n c] 26,.box b4 [zs,iQ 0,iQ 0,iQ 0] 48,.box b5 [iQ n] 3,.box b6 [.func (.func 168) #[] #[pQ b3]] 110,.box b7 [sv A.2,iQ B.2,iQ C.2,iQ D.2] 48] λq' hq'=>?_;refine lQ 0 hd.hB ?_;refine k6 (i:=1) rfl (λw0 w' hok=>l6 w' (hok.mem 1 _ rfl) (hok.kle rfl rfl hd.hk) hR10) ?_;rintro _ h11 _ ⟨rfl,hR11⟩;have hR11:G0 k h11 b (s8 (r10) [59]):=hR11;apply hq';rw[eD,if_neg (λc=>g2 (by have:=c.2;omega))];exact⟨h11,[],⟨rfl,rfl,hR11⟩,pk [0,1]⟩
 ·apply hq';refine dU rfl ?_;refine nQ [.hp c0,.hp h10,.box b3 [.slice a n c] 26,.box b4 [zs,iQ 0,iQ 0,iQ 0] 48,.box b5 [iQ n] 3,.box b6 [.func (.func 168) #[] #[pQ b3]] 110,.box b7 [sv A.2,iQ B.2,iQ C.2,iQ D.2] 48] λq' hq'=>?_;refine lQ 0 hd.hB ?_;refine k6 (i:=1) rfl (λw0 w' hok=>l6 w' (hok.mem 1 _ rfl) (hok.kle rfl rfl hd.hk) hR10) ?_;rintro _ h11 _ ⟨rfl,hR11⟩;have hR11:G0 k h11 b (s8 (r10) [59]):=hR11;apply hq';rw[eD,if_neg (λc=>by rw[g1] at c;cases c.1)];exact⟨h11,[],⟨rfl,rfl,hR11⟩,pk [0,1]⟩
end Go.Proofs.YtpjhmeicbjkcdaaGreatDoor
namespace Go.Proofs.YtpjhmeicbjkcdaaGreatDoor
open Go Go.RowKit Go.Dw
theorem NU {b:Nat} {s:d8} (d:O7) (w:World) (hc:(Hp.whole w).cell? ⟨b,0,none⟩=some (sv s)):j2 Tryz.prog 207 #[.agg (P2 d).toArray,pQ b] w (v8 w (.bool (decide (d.1=s)))):=by
 refine enterZ (cx 8) [.agg #[sv d.1,iQ d.2.1,iQ d.2.2.1,iQ d.2.2.2],pQ b] [.tmp 3] Tryz.func207 ?_;intro b2;refine lQ 0 hc ?_;refine dL ?_;exact⟨[],⟨rfl,rfl⟩,pk [0]⟩
theorem TB {D:List O7} {s:d8}:Y9 (λd:O7=>decide (d.1=s)) D=kB (D.map λx:O7=>x.1) s:=by
 induction D with
 | nil=>rfl
 | cons y r ih=>
  simp only[Y9,ih];unfold kB;simp only[M2,p9,List.idxOf_cons];by_cases e:y.1=s
  ·simp[e]
  ·have e2 : ¬ s=y.1:=λh=>e h.symm;by_cases hm:s∈r.map λx:O7=>x.1
   ·have hb:(y.1==s)=false:=by simpa using e
    simp only[e,e2,hm,decide_false,wH,if_false,false_or,if_true,hb,cond_false];rw[if_neg om];omega
   ·simp[e,e2,hm]
set_option maxRecDepth 10000 in
theorem gU {b1 b7 b4 rb nd cd:Nat} {ad:Option Addr} {D:List O7} {last z:Int} (s:d8) (w:World) (hin:(Ch.box b7 [iQ z] 3).h.In w)
  (h1:((Hp.whole w).minus (Ch.box b7 [iQ z] 3).h).cell? ⟨b1,0,none⟩=some (pQ rb)) (h2:((Hp.whole w).minus (Ch.box b7 [iQ z] 3).h).cell? ⟨rb,1,none⟩=some (.slice ad nd cd))
  (h4:((Hp.whole w).minus (Ch.box b7 [iQ z] 3).h).cell? ⟨b4,0,none⟩=some (iQ last)) (hD:Sl (E0 P2) 4 ((Hp.whole w).minus (Ch.box b7 [iQ z] 3).h) ad nd cd D) (hn:D.length < 1000000) :
  j2 Tryz.prog 206 #[sv s,pQ b1,pQ b7,pQ b4] w
   (O3 w (Ch.box b7 [iQ z] 3).h λv h' cs2=>cs2 = []/\∃cs',(Ch.box b7 cs' 3).h.le h'/\(v=iQ (jV (D.map λx:O7=>x.1) last s)/\cs' = [iQ (kB (D.map λx:O7=>x.1) s)])):=by
 have hdl:=hD.len;obtain⟨c0,hc0⟩ :∃c0,c0=(Hp.whole w).minus (Ch.box b7 [iQ z] 3).h:=⟨_,rfl⟩
 have ok0:Ok w [.hp c0,.box b7 [iQ z] 3] w:=by rw[hc0];exact Ok.same (s:=[.hp ((Hp.whole w).minus (Ch.box b7 [iQ z] 3).h),.hp (Ch.box b7 [iQ z] 3).h]) (i:=1) (c:=.hp (Ch.box b7 [iQ z] 3).h) (d:=.box b7 [iQ z] 3) rfl rfl (Ok.start2 w hin)
 refine enterMSZ (cx 19) [sv s,pQ b1,pQ b7,pQ b4] ok0 [.tmp 5] Tryz.func206 ?_;rw[<-hc0] at h1 h2 h4 hD ⊢;intro b5;refine lQ 0 h1 ?_;refine lQ 0 h2 ?_;refine k7 _ (λw' hm=>gR 207 (pQ b5) (λd:O7=>decide (d.1=s)) w' (hD.mono (j7 _) (hm 0 _ rfl).whole) om (λw2 hi2 d _ cs _ hcs=>by
  have hcs:cs=P2 d:=hcs;subst hcs;exact NU d w2 ((hi2.le (hm 2 _ rfl).whole).whole.cell (bT b5 _ _)))) ?_
 rw[TB];unfold jV;obtain⟨X,hX⟩ :∃X,X=kB (D.map λx:O7=>x.1) s:=⟨_,rfl⟩
 rw[<-hX];refine iW cQ (i:=1) (j:=0) rfl rfl rfl sQ rfl rfl ?_;refine lR 1 0 ?_;refine d9 (λg1=>?_) λg1=>?_
 ·rw[if_pos g1];exact⟨(Ch.box b7 [iQ X] 3).h,[],⟨rfl,_,λ_ _ h=>h,rfl,rfl⟩,λw' h=>(h.pick [0,1] rfl rfl).boxHp⟩
 rw[if_neg g1];refine lR 1 0 ?_;refine lQ 0 h4 ?_;refine d9 (λg2=>?_) λg2=>?_;focus
  rw[if_pos g2]
 rotate_left
 focus
  rw[if_neg g2]
 all_goals
  exact⟨(Ch.box b7 [iQ X] 3).h,[],⟨rfl,_,λ_ _ h=>h,rfl,rfl⟩,λw' h=>(h.pick [0,1] rfl rfl).boxHp⟩
end Go.Proofs.YtpjhmeicbjkcdaaGreatDoor
namespace Go.Proofs.YtpjhmeicbjkcdaaGreatDoor
open Go Go.Shelf Go.RowKit Go.Dw Go.Lib
def GC (k r:Nat):Prop:=(97<=r/\r<=122)\/(k≠0/\((48<=r/\r<=57)\/r=45\/r=95))
theorem GR {c:UInt8}:G5 c=true↔(97<=c.toNat/\c.toNat<=122)\/(48<=c.toNat/\c.toNat<=57)\/c.toNat=45\/c.toNat=95:=by
 unfold G5 J4 k9;simp only[Q3,j4,decide_eq_true_eq,or_assoc];have e1:c=45↔c.toNat=45:=⟨λe=>by rw[e];rfl,λe=>UInt8.toNat_inj.1 e⟩
 have e2:c=95↔c.toNat=95:=⟨λe=>by rw[e];rfl,λe=>UInt8.toNat_inj.1 e⟩
 rw[e1,e2]
theorem PT {c:UInt8}:J4 c=true↔97<=c.toNat/\c.toNat<=122:=by
 unfold J4;simp only[j4,decide_eq_true_eq]
theorem Hc {s:d8} {k r m:Nat} (hk:k < s.length) {c:UInt8} (hc:s[k]'hk=c) (hd:Utf8.decode (bs s) k=(r,m)):(GC k r->m=1/\G5 c=true/\(k=0->J4 c=true))/\(¬ GC k r->yY s=false):=by
 have hnot:(G5 c=false\/(k=0/\J4 c=false))->yY s=false:=λh=>by
  cases hw:yY s with
  | false=>rfl
  | true=>
   exfalso
   unfold yY at hw;simp only[j4,decide_eq_true_eq,s7] at hw;obtain⟨_,_,h3,h4⟩:=hw;rcases h with h | ⟨h0,h⟩
   ·have:=h4 _ (j5 hk);rw[hc,h] at this;cases this
   ·subst h0;rw[e8,i7 hk,hc] at h3;rw[show J4 c=true from h3] at h;cases h
 have hp:k < (bs s).size:=by rw[C8];exact hk
 have hg:(bs s)[k]'hp=c:=hc;by_cases ha:c.toNat < 128
 ·have:=decode_ascii (bs s) k hp (by rw[hg];exact ha);rw[hd,hg] at this;obtain⟨rfl,rfl⟩:=Prod.mk.inj this;unfold GC;refine⟨λh=>⟨rfl,GR.2 om,λh0=>PT.2 om⟩,λh=>hnot ?_⟩;by_cases hi:G5 c=true
  ·refine .inr ?_;have:=GR.1 hi;have h0:k=0:=om
   refine⟨h0,?_⟩;cases hl:J4 c with
   | false=>rfl
   | true=>exact absurd (.inl (PT.1 hl)) h
  ·exact .inl (by simpa using hi)
 ·obtain⟨h1,_⟩:=decode_high (bs s) k hp (by rw[hg];omega);rw[hd] at h1;have h1:128<=r:=h1;unfold GC;refine⟨λh=>by omega,λ_=>hnot (.inl ?_)⟩;cases hi:G5 c with
  | false=>rfl
  | true=>have:=GR.1 hi;omega
set_option maxRecDepth 20000 in
set_option maxHeartbeats 2000000 in
theorem JY (s:d8) (hs:s.length < 1000000) (w:World):j2 Tryz.prog 130 #[sv s] w (v8 w (.bool (yY s))):=by
 have hz:=C8 s;refine enterZ (cx 47) [sv s] [.tmp 2] Tryz.func130 ?_;refine PE cQ rfl rfl λb=>?_;refine z6.mk Nat (λ_=>[(0,.v (sv s)),(7,.v (pQ b))]) (λk=>[.hp (Hp.whole w),.hp (Hp.one b (.stringIter (bs s) k))])
  (λk=>k<=s.length/\(∀j (hj:j < s.length),j < k->G5 s[j]=true)/\(0 < k->J4 (s.getD 0 0)=true)) (λk=>s.length - k) 0 ⟨j0 _,λj _ hj=>absurd hj (M1 _),λh=>absurd h dc⟩ (y6.mk (λ_ _ h=>h) rfl rfl) ?_
 rintro k ⟨hk,hin,hlo⟩;dsimp only at hk hin hlo ⊢;refine Fk λq' hq'=>?_;refine WX (i:=1) rfl (λhlt=>?_) λhge=>?_
 ·have hk':k < s.length:=om
  obtain⟨r,m,hd⟩ :∃r m,Utf8.decode (bs s) k=(r,m):=⟨_,_,rfl⟩
  obtain⟨hg,hb⟩:=Hc hk' rfl hd;rw[hd];dsimp only;have inv:GC k r->k+1<=s.length/\(∀j (hj:j < s.length),j < k+1->G5 s[j]=true)/\(0 < k+1->J4 (s.getD 0 0)=true):=λho=>by
   obtain⟨_,g2,g3⟩:=hg ho;refine⟨om,λj hj hjk=>?_,λ_=>?_⟩
   ·rcases M9 j k with h2 | h2
    ·exact hin j hj h2
    ·have:j=k:=om
     subst this;exact g2
   ·rcases u9 k with h0 | h0
    ·subst h0;rw[e8,i7 hk'];exact g3 rfl
    ·exact hlo h0
  have nx:=λho=>(⟨(hg ho).1,inv ho⟩:m=1/\_)
  (iterate 2 refine m9 (λ_ kz=>kz _ _ ?_));show Q7 _ _ _ _ _ _
  (iterate 3 refine w1j λK hK=>?_;apply hK);refine sW (by rfl) (by rfl) (by rfl) (λh2_ K hK=>?_) λh2_ K hK=>?_
  ·apply hK;refine wGYj λK hK=>?_;(iterate 2 apply hK;refine w1j λK hK=>?_);apply hK;refine qX ?_;have g2_:=h2_;show Q7 _ _ _ _ _ _
   (iterate 3 refine w1j λK hK=>?_;apply hK);refine sW (by rfl) (by rfl) (by rfl) (λh2_ K hK=>?_) λh2_ K hK=>?_
   ·(iterate 2 apply hK;refine wGYj λK hK=>?_);apply hK;refine sW (by rfl) (by rfl) (by rfl) (λh5_ K hK=>?_) λh5_ K hK=>?_;focus
     (iterate 2 apply hK;refine wGYj λK hK=>?_);apply hK;refine sW (by rfl) (by rfl) (by rfl) (λh8_ K hK=>?_) λh8_ K hK=>?_;focus
      (iterate 3 apply hK;refine wGYj λK hK=>?_);apply hK;refine sW (by rfl) (by rfl) (by rfl) (λh12_ K hK=>?_) λh12_ K hK=>?_
      ·(iterate 3 apply hK;refine wGYj λK hK=>?_);apply hK;refine sW (by rfl) (by rfl) (by rfl) (λh16_ K hK=>?_) λh16_ K hK=>?_;focus
        apply hK;refine wGYj λK hK=>?_
       rotate_left
       focus
        apply hK;refine wGNj λK hK=>?_
       all_goals
        (iterate 2 apply hK;refine wGYj λK hK=>?_);apply hK;refine w1j λK hK=>?_;apply hK;refine qX ?_;try simp at g2_
        try simp at h2_
        try simp at h5_
        try simp at h8_
        try simp at h12_
        try simp at h16_
        refine K9 (by rfl) (λh9=>?_) λh9=>?_
        ·first | exact absurd h9 dc | ((try simp at h9);exfalso;omega) | ((try simp at h9);exact hq' _ _ _ ⟨[],⟨by rw[hb (by unfold GC;omega)],rfl⟩,pk [0]⟩)
        ·first | exact absurd h9 dc | ((try simp at h9);exfalso;omega) | ((try simp at h9);obtain⟨rfl,iv⟩:=nx (by unfold GC;omega);exact hq' _ _ _ ⟨k+1,iv,by (try dsimp only);omega,y6.mk (pj [0,1]) rfl rfl⟩)
      focus
       apply hK;refine wGNj λK hK=>?_;(iterate 2 apply hK;refine wGYj λK hK=>?_);(iterate 2 apply hK;refine wGNj λK hK=>?_);(iterate 2 apply hK;refine wGYj λK hK=>?_);apply hK;refine w1j λK hK=>?_;apply hK;refine qX ?_;try simp at g2_
       try simp at h2_
       try simp at h5_
       try simp at h8_
       try simp at h12_
     rotate_left
     ·apply hK;refine wGNj λK hK=>?_;(iterate 6 apply hK;refine wGYj λK hK=>?_);apply hK;refine sW (by rfl) (by rfl) (by rfl) (λh16_ K hK=>?_) λh16_ K hK=>?_;focus
       apply hK;refine wGYj λK hK=>?_
      rotate_left
      focus
       apply hK;refine wGNj λK hK=>?_
      all_goals
       (iterate 2 apply hK;refine wGYj λK hK=>?_);apply hK;refine w1j λK hK=>?_;apply hK;refine qX ?_;try simp at g2_
       try simp at h2_
       try simp at h5_
       try simp at h8_
       try simp at h16_
       refine K9 (by rfl) (λh9=>?_) λh9=>?_
       ·first | exact absurd h9 dc | ((try simp at h9);exfalso;omega) | ((try simp at h9);exact hq' _ _ _ ⟨[],⟨by rw[hb (by unfold GC;omega)],rfl⟩,pk [0]⟩)
       ·first | exact absurd h9 dc | ((try simp at h9);exfalso;omega) | ((try simp at h9);obtain⟨rfl,iv⟩:=nx (by unfold GC;omega);exact hq' _ _ _ ⟨k+1,iv,by (try dsimp only);omega,y6.mk (pj [0,1]) rfl rfl⟩)
    rotate_left
    focus
     (iterate 2 apply hK;refine wGNj λK hK=>?_);(iterate 2 apply hK;refine HX (by rfl) (by rfl) (by rfl) λK hK=>?_);(iterate 2 apply hK;refine wGNj λK hK=>?_);(iterate 2 apply hK;refine HX (by rfl) (by rfl) (by rfl) λK hK=>?_);(iterate 2 apply hK;refine wGNj λK hK=>?_);(iterate 2 apply hK;refine HX (by rfl) (by rfl) (by rfl) λK hK=>?_);apply hK;refine wGNj λK hK=>?_;apply hK;refine wGYj λK hK=>?_;apply hK;refine w1j λK hK=>?_;apply hK;refine qX ?_;try simp at g2_
     try simp at h2_
     try simp at h5_
    all_goals
     refine K9 (by rfl) (λh9=>?_) λh9=>?_
     ·first | exact absurd h9 dc | ((try simp at h9);exfalso;omega) | ((try simp at h9);exact hq' _ _ _ ⟨[],⟨by rw[hb (by unfold GC;omega)],rfl⟩,pk [0]⟩)
     ·first | exact absurd h9 dc | ((try simp at h9);exfalso;omega) | ((try simp at h9);obtain⟨rfl,iv⟩:=nx (by unfold GC;omega);exact hq' _ _ _ ⟨k+1,iv,by (try dsimp only);omega,y6.mk (pj [0,1]) rfl rfl⟩)
   ·(iterate 2 apply hK;refine wGNj λK hK=>?_);(iterate 14 apply hK;refine HX (by rfl) (by rfl) (by rfl) λK hK=>?_);apply hK;refine wGNj λK hK=>?_;apply hK;refine w1j λK hK=>?_;apply hK;refine qX ?_;try simp at g2_
    try simp at h2_
    refine K9 (by rfl) (λh9=>?_) λh9=>?_
    ·first | exact absurd h9 dc | ((try simp at h9);exfalso;omega) | ((try simp at h9);exact hq' _ _ _ ⟨[],⟨by rw[hb (by unfold GC;omega)],rfl⟩,pk [0]⟩)
    ·first | exact absurd h9 dc | ((try simp at h9);exfalso;omega) | ((try simp at h9);obtain⟨rfl,iv⟩:=nx (by unfold GC;omega);exact hq' _ _ _ ⟨k+1,iv,by (try dsimp only);omega,y6.mk (pj [0,1]) rfl rfl⟩)
  ·apply hK;refine wGNj λK hK=>?_;(iterate 2 apply hK;refine w1j λK hK=>?_);apply hK;refine qX ?_;have g2_:=h2_;show Q7 _ _ _ _ _ _
   (iterate 3 refine w1j λK hK=>?_;apply hK);(iterate 3 refine wGYj λK hK=>?_;apply hK);refine sW (by rfl) (by rfl) (by rfl) (λh5_ K hK=>?_) λh5_ K hK=>?_;focus
    (iterate 2 apply hK;refine wGYj λK hK=>?_);apply hK;refine sW (by rfl) (by rfl) (by rfl) (λh8_ K hK=>?_) λh8_ K hK=>?_;focus
     (iterate 3 apply hK;refine wGYj λK hK=>?_);apply hK;refine sW (by rfl) (by rfl) (by rfl) (λh12_ K hK=>?_) λh12_ K hK=>?_
     ·(iterate 3 apply hK;refine wGYj λK hK=>?_);apply hK;refine sW (by rfl) (by rfl) (by rfl) (λh16_ K hK=>?_) λh16_ K hK=>?_;focus
       apply hK;refine wGYj λK hK=>?_
      rotate_left
      focus
       apply hK;refine wGNj λK hK=>?_
      all_goals
       (iterate 2 apply hK;refine wGYj λK hK=>?_);apply hK;refine w1j λK hK=>?_;apply hK;refine qX ?_;try simp at g2_
       try simp at h5_
       try simp at h8_
       try simp at h12_
       try simp at h16_
       refine K9 (by rfl) (λh9=>?_) λh9=>?_
       ·first | exact absurd h9 dc | ((try simp at h9);exfalso;omega) | ((try simp at h9);exact hq' _ _ _ ⟨[],⟨by rw[hb (by unfold GC;omega)],rfl⟩,pk [0]⟩)
       ·first | exact absurd h9 dc | ((try simp at h9);exfalso;omega) | ((try simp at h9);obtain⟨rfl,iv⟩:=nx (by unfold GC;omega);exact hq' _ _ _ ⟨k+1,iv,by (try dsimp only);omega,y6.mk (pj [0,1]) rfl rfl⟩)
     focus
      apply hK;refine wGNj λK hK=>?_;(iterate 2 apply hK;refine wGYj λK hK=>?_);(iterate 2 apply hK;refine wGNj λK hK=>?_);(iterate 2 apply hK;refine wGYj λK hK=>?_);apply hK;refine w1j λK hK=>?_;apply hK;refine qX ?_;try simp at g2_
      try simp at h5_
      try simp at h8_
      try simp at h12_
    rotate_left
    ·apply hK;refine wGNj λK hK=>?_;(iterate 6 apply hK;refine wGYj λK hK=>?_);apply hK;refine sW (by rfl) (by rfl) (by rfl) (λh16_ K hK=>?_) λh16_ K hK=>?_;focus
      apply hK;refine wGYj λK hK=>?_
     rotate_left
     focus
      apply hK;refine wGNj λK hK=>?_
     all_goals
      (iterate 2 apply hK;refine wGYj λK hK=>?_);apply hK;refine w1j λK hK=>?_;apply hK;refine qX ?_;try simp at g2_
      try simp at h5_
      try simp at h8_
      try simp at h16_
      refine K9 (by rfl) (λh9=>?_) λh9=>?_
      ·first | exact absurd h9 dc | ((try simp at h9);exfalso;omega) | ((try simp at h9);exact hq' _ _ _ ⟨[],⟨by rw[hb (by unfold GC;omega)],rfl⟩,pk [0]⟩)
      ·first | exact absurd h9 dc | ((try simp at h9);exfalso;omega) | ((try simp at h9);obtain⟨rfl,iv⟩:=nx (by unfold GC;omega);exact hq' _ _ _ ⟨k+1,iv,by (try dsimp only);omega,y6.mk (pj [0,1]) rfl rfl⟩)
   rotate_left
   focus
    (iterate 2 apply hK;refine wGNj λK hK=>?_);(iterate 2 apply hK;refine HX (by rfl) (by rfl) (by rfl) λK hK=>?_);(iterate 2 apply hK;refine wGNj λK hK=>?_);(iterate 2 apply hK;refine HX (by rfl) (by rfl) (by rfl) λK hK=>?_);(iterate 2 apply hK;refine wGNj λK hK=>?_);(iterate 2 apply hK;refine HX (by rfl) (by rfl) (by rfl) λK hK=>?_);apply hK;refine wGNj λK hK=>?_;apply hK;refine wGYj λK hK=>?_;apply hK;refine w1j λK hK=>?_;apply hK;refine qX ?_;try simp at g2_
    try simp at h5_
   all_goals
    refine K9 (by rfl) (λh9=>?_) λh9=>?_
    ·first | exact absurd h9 dc | ((try simp at h9);exfalso;omega) | ((try simp at h9);exact hq' _ _ _ ⟨[],⟨by rw[hb (by unfold GC;omega)],rfl⟩,pk [0]⟩)
    ·first | exact absurd h9 dc | ((try simp at h9);exfalso;omega) | ((try simp at h9);obtain⟨rfl,iv⟩:=nx (by unfold GC;omega);exact hq' _ _ _ ⟨k+1,iv,by (try dsimp only);omega,y6.mk (pj [0,1]) rfl rfl⟩)
 ·refine hq' _ _ _ ?_;have hk2:k=s.length:=om
  subst hk2;have hall:s.all G5=true:=by
   rw[s7];intro c hc;obtain⟨j,hj,rfl⟩:=sN hc;exact hin j hj hj
  refine pZ (b:=[]) ?_;refine d9 (λh1=>?_) λh1=>?_
  ·have h0:0 < s.length:=D1.2 h1;refine⟨[],⟨?_,rfl⟩,pk [0]⟩;unfold yY;rw[hall,hlo h0,decide_eq_true h1,D9,D9,CD];congr 1
   rw[decide_eq_decide];omega
  ·have h1:s = []:=B9.1 h1;subst h1;exact⟨[],⟨rfl,rfl⟩,pk [0]⟩
theorem Y3 (s:d8) (hs:s.length < 1000000) (w:World):j2 Tryz.prog 57 #[sv s] w (v8 w (sv (P0 s))):=by
 unfold P0;refine enterZ (cx 14) [sv s] [.tmp 2] Tryz.func57 ?_;refine k7 _ (λw' hm=>JY s hs w') ?_;refine v7 (λh1=>?_) λh1=>?_
 ·rw[if_pos h1];exact⟨[],⟨rfl,rfl⟩,pk [0]⟩
 ·rw[if_neg (by rw[h1];decide)];refine k7 _ (λw' hm=>OH s hs w') ?_;exact⟨[],⟨rfl,rfl⟩,pk [0]⟩
end Go.Proofs.YtpjhmeicbjkcdaaGreatDoor
namespace Go.Proofs.YtpjhmeicbjkcdaaGreatDoor
open Go Go.RowKit Go.Dw
def Dg (l:List O7) (i:Nat):Int:=if (l.take i).any (λe=>decide (e.1=(l.getD i ([],0,0,0)).1))=true then 9 else 0
def Bt (l:List O7):Int:=if 64 < l.length then 6 else if l.any (λd=>!D8 d.1)=true then 11 else qE (Dg l) l.length
theorem SM (d:O7) (w:World):j2 Tryz.prog 142 #[.agg (P2 d).toArray] w (v8 w (.bool (!D8 d.1))):=by
 refine enterZ (cx 7) [.agg #[sv d.1,iQ d.2.1,iQ d.2.2.1,iQ d.2.2.2]] [.tmp 2] Tryz.func142 ?_;intro b1;refine k7 _ (λw' hm=>dP d.1 w') ?_;exact⟨[],⟨rfl,rfl⟩,pk [0]⟩
theorem SL {b:Nat} {x:d8} (d:O7) (w:World) (hc:(Hp.whole w).cell? ⟨b,0,none⟩=some (sv x)):j2 Tryz.prog 143 #[.agg (P2 d).toArray,pQ b] w (v8 w (.bool (decide (d.1=x)))):=by
 refine enterZ (cx 9) [.agg #[sv d.1,iQ d.2.1,iQ d.2.2.1,iQ d.2.2.2],pQ b] [.tmp 3] Tryz.func143 ?_;intro b2;refine lQ 0 hc ?_;refine dL ?_;exact⟨[],⟨rfl,rfl⟩,pk [0]⟩
set_option maxRecDepth 10000 in
theorem yA {a:Option Addr} {n c:Nat} {L:List O7} (w:World) (hL:Sl (E0 P2) 4 (Hp.whole w) a n c L) (hn:L.length < 1000000) :
  j2 Tryz.prog 68 #[.slice a n c] w (v8 w (iQ (Bt L))):=by
 have hlen:=hL.len;unfold Bt;refine enterZ (cx 23) [.slice a n c] [.tmp 2] Tryz.func68 ?_;refine d9 (λh1=>?_) λh1=>?_
 ·rw[if_pos om];exact⟨[],⟨rfl,rfl⟩,pk [0]⟩
 rw[if_neg om];refine k7 _ (λw' hm=>mO 142 (λd=>!D8 d.1) w' (hL.mono (j7 _) (hm 0 _ rfl).whole) om (λw2 _ d _ cs _ hs=>by
  have hs:cs=P2 d:=hs;subst hs;exact SM d w2)) ?_
 refine v7 (λh2=>?_) λh2=>?_
 ·rw[if_pos h2];exact⟨[],⟨rfl,rfl⟩,pk [0]⟩
 rw[if_neg (by rw[h2];decide)];refine z6.mk Nat (λk=>[(0,.v (.slice a n c)),(10,.v (.slice a n c)),(11,.v (iQ n)),(12,.v (iQ k))]) (λ_=>[.hp (Hp.whole w)])
  (λk=>k<=n/\∀j,j < k->Dg L j=0) (λk=>n - k) 0 ⟨j0 _,λj hj=>absurd hj (M1 _)⟩ (y6.mk (pj [0]) rfl rfl) ?_
 rintro k ⟨hk,hz⟩;dsimp only at hk hz ⊢;refine d9 (λh3=>?_) λh3=>?_
 ·have hkl:k < L.length:=om
  obtain⟨d,hd⟩ :∃d,d=L[k]:=⟨_,rfl⟩
  have hgd:L.getD k ([],0,0,0)=d:=by rw[e8,i7 hkl,hd];rfl
  have hK:Dg L k=if (L.take k).any (λe=>decide (e.1=d.1))=true then 9 else 0:=by unfold Dg;rw[hgd]
  obtain⟨nm,d1,d2,d3⟩:=d;refine R2 cQ (e:=48) rfl hL k rfl hkl λb9 o9 cs hcs hR hcell=>?_;rw[<-hd] at hR;have hR:cs = [sv nm,iQ d1,iQ d2,iQ d3]:=hR;subst hR;refine nX cQ (i:=0) rfl hcell rfl ?_;intro b4;refine An cQ (e:=48) rfl hL 0 k (Or.inl ⟨rfl,rfl⟩) (Or.inr ⟨_,_,rfl,rfl⟩) om om λa19 hs19=>?_;rw[G6] at hs19;refine k7 _ (λw' hm=>mN 143 (pQ b4) (λe=>decide (e.1=nm)) w' (hs19.mono (j7 _) (hm 0 _ rfl).whole) om (λw2 h2 e _ cs _ hs=>by
   have hs:cs=P2 e:=hs;subst hs;exact SL e w2 ((h2.le (hm 1 _ rfl).whole).whole.cell (I0 b4 _ rfl)))) ?_
  refine v7 (λh4=>?_) λh4=>?_
  ·rw[if_pos h4] at hK;rw[BB hz hkl hK dc];exact⟨[],⟨rfl,rfl⟩,pk [0]⟩
  ·rw[if_neg (by rw[h4];decide)] at hK;refine nwo ?_;exact⟨k+1,⟨om,λj hj=>(M9 j k).elim (hz j) (λg=>by rw[show j=k by omega];exact hK)⟩,by (try dsimp only);omega,y6.mk (pj [0]) rfl rfl⟩
 ·rw[Y4.2 (λj hj=>hz j om)];exact⟨[],⟨rfl,rfl⟩,pk [0]⟩
theorem CC {a:Option Addr} {n c e:Nat} {x:Ex} {cs:List Value} (w:World) (hn:n < 1000000) (hx:RA x) (he:bE e (Hp.whole w) x cs) :
  j2 Tryz.prog 17 #[.slice a n c,.agg cs.toArray] w (v8 w (iQ (AZ n x))):=by
 match e,he with
 | e+1,he=>
 obtain⟨op,f,fac,args⟩:=x;have he':=he;obtain⟨a2,n2,c2,a1,n1,c1,rfl,_⟩:=he;refine enterZ (cx 9) [.slice a n c,.agg #[iQ op,sv f.1,.slice a2 n2 c2,sv fac,.slice a1 n1 c1]] [.tmp 4] Tryz.func17 ?_;intro b3;refine k7 _ (λw' hm=>oQ w' hn hx (D6 _ _ _ _ _ (hm 0 _ rfl).whole he')) ?_;exact⟨[],⟨rfl,rfl⟩,pk [0]⟩
end Go.Proofs.YtpjhmeicbjkcdaaGreatDoor
namespace Go.Dw
open Go Go.RowKit
def CE (c:UInt8):List Value:=[.int .u8 c.toNat]
section
variable {X:Q2} {s:List Ch}
theorem OE (hX:X.Good) {T U e ty:Nat} {te tu:TI} (hT:bQ X T=some (e,te)) (ht1:te.size=1) (hU:G9 X.tt U=some tu) (hk:tu.k=.str) {i:Nat} {h:Hp} (hi:l7 s i=some (.hp h)) {a:Option Addr} {n c:Nat} {xs:List Value}
  (ho:jO e 1 h a n c xs) (x:ByteArray) (hby:(n+x.size)*te.bytes<=140737488355328) (hmx:n+x.size<=maxLen) {q:TV->List Ch->Prop}
  (hq :∀a' c' h',jO e 1 h' a' (n+x.size) c' (xs++Lib.strCells x)->q (.v (.slice a' (n+x.size) c')) (w8 s i (.hp h'))) :
  G7 X.P s (Builtin.append_ #[T,U] ty #[.slice a n c,.string x]) q:=by
 obtain⟨hu,hg⟩:=V4 hX hT;have hstr:X.P.underlying U=some .string:=by
  have:=(Good.und hX hU).2;rw[hk] at this;exact this
 obtain⟨⟨inf,hinf,hs1,hs2,z,hz,hzc,hzl⟩,_⟩:=hg;rw[ht1] at hs1;have hl:(Lib.strCells x).length=x.size:=Lib.strCells_length x;have hsm:n+x.size<=9223372036854775807:=by simp only[maxLen] at hmx;omega
 have hlen:(xs++Lib.strCells x).length=(n+x.size)*1:=by rw[d6,ho.1,hl,D2,D7,D7]
 refine⟨λw0 w hok=>?_⟩;have keep :∀h',I5 s (w8 s i (.hp h')):=λh'=>I5.set hi (λb cs T e=>by cases e);rcases ho.2 with ⟨rfl,rfl⟩ | ⟨b,arr,rfl,hb,hnc,hcm,hcs,htk⟩
 ·have hx:xs = []:=w6 (by simpa using ho.1);subst hx;have same:Ok w0 (w8 s i (.hp h)) w:=by
   have:w8 s i (.hp h)=s:=by
    rw[S0];rw[I7] at hi;exact O0 λj=>by
     rw[N9];split
     ·rename_i e;subst e;split
      ·exact hi.symm
      ·rename_i hh;rw[cT om] at hi;cases hi
     ·rfl
   rw[this];exact hok
  by_cases hm:x.size=0
  ·have hn:Lib.strCells x = []:=w6 om;have hf:=Lib.run_firstCells_string (P:=X.P) w 1 x;rw[hm,hn] at hf;rw[hm,hn] at hq;refine⟨.v (.slice a 0 0),_,w,w8 s i (.hp h),?_,same,keep h,rfl,hq a 0 h (jO.nil _ _ _ _)⟩;cases a with
   | none=>simp[Builtin.append_,run_underlying hu,run_underlying hstr,sizeOf,typeInfo,hinf,hs1,Builtin.lenOf,hm,hf]
   | some a=>simp[Builtin.append_,run_underlying hu,run_underlying hstr,sizeOf,typeInfo,hinf,hs1,Builtin.lenOf,hm,hf,storeCells]
  ·have hge:=grownCap_ge w x.size 0 e;have hcm:=grownCap_le_maxLen w x.size 0 e om;have hr:(Builtin.append_ #[T,U] ty #[.slice a 0 0,.string x]).run X.P w =
     .ok (.slice (some ⟨w.heap.size,0,none⟩) x.size (grownCap w x.size 0 e)) (w.drew.alloc (.cells ((Lib.strCells x).toArray++Builtin.zeroCells z.cells (grownCap w x.size 0 e - x.size)) e)):=by
    cases a with
    | none=>
     have:=run_append_nil_string (P:=X.P) w T U ty e inf z hu hstr hinf hz x om om (by rw[hs2];simp only[w7] at hby;omega);rw[this];congr 4
     apply Array.ext';simp[Lib.strCells]
    | some b=>
     have:=Lib.run_append_grow_string (P:=X.P) w T U ty e inf z hu hstr hinf hz b 0 0 [] sQ (λj v hj=>by simp at hj) x om om (growslice_fits om (by rw[hs2];exact hby));simpa using this
   refine⟨.v _,_,_,_,hr,jO.move hok hi _,keep _,rfl,?_⟩;have:=hq (some ⟨w.heap.size,0,none⟩) (grownCap w x.size 0 e) (Hp.one w.heap.size (.cells ((Lib.strCells x).toArray++Builtin.zeroCells z.cells (grownCap w x.size 0 e - x.size)) e))
    ⟨hlen,.inr ⟨_,_,rfl,Hp.one_self _ _,by simpa using hge,hcm,?_,?_⟩⟩
   ·simpa using this
   ·simp only[Array.size_append,Y7,size_zeroCells,hzc,hzl,hl,ht1];omega
   ·simp only[Array.toList_append,I4,w7,<-hl,D7];exact wE
 ·by_cases hroom:n+x.size<=c
  ·have hblk:=hok.mem i _ hi b _ hb;have hr:=Lib.run_append_room_string (P:=X.P) w T U ty e inf hu hstr hinf hs1 b n c arr hblk x hroom om;refine⟨.v _,_,_,_,hr,jO.row hok hi hb,keep _,rfl,hq _ _ _ ⟨hlen,.inr ⟨b,_,rfl,Hp.upd_self _ _ _,hroom,hcm,?_,?_⟩⟩⟩
   ·simp only[Y7,d6,j1,j9,Array.length_toList,hl];omega
   ·rw[D7] at htk;rw[htk,<-hlen];exact wE
  ·have holds :∀j u,xs[j]?=some u->w.cell? ((⟨b,0,none⟩:Addr).add j)=some u:=λj u hu=>by
    obtain⟨b',arr',e1,_,_,h4⟩:=ho.cell hu;cases e1;rw[Addr.add_mk,w7];exact (hok.mem i _ hi).cell h4
   have hr:=Lib.run_append_grow_string (P:=X.P) w T U ty e inf z hu hstr hinf hz ⟨b,0,none⟩ n c xs (by rw[hs1];exact ho.1) holds x om om (growslice_fits om (by rw[hs2];exact hby));have hge:=grownCap_ge w (n+x.size) c e;have hcm':=grownCap_le_maxLen w (n+x.size) c e hmx;refine⟨.v _,_,_,_,hr,jO.move hok hi _,keep _,rfl,hq _ _ _ ⟨hlen,.inr ⟨_,_,rfl,Hp.one_self _ _,hge,hcm',?_,?_⟩⟩⟩
   ·have h1:=ho.1;simp only[Array.size_append,Y7,size_zeroCells,hzc,hzl,hl,ht1];omega
   ·simp only[Array.toList_append,f8];rw[<-f8,<-hlen];exact wE
theorem Gg (x:List UInt8):Lib.strCells ⟨x.toArray⟩=x.flatMap CE:=by
 unfold Lib.strCells;induction x with
 | nil=>rfl
 | cons c r ih=>
  rw[u7,<-ih];simp[CE]
theorem Io (hX:X.Good) {T U e ty:Nat} {te tu:TI} (hT:bQ X T=some (e,te)) (ht1:te.size=1) (hb1:te.bytes=1) (hU:G9 X.tt U=some tu) (hk:tu.k=.str) {i:Nat} {o:Os} (hi:l7 s i=some (.hp o.h)) {L:List UInt8}
  (ho:w5 CE e 1 o L) (x:List UInt8) (hn:L.length+x.length < 1000000000) {q:TV->List Ch->Prop} (hq :∀o',w5 CE e 1 o' (L++x)->q (.v o'.v) (w8 s i (.hp o'.h))) :
  uV X.P s #[T,U] ty o.v (.v (.string ⟨x.toArray⟩)) q:=by
 obtain⟨hl,ho⟩:=ho;have hz:(ByteArray.mk x.toArray).size=x.length:=by simp[ByteArray.size]
 refine⟨.string ⟨x.toArray⟩,rfl,OE hX hT ht1 hU hk hi ho ⟨x.toArray⟩ (by rw[hb1,hz];omega) (by rw[hz];simp only[maxLen];omega) λa' c' h' ho'=>hq ⟨a',o.n+(ByteArray.mk x.toArray).size,c',h'⟩ ⟨?_,?_⟩⟩
 ·rw[hz,d6,<-hl]
 ·rw[N7,<-Gg x];exact ho'
end
end Go.Dw
namespace Go.Proofs.YtpjhmeicbjkcdaaGreatDoor
open Go Go.RowKit Go.Dw Go.Shelf
set_option maxHeartbeats 1000000 in
set_option maxRecDepth 100000 in
theorem YR (b:Nat) (w:World) (h0:w.cell? ⟨b,0,none⟩=some (pQ b)) :
  Calls Tryz.prog 183 #[pQ b] w λe w'=>e=.returned (.tuple #[])/\w'=w:=by
 obtain⟨j,hj,hjs⟩:=Option.map_eq_some_iff.1 (show (Tryz.prog.info? 116).map (·.size)=some 2 from by kernel_rfl);go_enter Tryz.func183,Tryz.ntmps183
 go_wp2
 rw[Lib.run_neq_ptr_same w _ Tryz.underlying114 hj];go_wp2
 go_end0
 exact⟨rfl,rfl⟩
set_option maxHeartbeats 1000000 in
set_option maxRecDepth 100000 in
theorem TR (b:Nat) (w:World) (h0:w.cell? ⟨b,0,none⟩=some (.pointer none)) (hsh:w.shape? b=some (118,3)) (hfz:w.frozen? ⟨b,0,none⟩=false) :
  Calls Tryz.prog 183 #[pQ b] w λe w'=>e=.returned (.tuple #[])/\w'=w.setCell ⟨b,0,none⟩ (pQ b):=by
 obtain⟨j,hj,hjs⟩:=Option.map_eq_some_iff.1 (show (Tryz.prog.info? 116).map (·.size)=some 2 from by kernel_rfl);go_enter Tryz.func183,Tryz.ntmps183
 go_wp2
 rw[Lib.run_to_unsafe w ⟨b,0,none⟩ Tryz.underlying114 Tryz.underlying263 hj (by rw[hjs];decide) hsh (E3 2)];simp only[Result.andThen];rw[Oper.upon_value];go_wp2
 rw[run_callFunc_extern Tryz.func216 kr kr kr (e:=Extern.AbiNoEscape.same) kr];rw[Lib.run_noEscape];simp only[Result.andThen];rw[Oper.upon_value];go_wp2
 rw[Lib.run_from_unsafe w ⟨b,0,none⟩ Tryz.underlying263 Tryz.underlying114 hj hsh kr];simp only[Result.andThen];rw[Oper.upon_value];go_wp2
 go_end0
 exact⟨rfl,rfl⟩
theorem Al {s:List Ch} {i:Nat} {c:Ch} (hi:l7 s i=some c):w8 s i c=s:=by
 rw[S0];rw[I7] at hi;exact O0 λj=>by
  rw[N9];split
  ·rename_i e;subst e;split
   ·exact hi.symm
   ·rename_i hh;rw[cT om] at hi;cases hi
  ·rfl
theorem Kr {s:List Ch} {i b:Nat} {fl bv dv:Value} {q:TV->List Ch->Prop} (hi:l7 s i=some (.box b [fl,bv,dv] 118)) (hfl:fl=.pointer none\/fl=pQ b)
  (hq:q (.v (.tuple #[])) (w8 s i (.box b [pQ b,bv,dv] 118))):P4 Tryz.prog s 183 [pQ b] q:=by
 refine⟨λw0 w hok=>⟨enters_of (args:=#[pQ b]) Tryz.func183 kr rfl,?_⟩⟩;have hb:w.heap[b]?=some (.cells #[fl,bv,dv] 118 (0,0)):=hok.mem i _ hi b _ (Hp.one_self b _);have keep:I5 s (w8 s i (.box b [pQ b,bv,dv] 118)):=I5.set hi (λb' cs' T e=>by cases e;exact⟨_,_,rfl⟩);rcases hfl with rfl | rfl
 ·refine (TR b w (pU (i:=i) (j:=0) hi rfl hok.mem) (by simp[World.shape?,hb]) (Lib.frozen_of_heap hb 0)).mono ?_;rintro e w' ⟨rfl,rfl⟩;exact⟨_,_,rfl,hok.boxSet hi 0 _,keep,hq⟩
 ·refine (YR b w (pU (i:=i) (j:=0) hi rfl hok.mem)).mono ?_;rintro e w' ⟨rfl,rfl⟩;exact⟨_,_,rfl,by rw[Al hi];exact hok,keep,hq⟩
set_option maxRecDepth 10000 in
theorem Ox {c0:Hp} {b:Nat} {fl dv:Value} {o:Dw.Os} {L x:d8} {q:TV->List Ch->Prop} (hfl:fl=.pointer none\/fl=pQ b) (ho:w5 CE 5 1 o L) (hn:L.length+x.length < 1000000000)
  (hq :∀(o2:Dw.Os) v,w5 CE 5 1 o2 (L++x)->q v [.hp c0,.box b [pQ b,o2.v,dv] 118,.hp o2.h]) :
  P4 Tryz.prog [.hp c0,.box b [fl,o.v,dv] 118,.hp o.h] 129 [pQ b,sv x] q:=by
 refine enterFZ (cx 19) [pQ b,sv x] [.tmp 4,.tmp 5] Tryz.func129 ?_;refine Kr (i:=1) rfl hfl ?_;refine lR 1 1 ?_;refine Io cQ (e:=5) rfl rfl rfl rfl rfl (i:=2) rfl ho x hn λo2 ho2=>?_;refine iW cQ (i:=1) (j:=1) rfl rfl rfl sQ rfl rfl ?_;exact⟨⟨rfl,trivial⟩,hq o2 _ ho2⟩
end Go.Proofs.YtpjhmeicbjkcdaaGreatDoor
namespace Go.Proofs.YtpjhmeicbjkcdaaGreatDoor
open Go Go.RowKit Go.Dw
def mS (h:Hp) (b:Nat) (dv:Value) (t:d8):Prop:=∃(fl:Value) (o:Dw.Os),h=(Ch.box b [fl,o.v,dv] 118).h.join o.h/\(Ch.box b [fl,o.v,dv] 118).h.dj o.h/\(fl=.pointer none\/fl=pQ b)/\w5 CE 5 1 o t
theorem kE {L:List d8} {k:Nat} (hk:k < L.length):(L.take (k+1)).flatten=(L.take k).flatten++L[k]:=by
 rw[I9 L k hk,UO];simp
theorem Ct {L:List d8} {k:Nat} (hk:k < L.length):((L.take k).flatten).length+L[k].length<=L.flatten.length:=by
 have:=congrArg H4 (kE hk);rw[d6] at this;rw[<-this];have e:L.flatten=(L.take (k+1)).flatten++(L.drop (k+1)).flatten:=by rw[<-UO,F8]
 rw[e,d6];omega
set_option maxRecDepth 10000 in
theorem IY {h:Hp} {b:Nat} {dv:Value} {t:d8} {a:Option Addr} {n c:Nat} {L:List d8} (w:World) (hin:h.In w) (hI:mS h b dv t) (hL:Sl (E0 Lp) 1 ((Hp.whole w).minus h) a n c L) (hn:L.length < 1000000) (hlen:t.length+L.flatten.length < 1000000000) :
  j2 Tryz.prog 56 #[pQ b,.slice a n c] w (O3 w h λ_ h' cs=>cs = []/\mS h' b dv (t++L.flatten)):=by
 obtain⟨fl,o,rfl,hdj,hfl,ho⟩:=hI;have hll:=hL.len;obtain⟨c0,hc0⟩ :∃c0,c0=(Hp.whole w).minus ((Ch.box b [fl,o.v,dv] 118).h.join o.h):=⟨_,rfl⟩
 have ok1:=Ok.part (i:=1) (Ok.start2 w hin) rfl (Hp.le_join_l _ _) (Hp.le_join_r hdj) hdj;have ok0:Ok w [.hp c0,.box b [fl,o.v,dv] 118,.hp o.h] w:=by
  rw[hc0];exact Ok.same (s:=[.hp ((Hp.whole w).minus ((Ch.box b [fl,o.v,dv] 118).h.join o.h)),.hp (Ch.box b [fl,o.v,dv] 118).h,.hp o.h]) (i:=1) (c:=.hp (Ch.box b [fl,o.v,dv] 118).h) (d:=.box b [fl,o.v,dv] 118) rfl rfl ok1
 refine enterMSZ (cx 18) [pQ b,.slice a n c] ok0 [] Tryz.func56 ?_;rw[<-hc0] at hL ⊢;refine z6.mkS (Nat×Value×Dw.Os) (λg=>[(0,.v (pQ b)),(6,.v (.slice a n c)),(7,.v (iQ n)),(8,.v (iQ g.1))]) (λg=>[.hp c0,.box b [g.2.1,g.2.2.v,dv] 118,.hp g.2.2.h])
  (λg=>g.1<=n/\(g.2.1=.pointer none\/g.2.1=pQ b)/\w5 CE 5 1 g.2.2 (t++(L.take g.1).flatten)) (λg=>n - g.1) (0,fl,o) ⟨j0 _,hfl,by simpa using ho⟩ (y6.mk (λ_ _ h=>h) rfl rfl) ?_
 rintro⟨k,fl,o⟩ ⟨hk,hfl,ho⟩ hsat;dsimp only at hk hfl ho ⊢;refine d9 (λh1=>?_) λh1=>?_
 ·have hkl:k < L.length:=om
  have hfle:=Ct hkl;refine R2 cQ (e:=9) rfl hL k rfl hkl λb9 o9 cs hcs hR hcell=>?_;subst hR;refine lQ 0 (hcell 0 _ rfl) ?_;refine Ox hfl ho (by rw[d6];omega) λo2 v ho2=>?_;refine nwo ?_;refine⟨(k+1,pQ b,o2),⟨by dsimp only;omega,.inr rfl,?_⟩,by dsimp only;omega,y6.mk (pj [0,1,2]) rfl rfl⟩;dsimp only;rw[kE hkl,<-f8];exact ho2
 ·have hk2:k=L.length:=om
  subst hk2;rw[q8] at ho;refine⟨(Ch.box b [fl,o.v,dv] 118).h.join o.h,[],⟨rfl,fl,o,rfl,?_,hfl,ho⟩,λw' h=>Ok.join (c:=.hp c0) (d:=.box b [fl,o.v,dv] 118) (e:=.hp o.h) (s:=[]) h⟩;obtain⟨w0,w1,hok⟩:=hsat;exact hok.disj 1 2 _ _ dc rfl rfl
end Go.Proofs.YtpjhmeicbjkcdaaGreatDoor
namespace Go.Proofs.YtpjhmeicbjkcdaaGreatDoor
open Go Go.RowKit Go.Dw
theorem MJ {α:Type} {f:α->List Value} {sz b T:Nat} {cs:List Value} {off:Nat} {L:List α} (hs :∀x,(f x).length=sz) (hc :∀i (hi:i < L.length) j v,(f L[i])[j]?=some v->cs[off+i*sz+j]?=some v) :
  Sl (E0 f) sz (Ch.box b cs T).h (some ⟨b,off,none⟩) L.length L.length L:=
 ⟨rfl,j8 _,λi hi=>⟨b,off,f L[i],rfl,hs _,rfl,λj v hj=>by
  have:=hc i hi j v hj;simp[Hp.cell?,Ch.h,Hp.one,this]⟩⟩
theorem aI {s:List Ch} {i j b bb T m:Nat} {h:Hp} {dv:Value} {t:d8} {L:List d8} {q:TV->List Ch->Prop} (hij:j≠i) (hi:l7 s i=some (.hp h)) (hI:mS h b dv t) (hj:l7 s j=some (.box bb (L.map λx=>Value.string (bs x)) T)) (hm:m=L.length) (hn:L.length < 1000000) (hlen:t.length+L.flatten.length < 1000000000)
  (hq :∀v h',mS h' b dv (t++L.flatten)->q v (w8 s i (.hp h'))):P4 Tryz.prog s 56 [pQ b,.slice (some ⟨bb,0,none⟩) m m] q:=by
 subst hm;refine k6 (i:=i) hi (λw0 w hok=>IY w (hok.mem i _ hi) hI (Sl.mono (j7 _) (Hp.le_minus (hok.mem j _ hj).whole (hok.disj j i _ _ hij hj hi)) (MJ (f:=Lp) (λ_=>rfl) (λk hk jj v hv=>?_))) hn hlen) ?_
 ·match jj,hv with
  | 0,hv=>
   have hv:some (Value.string (bs L[k]))=some v:=hv;rw[w7,D7,E7,E2,i7 hk];exact hv
 ·rintro v h' _ ⟨rfl,hI2⟩;rw[k8];exact hq _ _ hI2
end Go.Proofs.YtpjhmeicbjkcdaaGreatDoor
namespace Go.Proofs
open Go.Shelf
def Tryz.lRe_ren:Go.Shelf.Ren:=⟨λ| 105=>199 | 212=>244 | 99=>245 | 165=>188 | 166=>129 | 170=>136 | 169=>137 | 263=>277 | 264=>278 | 206=>224 | 240=>183 | 241=>223 | 276=>216 | 277=>267 | n=>n,λ| 9=>9 | 3=>3 | 4=>4 | 20=>20 | 0=>0 | 46=>135 | 109=>303 | 5=>5 | 72=>116 | 76=>197 | 51=>247 | 146=>329 | 53=>248 | 148=>331 | 70=>114 | 37=>68 | 75=>196 | 127=>239 | 164=>263 | 80=>206 | n=>n,λ| n=>n⟩
theorem Tryz.lRe:Go.Proofs.Lays.n105 Tryz.prog Tryz.lRe_ren:={
 mixed:=kr
 f99:=Tryz.func245.trans (congrArg some kr)
 f105:=Tryz.func199.trans (congrArg some kr)
 f165:=Tryz.func188.trans (congrArg some kr)
 f166:=Tryz.func129.trans (congrArg some kr)
 f169:=Tryz.func137.trans (congrArg some kr)
 f170:=Tryz.func136.trans (congrArg some kr)
 f206:=Tryz.func224.trans (congrArg some kr)
 f212:=Tryz.func244.trans (congrArg some kr)
 f240:=Tryz.func183.trans (congrArg some kr)
 f241:=Tryz.func223.trans (congrArg some kr)
 f263:=Tryz.func277.trans (congrArg some kr)
 f264:=Tryz.func278.trans (congrArg some kr)
 f276:=Tryz.func216.trans (congrArg some kr)
 f277:=Tryz.func267.trans (congrArg some kr)
 t0:=Tryz.underlying0
 a0:=Tryz.isAgg0
 z0:=Tryz.sizeOf0
 v0:=Tryz.zeroValue0
 t3:=Tryz.underlying3
 a3:=Tryz.isAgg3
 z3:=Tryz.sizeOf3
 v3:=Tryz.zeroValue3
 t4:=Tryz.underlying4
 a4:=Tryz.isAgg4
 z4:=Tryz.sizeOf4
 v4:=Tryz.zeroValue4
 t5:=Tryz.underlying5
 a5:=Tryz.isAgg5
 z5:=Tryz.sizeOf5
 v5:=Tryz.zeroValue5
 t9:=Tryz.underlying9
 a9:=Tryz.isAgg9
 z9:=Tryz.sizeOf9
 v9:=Tryz.zeroValue9
 t20:=Tryz.underlying20
 a20:=Tryz.isAgg20
 z20:=Tryz.sizeOf20
 v20:=Tryz.zeroValue20
 t37:=Tryz.underlying68
 a37:=Tryz.isAgg68
 z37:=Tryz.sizeOf68
 v37:=Tryz.zeroValue68
 t46:=Tryz.underlying135
 a46:=Tryz.isAgg135
 z46:=Tryz.sizeOf135
 v46:=Tryz.zeroValue135
 t51:=Tryz.underlying247
 a51:=Tryz.isAgg247
 z51:=Tryz.sizeOf247
 v51:=Tryz.zeroValue247
 t53:=Tryz.underlying248
 a53:=Tryz.isAgg248
 z53:=Tryz.sizeOf248
 v53:=Tryz.zeroValue248
 t70:=Tryz.underlying114
 a70:=Tryz.isAgg114
 z70:=Tryz.sizeOf114
 v70:=Tryz.zeroValue114
 t72:=Tryz.underlying116
 a72:=Tryz.isAgg116
 z72:=Tryz.sizeOf116
 v72:=Tryz.zeroValue116
 t75:=Tryz.underlying196
 a75:=Tryz.isAgg196
 z75:=Tryz.sizeOf196
 v75:=Tryz.zeroValue196
 t76:=Tryz.underlying197
 a76:=Tryz.isAgg197
 z76:=Tryz.sizeOf197
 v76:=Tryz.zeroValue197
 t109:=Tryz.underlying303
 a109:=Tryz.isAgg303
 z109:=Tryz.sizeOf303
 v109:=Tryz.zeroValue303
 t127:=Tryz.underlying239
 a127:=Tryz.isAgg239
 z127:=Tryz.sizeOf239
 v127:=Tryz.zeroValue239
 t146:=Tryz.underlying329
 a146:=Tryz.isAgg329
 z146:=Tryz.sizeOf329
 v146:=Tryz.zeroValue329
 t148:=Tryz.underlying331
 a148:=Tryz.isAgg331
 z148:=Tryz.sizeOf331
 v148:=Tryz.zeroValue331
 t164:=Tryz.underlying263
 a164:=Tryz.isAgg263
 z164:=Tryz.sizeOf263
 v164:=Tryz.zeroValue263 }
end Go.Proofs
namespace Go.Proofs
open Go.Shelf
def Tryz.lJo_ren:Go.Shelf.Ren:=⟨λ| 156=>133 | 165=>188 | 166=>129 | 169=>137 | 240=>183 | 241=>223 | 276=>216 | 277=>267 | n=>n,λ| 31=>69 | 9=>9 | 3=>3 | 4=>4 | 0=>0 | 20=>20 | 72=>116 | 76=>197 | 70=>114 | 37=>68 | 75=>196 | 127=>239 | 164=>263 | 5=>5 | 80=>206 | n=>n,λ| n=>n⟩
theorem Tryz.lJo:Go.Proofs.Lays.n156 Tryz.prog Tryz.lJo_ren:={
 mixed:=kr
 f156:=Tryz.func133.trans (congrArg some kr)
 f165:=Tryz.func188.trans (congrArg some kr)
 f166:=Tryz.func129.trans (congrArg some kr)
 f169:=Tryz.func137.trans (congrArg some kr)
 f240:=Tryz.func183.trans (congrArg some kr)
 f241:=Tryz.func223.trans (congrArg some kr)
 f276:=Tryz.func216.trans (congrArg some kr)
 f277:=Tryz.func267.trans (congrArg some kr)
 t0:=Tryz.underlying0
 a0:=Tryz.isAgg0
 z0:=Tryz.sizeOf0
 v0:=Tryz.zeroValue0
 t3:=Tryz.underlying3
 a3:=Tryz.isAgg3
 z3:=Tryz.sizeOf3
 v3:=Tryz.zeroValue3
 t4:=Tryz.underlying4
 a4:=Tryz.isAgg4
 z4:=Tryz.sizeOf4
 v4:=Tryz.zeroValue4
 t9:=Tryz.underlying9
 a9:=Tryz.isAgg9
 z9:=Tryz.sizeOf9
 v9:=Tryz.zeroValue9
 t20:=Tryz.underlying20
 a20:=Tryz.isAgg20
 z20:=Tryz.sizeOf20
 v20:=Tryz.zeroValue20
 t31:=Tryz.underlying69
 a31:=Tryz.isAgg69
 z31:=Tryz.sizeOf69
 v31:=Tryz.zeroValue69
 t37:=Tryz.underlying68
 a37:=Tryz.isAgg68
 z37:=Tryz.sizeOf68
 v37:=Tryz.zeroValue68
 t70:=Tryz.underlying114
 a70:=Tryz.isAgg114
 z70:=Tryz.sizeOf114
 v70:=Tryz.zeroValue114
 t72:=Tryz.underlying116
 a72:=Tryz.isAgg116
 z72:=Tryz.sizeOf116
 v72:=Tryz.zeroValue116
 t75:=Tryz.underlying196
 a75:=Tryz.isAgg196
 z75:=Tryz.sizeOf196
 v75:=Tryz.zeroValue196
 t76:=Tryz.underlying197
 a76:=Tryz.isAgg197
 z76:=Tryz.sizeOf197
 v76:=Tryz.zeroValue197
 t127:=Tryz.underlying239
 a127:=Tryz.isAgg239
 z127:=Tryz.sizeOf239
 v127:=Tryz.zeroValue239
 t164:=Tryz.underlying263
 a164:=Tryz.isAgg263
 z164:=Tryz.sizeOf263
 v164:=Tryz.zeroValue263 }
end Go.Proofs
namespace Go.Proofs.YtpjhmeicbjkcdaaGreatDoor
open Go Go.RowKit Go.Dw
def dZ (L:List d8) (i:Nat):List d8:=(x8 L.length).map λp=>if p < i\/L.length<=p+i then L.getD (L.length - 1 - p) [] else L.getD p []
theorem aA (L:List d8) (i:Nat):(dZ L i).length=L.length:=by unfold dZ;simp
theorem nK {L:List d8} {i p:Nat} (h:p < (dZ L i).length):(dZ L i)[p]=if p < i\/L.length<=p+i then L.getD (L.length - 1 - p) [] else L.getD p []:=by
 have hp:p < L.length:=by rw[aA] at h;exact h
 have:(dZ L i)[p]?=some (if p < i\/L.length<=p+i then L.getD (L.length - 1 - p) [] else L.getD p []):=by unfold dZ;rw[E2,UN hp];rfl
 rw[i7 h] at this;exact M0 this
theorem RR (L:List d8):dZ L 0=L:=by
 apply Iu (aA _ _);intro p h1 h2;rw[nK h1,if_neg om,e8,i7 h2];rfl
theorem VX {L:List d8} {i:Nat} (h:L.length<=2*i+1):dZ L i=L.reverse:=by
 apply Iu (by rw[aA,List.length_reverse]);intro p h1 h2;have hp:p < L.length:=by rw[aA] at h1;exact h1
 rw[nK h1,List.getElem_reverse];have e:L.getD (L.length - 1 - p) []=L[L.length - 1 - p]:=by rw[e8,i7 om];rfl
 split
 ·exact e
 ·have:p=L.length - 1 - p:=om
  rw[<-e,<-this]
theorem RT {L:List d8} {i j:Nat} (hij:i < j) (hj:i+j+1=L.length) {x y:d8} (hx:x=(dZ L i).getD j []) (hy:y=(dZ L i).getD i []):((dZ L i).set i x).set j y=dZ L (i+1):=by
 have gd :∀p,p < L.length->(dZ L i).getD p []=if p < i\/L.length<=p+i then L.getD (L.length - 1 - p) [] else L.getD p []:=λp hp=>by
  have h:p < (dZ L i).length:=by rw[aA];exact hp
  rw[e8,i7 h,Option.getD_some,nK h]
 apply Iu (by rw[M3,M3,aA,aA]);intro p h1 h2;have hp:p < L.length:=by rw[aA] at h2;exact h2
 rw[It,nK h2];split
 ·rename_i e
  subst e;rw[hy,gd i om,if_neg om,if_pos om,show L.length - 1 - j=i by omega]
 ·rename_i e
  rw[It];split
  ·rename_i e2
   subst e2;rw[hx,gd j om,if_neg om,if_pos om,show L.length - 1 - i=j by omega]
  ·rename_i e2
   have h3:p < (dZ L i).length:=by rw[aA];exact hp
   rw[nK h3];by_cases h:p < i\/L.length<=p+i
   ·rw[if_pos h,if_pos om]
   ·rw[if_neg h,if_neg om]
set_option maxRecDepth 10000 in
theorem xO {o:Dw.Os} {L:List d8} (w:World) (hin:o.h.In w) (ho:w5 fS 9 1 o L) (hl:L.length < 1000000) :
  j2 Tryz.prog 200 #[o.v] w (O3 w o.h λv h' cs=>v=.tuple #[]/\cs = []/\w5 fS 9 1 ⟨o.a,o.n,o.c,h'⟩ L.reverse):=by
 have hn:=ho.len;refine enterMZ (cx 28) [o.v] hin [] Tryz.func200 ?_;obtain⟨c0,hc0⟩ :∃c0,c0=(Hp.whole w).minus o.h:=⟨_,rfl⟩
 rw[<-hc0];refine nwo ?_;refine z6.mk (Nat×Dw.Os×Int) (λg=>[(0,.v o.v),(2,.v (iQ g.1)),(3,.v (iQ g.2.2))]) (λg=>[.hp c0,.hp g.2.1.h])
  (λg=>(2*g.1<=o.n+1/\g.2.2=(o.n:Int) - 1 - g.1)/\(g.2.1.a=o.a/\g.2.1.n=o.n/\g.2.1.c=o.c)/\w5 fS 9 1 g.2.1 (dZ L g.1)) (λg=>o.n - g.1) (0,o,(o.n:Int) - 1) ⟨⟨by dsimp only;omega,by dsimp only;omega⟩,⟨rfl,rfl,rfl⟩,by dsimp only;rw[RR];exact ho⟩ (y6.mk (λ_ _ h=>h) rfl rfl) ?_
 rintro⟨i,o1,jj⟩ ⟨⟨hi,hjj⟩,⟨e1,e2,e3⟩,ho1⟩;dsimp only at *;obtain⟨oa,on,oc,h1⟩:=o1;simp only at e1 e2 e3;subst e1 e2 e3;have hrl:=aA L i;refine d9 (λhlt=>?_) λhge=>?_
 ·obtain⟨j,hj⟩ :∃j:Nat,j=o.n - 1 - i:=⟨_,rfl⟩
  have hij:i < j:=om
  have hjl:j < (dZ L i).length:=om
  have hil:i < (dZ L i).length:=om
  have gi:(dZ L i).getD i []=(dZ L i)[i]:=by rw[e8,i7 hil];rfl
  have gj:(dZ L i).getD j []=(dZ L i)[j]:=by rw[e8,i7 hjl];rfl
  have hst:=RT hij om gj.symm gi.symm;obtain⟨x,hx⟩ :∃x,x=(dZ L i)[j]:=⟨_,rfl⟩
  obtain⟨y,hy⟩ :∃y,y=(dZ L i)[i]:=⟨_,rfl⟩
  refine u6.cut Dw.Os (λg=>[(0,.v o.v),(2,.v (iQ i)),(3,.v (iQ jj))]) (λg=>[.hp c0,.hp g.h]) (λg=>(g.a=o.a/\g.n=o.n/\g.c=o.c)/\w5 fS 9 1 g (dZ L (i+1))) (u6.by_order0 cQ (.take 0 <| .take 1 <| .take 2 <| .take 3 <| .take 4 <| .take 5 <| .take 6 <| .take 8 <| .take 9 <| .take 10 <| .two 7 (.run 11 <| .take 12 <| .run 13 <| .run 14 <| .run 15 <| .done) 11 (.run 7 <| .take 12 <| .run 13 <| .run 14 <| .run 15 <| .done)) kr (J5 _ 1) ?_) ?_
  ·refine aW (o:=⟨o.a,o.n,o.c,h1⟩) cQ (e:=9) rfl rfl ho1 j om hjl λb8 hb8=>?_;refine aW (o:=⟨o.a,o.n,o.c,h1⟩) cQ (e:=9) rfl rfl ho1 i rfl hil λb9 hb9=>?_;constructor
   focus
    refine tY (o:=⟨o.a,o.n,o.c,h1⟩) (g:=λx:d8=>sv x) (λ_=>rfl) cQ (i:=1) rfl hb8 ho1 hjl rfl ?_;refine⟨sK,?_⟩;refine tY (o:=⟨o.a,o.n,o.c,h1⟩) (g:=λx:d8=>sv x) (λ_=>rfl) cQ (i:=1) rfl hb9 ho1 hil rfl ?_
   rotate_left
   focus
    refine tY (o:=⟨o.a,o.n,o.c,h1⟩) (g:=λx:d8=>sv x) (λ_=>rfl) cQ (i:=1) rfl hb9 ho1 hil rfl ?_;refine⟨sK,?_⟩;refine tY (o:=⟨o.a,o.n,o.c,h1⟩) (g:=λx:d8=>sv x) (λ_=>rfl) cQ (i:=1) rfl hb8 ho1 hjl rfl ?_
   all_goals
    refine⟨sK,?_⟩;rw[<-hx,<-hy];refine aW (o:=⟨o.a,o.n,o.c,h1⟩) cQ (e:=9) rfl rfl ho1 i rfl hil λb7 hb7=>?_;refine mG (o:=⟨o.a,o.n,o.c,h1⟩) (g:=λx:d8=>sv x) (λ_=>rfl) cQ (i:=1) rfl hb7 ho1 hil rfl rfl x rfl rfl rfl λo2 f1 f2 f3 ho2=>?_;refine⟨sK,?_⟩;obtain⟨oa,on,oc,h2⟩:=o2;simp only at f1 f2 f3;subst f1 f2 f3;refine aW (o:=⟨o.a,o.n,o.c,h2⟩) cQ (e:=9) rfl rfl ho2 j om (by rw[M3];exact hjl) λb6 hb6=>?_;refine mG (o:=⟨o.a,o.n,o.c,h2⟩) (g:=λx:d8=>sv x) (λ_=>rfl) cQ (i:=1) rfl hb6 ho2 (by rw[M3];exact hjl) rfl rfl y rfl rfl rfl λo3 f1 f2 f3 ho3=>?_;rw[hx,hy,hst] at ho3;exact⟨o3,⟨⟨f1,f2,f3⟩,ho3⟩,y6.mk (λ_ _ h=>h) rfl rfl⟩
  rintro o3 ⟨⟨e1,e2,e3⟩,ho3⟩ _;dsimp only;(iterate 2 refine nwo ?_);exact⟨(i+1,o3,jj - 1),⟨⟨by dsimp only;omega,by dsimp only;omega⟩,⟨e1,e2,e3⟩,ho3⟩,by dsimp only;omega,y6.mk (λ_ _ h=>h) rfl rfl⟩
 ·rw[VX om] at ho1;exact⟨h1,[],⟨rfl,rfl,ho1⟩,λw' h=>h⟩
theorem Ky:Go.Proofs.Builder.Extra Tryz.prog Tryz.lRe_ren where
 sizeBuilder:=kr
 liesBuilder:=kr
 t5:=Tryz.underlying5
 a5:=Tryz.isAgg5
 z5:=Tryz.sizeOf5
 v5:=Tryz.zeroValue5
 infoByte:=kr
 cellsByte:=kr
 sizeByte:=kr
 neB5:=dc
theorem Kx:Go.Proofs.Builder.Extra Tryz.prog Tryz.lJo_ren where
 sizeBuilder:=kr
 liesBuilder:=kr
 t5:=Tryz.underlying5
 a5:=Tryz.isAgg5
 z5:=Tryz.sizeOf5
 v5:=Tryz.zeroValue5
 infoByte:=kr
 cellsByte:=kr
 sizeByte:=kr
 neB5:=dc
theorem Jt (k:Nat):Lib.repeatL [48] k=m6 k 48:=by
 induction k with
 | zero=>rfl
 | succ k ih=>show [48]++Lib.repeatL [48] k=_;rw[ih,sM];rfl
theorem FT (k:Nat) (hk:k < 1000) (w:World):j2 Tryz.prog 199 #[sv [48],iQ k] w (v8 w (sv (m6 k 48))):=by
 have hcon:=Any.strings_Repeat Tryz.lRe Ky (bs [48]) k w om (by rw[C8];show 1*k<=_;omega);change Calls Tryz.prog 199 _ _ _ at hcon
 refine⟨enters_of (args:=#[sv [48],iQ k]) Tryz.func199 kr rfl,hcon.mono ?_⟩;rintro e w' ⟨rfl,hb⟩;refine v8.ofBelow ?_ hb;rw[lN,Jt];rfl
theorem AV {o:Dw.Os} {L:List d8} (w:World) (sep:d8) (hin:o.h.In w) (ho:w5 fS 9 1 o L) (h0:0 < L.length) (hl:L.length < 1000000) (hj:(Lib.join L sep).length < 1000000) :
  j2 Tryz.prog 133 #[o.v,sv sep] w (v8 w (sv (Lib.join L sep))):=by
 have hlen:=w5.len ho;obtain⟨b,hb⟩:=ho.addr h0;obtain⟨a,n,c,hh⟩:=o;dsimp only at hb hlen hin;subst hb;subst hlen;have hms:(L.map bs).map (λx=>x.data.toList)=L:=by rw[En];exact (aG λx _=>rfl).trans (List.map_id L)
 have hfl :∀(j:Nat) x,(L.map bs)[j]?=some x->(L.flatMap fS)[j]?=some (.string x):=by
  have e:L.flatMap fS=(L.map bs).map Value.string:=by
   clear hms ho h0 hl hj;induction L with
   | nil=>rfl
   | cons x r ih=>rw[u7,M2,M2,ih];rfl
  intro j x hx;rw[e,E2,hx];rfl
 have hown:=ho;have hcap:L.length<=c:=by
  rcases ho.2.2 with ⟨g,_⟩ | ⟨b',arr,e1,_,hnc,_⟩
  ·have:L.length=0:=g;omega
  ·exact hnc
 have hblk:b < w.heap.size:=by
  obtain⟨b',arr,e1,hbb,_,h4⟩:=jO.cell ho.2 (hfl 0 (bs (L[0]'h0)) (by rw[E2,i7 h0];rfl));cases e1;have:=hin _ _ hbb;exact (Array.getElem?_eq_some_iff.1 this).1
 have hcon:=Any.strings_Join Tryz.lJo Kx b 0 c (L.map bs) (bs sep) w (λj x hx=>by
  obtain⟨b',arr,e1,_,_,h4⟩:=jO.cell ho.2 (hfl j x hx);cases e1;rw[w7];exact hin.whole.cell h4) hblk (by rw[j6];omega) (by rw[j6];exact hcap) (by rw[hms,lN];omega)
 change Calls Tryz.prog 133 _ _ _ at hcon
 rw[j6] at hcon;refine⟨enters_of (args:=#[(⟨some ⟨b,0,none⟩,L.length,c,hh⟩:Dw.Os).v,sv sep]) Tryz.func133 kr rfl,hcon.mono ?_⟩;rintro e w' ⟨rfl,hbel⟩;refine v8.ofBelow ?_ hbel;rw[hms,lN];rfl
end Go.Proofs.YtpjhmeicbjkcdaaGreatDoor
namespace Go.Proofs.YtpjhmeicbjkcdaaGreatDoor
open Go Go.Shelf Go.RowKit Go.Dw
def NQ (z:Int):Prop:=-9223372036854775808<=z/\z<=9223372036854775807
theorem gQ (z:Int) (hz:NQ z) (w:World) (hP:dY (Hp.whole w)):j2 Tryz.prog 58 #[iQ z] w (v8 w (sv (zT z))):=by
 have hcon:=Any.strconv_Itoa Tryz.lIt z hz.1 hz.2 w hP.at;change Calls Tryz.prog 58 _ _ _ at hcon
 refine⟨enters_of (args:=#[iQ z]) Tryz.func58 kr rfl,hcon.mono ?_⟩;rintro e w' ⟨rfl,k,os,rfl⟩;have e1:(⟨(Lib.itoa z).toArray⟩:ByteArray)=bs (zT z):=by
  unfold Lib.itoa zT bs;split
  ·rfl
  ·rw[show z.toNat=z.natAbs by omega]
 rw[e1];refine v8.ofBelow rfl ⟨rfl,rfl,rfl,?_,λj hj=>?_⟩
 ·show w.heap.size<=(w.heap++os).size
  rw[Array.size_append];omega
 ·exact Sort.heap_grow_old (w.drewN k) os hj
theorem EM :∀L:List d8,Lib.join L [44,32]=T5 L
 | []=>rfl
 | [x]=>by show oT [44,32] [x]=x;simp[oT]
 | x::y::r=>by
  have ih:=EM (y::r);unfold Lib.join at ih ⊢;show _=x++44::32::T5 (y::r)
  rw[<-ih];simp[oT,List.intersperse]
set_option maxRecDepth 10000 in
theorem SV {h:Hp} {b:Nat} {dv:Value} {t:d8} {a:Option Addr} {n c:Nat} {L:List Int} (w:World) (hin:h.In w) (hI:mS h b dv t) (hL:Sl (E0 Jc) 1 ((Hp.whole w).minus h) a n c L) (hP:dY ((Hp.whole w).minus h)) (h0:0 < L.length) (hn:L.length < 1000) (hz :∀z∈L,NQ z) (hlen:t.length+(bN L).length < 1000000) :
  j2 Tryz.prog 59 #[pQ b,.slice a n c] w (O3 w h λ_ h' cs=>cs = []/\mS h' b dv (t++bN L)):=by
 have hll:=hL.len;refine enterMZ (cx 24) [pQ b,.slice a n c] hin [] Tryz.func59 ?_;obtain⟨c0,hc0⟩ :∃c0,c0=(Hp.whole w).minus h:=⟨_,rfl⟩
 rw[<-hc0] at hL hP ⊢;refine z6.mk (Nat×Dw.Os) (λg=>[(0,.v (pQ b)),(4,.v g.2.v),(7,.v (.slice a n c)),(8,.v (iQ n)),(9,.v (iQ g.1))]) (λg=>[.hp c0,.hp h,.hp g.2.h])
  (λg=>g.1<=n/\w5 fS 9 1 g.2 ((L.take g.1).map zT)) (λg=>n - g.1) (0,Dw.Os.nil) ⟨j0 _,w5.nil _ _ _⟩ (y6.mk (λ_ _ h=>Ok.emp h) rfl rfl) ?_
 rintro⟨k,o⟩ ⟨hk,ho⟩;dsimp only at hk ho ⊢;refine d9 (λh1=>?_) λh1=>?_
 ·have hkl:k < L.length:=om
  obtain⟨z,hzk⟩ :∃z,z=L[k]:=⟨_,rfl⟩
  have hz1:NQ z:=hz z (by rw[hzk];exact j5 hkl);refine R2 cQ (e:=3) rfl hL k rfl hkl λb9 o9 cs hcs hR hcell=>?_;rw[<-hzk] at hR;subst hR;refine lQ 0 (hcell 0 _ rfl) ?_;refine k7 (sv (zT z)) (λw' hm=>gQ z hz1 w' (hP.mono (hm 0 _ rfl).whole)) ?_;intro b16;refine gZ (f:=fS) cQ (e:=9) rfl (i:=2) rfl ho (j:=3) (zT z) rfl rfl rfl rfl (by rw[j6,j1];omega) λo2 ho2=>?_;refine nwo ?_;refine⟨(k+1,o2),⟨by dsimp only;omega,?_⟩,by dsimp only;omega,y6.mk (pj [0,1,2]) rfl rfl⟩;dsimp only;rw[I9 L k hkl,E1,<-hzk];exact ho2
 ·have hk2:k=L.length:=om
  subst hk2;rw[q8] at ho;have hcj:=EM (L.map zT);have hit:(bN L).length=(T5 (L.map zT)).length+2:=by unfold bN;simp
  refine k7 _ (λw' hm=>AV w' [44,32] (hm 2 _ rfl) ho (by rw[j6];exact h0) (by rw[j6];omega) (by rw[hcj];omega)) ?_;rw[hcj];intro b22;refine aI (i:=1) (j:=3) dc rfl hI (L:=[[40],T5 (L.map zT),[41]]) rfl rfl sQ (by simp;omega) λv h' hI2=>?_;refine⟨h',[],⟨rfl,?_⟩,pk [0,1]⟩;have e:[[40],T5 (L.map zT),[41]].flatten=bN L:=by unfold bN;simp
  rw[<-e];exact hI2
end Go.Proofs.YtpjhmeicbjkcdaaGreatDoor
namespace Go.Proofs.YtpjhmeicbjkcdaaGreatDoor
open Go Go.RowKit Go.Dw
theorem mS.dv {h:Hp} {b:Nat} {dv:Value} {t:d8} (hI:mS h b dv t):h.cell? ⟨b,2,none⟩=some dv:=by
 obtain⟨fl,o,rfl,_⟩:=hI;exact (Hp.le_join_l _ _).cell (I0 b (cs:=[fl,o.v,dv]) _ rfl)
theorem Fe (s:d8):Y0 s [45]=true↔s.getD 0 0=45:=by
 unfold Y0;cases s with
 | nil=>simp
 | cons c r=>simp
theorem fE {α:Type} {g:α->d8} {L:List α} {k:Nat} (hk:k < L.length):(L.take (k+1)).flatMap g=(L.take k).flatMap g++g L[k]:=by
 rw[I9 L k hk,N7];simp
theorem xB {α:Type} {g:α->d8} {L:List α} {k:Nat} (hk:k < L.length):((L.take k).flatMap g).length+(g L[k]).length<=(L.flatMap g).length:=by
 have:=congrArg H4 (fE (g:=g) hk);rw[d6] at this;rw[<-this];have e:L.flatMap g=(L.take (k+1)).flatMap g++(L.drop (k+1)).flatMap g:=by rw[<-N7,F8]
 rw[e,d6];omega
set_option maxRecDepth 10000 in
set_option maxHeartbeats 1000000 in
theorem EE {h:Hp} {b:Nat} {ad:Option Addr} {nd cd:Nat} {D:List O7} {t fc:d8} {a:Option Addr} {n c:Nat} {L:List OF} (w:World) (hin:h.In w) (hI:mS h b (.slice ad nd cd) t) (hL:Sl (E0 bO) 2 ((Hp.whole w).minus h) a n c L) (hD:Sl (E0 P2) 4 ((Hp.whole w).minus h) ad nd cd D)
  (hn:L.length < 1000000) (hdn :∀d∈D,d.1.length < 1000000) (hi :∀x∈L,0<=x.1/\x.1 < D.length) (hlen:t.length+(fD (H3 D) (fc,L)).length < 1000000000) :
  j2 Tryz.prog 60 #[pQ b,.agg #[sv fc,.slice a n c]] w (O3 w h λ_ h' cs=>cs = []/\mS h' b (.slice ad nd cd) (t++fD (H3 D) (fc,L))):=by
 have hll:=hL.len;have hfl:(fD (H3 D) (fc,L)).length=fc.length+(L.flatMap (tA (H3 D))).length+2:=by unfold fD;simp;omega
 refine enterMZ (cx 47) [pQ b,.agg #[sv fc,.slice a n c]] hin [] Tryz.func60 ?_;obtain⟨c0,hc0⟩ :∃c0,c0=(Hp.whole w).minus h:=⟨_,rfl⟩
 rw[<-hc0] at hL hD ⊢;intro b3 b12;refine aI (i:=1) (j:=3) dc rfl hI (L:=[[91],fc]) rfl rfl sQ (by simp;omega) λv h1 hI1=>?_;refine z6.mk (Nat×Hp) (λg=>[(0,.v (pQ b)),(15,.v (.slice a n c)),(16,.v (iQ n)),(17,.v (iQ g.1))]) (λg=>[.hp c0,.hp g.2])
  (λg=>g.1<=n/\mS g.2 b (.slice ad nd cd) (t++((91::fc)++(L.take g.1).flatMap (tA (H3 D))))) (λg=>n - g.1) (0,h1) ⟨j0 _,by simpa using hI1⟩ (y6.mk (pj [0,1]) rfl rfl) ?_
 rintro⟨k,h1⟩ ⟨hk,hI1⟩;dsimp only at hk hI1 ⊢;refine d9 (λg1=>?_) λg1=>?_
 ·have hkl:k < L.length:=om
  obtain⟨⟨ix,x⟩,hx⟩ :∃x,x=L[k]:=⟨_,rfl⟩
  obtain⟨hx0,hx1⟩:=hi (ix,x) (by rw[hx];exact j5 hkl);dsimp only at hx0 hx1;obtain⟨m,rfl⟩:=S8 hx0;have hm:m < D.length:=om
  have hfle:=xB (g:=tA (H3 D)) hkl;obtain⟨d,hd⟩ :∃d,d=D[m]:=⟨_,rfl⟩
  have hdl:d.1.length < 1000000:=hdn d (by rw[hd];exact j5 hm);have hnm:H3 D (m:Int)=P0 d.1:=by
   unfold H3;rw[e8,show (m:Int).toNat=m from rfl,i7 hm,hd];rfl
  obtain⟨y,hy⟩ :∃y,y=(if Y0 x [45]=true then x.drop ([45]:d8).length else x):=⟨_,rfl⟩
  obtain⟨f,hf⟩ :∃f,f=Y0 x [45]:=⟨_,rfl⟩
  have htr:tA (H3 D) L[k]=(if f=true then [[32,45,32],y,[32,42,32],P0 d.1].flatten else [[32,43,32],y,[32,42,32],P0 d.1].flatten):=by
   rw[<-hx];unfold tA;dsimp only;rw[hnm,hy,hf];by_cases hp:Y0 x [45]=true
   ·rw[if_pos hp,if_pos hp,if_pos ((Fe x).1 hp)];simp
   ·rw[if_neg hp,if_neg hp,if_neg (λe=>hp ((Fe x).2 e))];simp
  rw[htr] at hfle;refine R2 cQ (e:=80) rfl hL k rfl hkl λb9 o9 cs hcs hR hcell2=>?_;rw[<-hx] at hR;have hR:cs = [iQ m,sv x]:=hR;subst hR;refine nX cQ (i:=0) rfl hcell2 rfl ?_;intro b5;refine k7 (.tuple #[sv y,.bool f]) (λw' hm=>by rw[hy,hf];exact oL x [45] w') ?_;refine v7 (λg3=>?_) λg3=>?_;focus
   rw[if_pos g3] at htr hfle;refine u6.by_order0 cQ (.take 0 <| .take 1 <| .take 2 <| .take 3 <| .take 4 <| .take 5 <| .take 7 <| .take 8 <| .run 6 <| .take 9 <| .take 10 <| .take 11 <| .run 12 <| .run 13 <| .run 14 <| .done) kr (J5 _ 1) ?_;refine lQ 1 hI1.dv ?_;refine⟨sK,?_⟩;refine R2 cQ (e:=48) rfl hD m rfl hm λb9 o9 cs hcs hR hcell4=>?_;rw[<-hd] at hR;subst hR;refine lQ 0 (hcell4 0 _ rfl) ?_;refine k7 _ (λw' hm=>Y3 d.1 hdl w') ?_;refine⟨sK,?_⟩;intro b41;refine⟨sK,?_⟩;refine aI (i:=1) (j:=3) dc rfl hI1 (L:=[[32,45,32],y,[32,42,32],P0 d.1]) rfl rfl sQ (by rw[d6,d6,d7];omega) λv h2 hI2=>?_
  rotate_left
  focus
   rw[if_neg (by rw[g3];decide)] at htr hfle;refine u6.by_order0 cQ (.take 0 <| .take 1 <| .take 2 <| .take 3 <| .take 4 <| .take 5 <| .take 7 <| .take 8 <| .run 6 <| .take 9 <| .take 10 <| .take 11 <| .run 12 <| .run 13 <| .run 14 <| .done) kr (J5 _ 1) ?_;refine lQ 1 hI1.dv ?_;refine⟨sK,?_⟩;refine R2 cQ (e:=48) rfl hD m rfl hm λb9 o9 cs hcs hR hcell4=>?_;rw[<-hd] at hR;subst hR;refine lQ 0 (hcell4 0 _ rfl) ?_;refine k7 _ (λw' hm=>Y3 d.1 hdl w') ?_;refine⟨sK,?_⟩;intro b41;refine⟨sK,?_⟩;refine aI (i:=1) (j:=3) dc rfl hI1 (L:=[[32,43,32],y,[32,42,32],P0 d.1]) rfl rfl sQ (by rw[d6,d6,d7];omega) λv h2 hI2=>?_
  all_goals
   refine⟨sK,?_⟩;refine nwo ?_;refine⟨(k+1,h2),⟨by dsimp only;omega,?_⟩,by dsimp only;omega,y6.mk (pj [0,1]) rfl rfl⟩;dsimp only;rw[fE hkl,htr,<-f8,<-f8,f8 t];exact hI2
 ·have hk2:k=L.length:=om
  subst hk2;rw[q8] at hI1;intro b45;refine aI (i:=1) (j:=2) dc rfl hI1 (L:=[[93]]) rfl rfl sQ (by have e1:([[93]]:List d8).flatten.length=1:=rfl;rw[e1];simp only[d6,d7];omega) λv h2 hI2=>?_;refine⟨h2,[],⟨rfl,?_⟩,pk [0,1]⟩;have e:t++((91::fc)++L.flatMap (tA (H3 D)))++[[93]].flatten=t++fD (H3 D) (fc,L):=by unfold fD;simp
  rw[<-e];exact hI2
end Go.Proofs.YtpjhmeicbjkcdaaGreatDoor
namespace Go.Proofs.YtpjhmeicbjkcdaaGreatDoor
open Go Go.RowKit Go.Dw
theorem mS.buf {h:Hp} {b:Nat} {dv:Value} {t:d8} (hI:mS h b dv t) :∃a c,h.cell? ⟨b,1,none⟩=some (.slice a t.length c)/\Sl (E0 CE) 1 h a t.length c t:=by
 obtain⟨fl,o,rfl,hdj,_,ho⟩:=hI;have hn:=ho.len;have hs:=(w5.sl (f:=CE) (sz:=1) (λ_=>rfl) dc ho).mono (j7 _) (Hp.le_join_r hdj);rw[hn] at hs;refine⟨o.a,o.c,(Hp.le_join_l _ _).cell (I0 b (cs:=[fl,o.v,dv]) _ ?_),hs⟩;rw[<-hn];rfl
theorem SQ {h:Hp} {b:Nat} {dv:Value} {t:d8} (w:World) (hin:h.In w) (hI:mS h b dv t):j2 Tryz.prog 136 #[pQ b] w (v8 w (iQ t.length)):=by
 obtain⟨a,c,hc,_⟩:=hI.buf;refine enterZ (cx 8) [pQ b] [.tmp 2] Tryz.func136 ?_;refine lQ 0 (hin.whole.cell hc) ?_;exact⟨[],⟨rfl,rfl⟩,pk [0]⟩
end Go.Proofs.YtpjhmeicbjkcdaaGreatDoor
namespace Go.Proofs.YtpjhmeicbjkcdaaGreatDoor
open Go Go.RowKit Go.Dw Go.Shelf
set_option maxHeartbeats 1000000 in
set_option maxRecDepth 100000 in
theorem RL (b g cap:Nat) (cur:Array Value) (l:d8) (w:World) (h0:l≠[]) (hc:w.cell? ⟨b,1,none⟩=some (.slice (some ⟨g,0,none⟩) l.length cap)) (hg:w.heap[g]?=some (.cells cur 5 (0,0))) (hlc:l.length<=cap) (hcm:cap<=maxLen) (hcs:cur.size=cap)
  (hcells :∀j (x:UInt8),l[j]?=some x->w.cell? ⟨g,j,none⟩=some (.int .u8 x.toNat)) :
  Calls Tryz.prog 137 #[pQ b] w λe w'=>e=.returned (sv l)/\w'=w.drew.freeze ⟨g,0,none⟩ l.length:=by
 have hl0:l.length≠0:=by simpa using h0
 have c1:w.drew.cell? ⟨b,1,none⟩=some (.slice (some ⟨g,0,none⟩) l.length cap):=hc;have hSD:(Builtin.unsafeSliceData_ #[68] 239 #[.slice (some ⟨g,0,none⟩) l.length cap]).run Tryz.prog w.drew=.ok (pQ g) w.drew:=
  Lib.run_unsafeSliceData_row _ _ _ _ _ _ om
 have hUS:(Builtin.unsafeString_ #[239,3] 9 #[pQ g,iQ l.length]).run Tryz.prog w.drew=.ok (.string ⟨l.toArray⟩) (w.drew.freeze ⟨g,0,none⟩ l.length):=by
  refine Lib.run_unsafeString_row w.drew 239 3 9 5 Tryz.underlying239 kr g cur.size (by have hg':w.drew.heap[g]?=some (.cells cur 5 (0,0)):=hg;simp[World.shape?,hg']) l h0 om (by unfold maxLen at hcm;omega) ?_;intro j x hx;have:=hcells j x hx;rw[Addr.add_mk,w7];exact this
 have mixed:Tryz.prog.follows Departure.mixedOrders=true:=kr
 go_enter Tryz.func137,Tryz.ntmps137
 go_wp2
 go_region_o
 all_goals (go_wp2;go_ret;exact⟨rfl,rfl⟩)
end Go.Proofs.YtpjhmeicbjkcdaaGreatDoor
namespace Go.Proofs.YtpjhmeicbjkcdaaGreatDoor
open Go Go.RowKit Go.Dw Go.Shelf
theorem KL (w:World) (g n:Nat) {cs:Array Value} {T:Nat} (hg:w.heap[g]?=some (.cells cs T (0,0))):(w.freeze ⟨g,0,none⟩ n).heap[g]?=some (.cells cs T (0,n))/\(∀k,k≠g->(w.freeze ⟨g,0,none⟩ n).heap[k]?=w.heap[k]?)/\(w.freeze ⟨g,0,none⟩ n).heap.size=w.heap.size/\(w.freeze ⟨g,0,none⟩ n).os=w.os/\(w.freeze ⟨g,0,none⟩ n).tape=w.tape/\(w.freeze ⟨g,0,none⟩ n).output=w.output/\(w.freeze ⟨g,0,none⟩ n).drawn=w.drawn:=by
 unfold World.freeze;by_cases h0:n=0
 ·rw[if_pos h0,h0];exact⟨hg,λ_ _=>rfl,rfl,rfl,rfl,rfl,rfl⟩
 ·rw[if_neg h0];refine⟨?_,λk hk=>?_,sQ,rfl,rfl,rfl,rfl⟩
  ·simp[Array.getElem?_modify,hg]
  ·simp[Array.getElem?_modify,hk.symm]
theorem Ok.freeze {w0 w:World} {s:List Ch} (hok:Ok w0 s w) {i:Nat} {h:Hp} (hi:l7 s i=some (.hp h)) {g n:Nat} {cs:Array Value} {T:Nat} (hg:h g=some (.cells cs T (0,0))) :
  Ok w0 (w8 s i (.hp (h.upd g (.cells cs T (0,n))))) (w.freeze ⟨g,0,none⟩ n):=by
 have hgw:w.heap[g]?=some (.cells cs T (0,0)):=hok.mem i _ hi g _ hg;obtain⟨f1,f2,f3,f4,f5,f6,f7⟩:=KL w g n hgw;refine hok.upd hi _ f4 f5 f6 (by rw[f3];exact j8 _) (by first | exact j8 _ | (rw[f7];exact j8 _)) (λk _ hk=>f2 k λe=>?_) ?_ λk hk=>?_
 ·subst e;rw[show (Ch.hp h).h k=h k from rfl,hg] at hk;cases hk
 ·intro k x hk;simp only[Ch.h,Hp.upd] at hk;split at hk
  ·rename_i e;subst e;cases hk;exact f1
  ·rename_i e;rw[f2 k e];exact hok.mem i _ hi k x hk
 ·left
  simp only[Ch.h,Hp.upd] at hk ⊢;split at hk
  ·rename_i e;subst e;rw[hg];simp
  ·exact hk
theorem QJ :∀t:d8,t.flatMap CE=t.map λc:UInt8=>Value.int .u8 c.toNat
 | []=>rfl
 | c::r=>by
  show Value.int .u8 c.toNat::r.flatMap CE=_
  rw[QJ r];rfl
set_option maxRecDepth 10000 in
theorem II {h:Hp} {b:Nat} {dv:Value} {t:d8} (w:World) (hin:h.In w) (hI:mS h b dv t) (h0:t≠[]) :
  j2 Tryz.prog 137 #[pQ b] w (O3 w h λv h' cs=>cs = []/\v=sv t/\∃ys k',h'=(Ch.box b ys 118).h.join k'/\(Ch.box b ys 118).h.dj k'):=by
 refine⟨enters_of (args:=#[pQ b]) Tryz.func137 kr rfl,?_⟩;obtain⟨fl,o,rfl,hdj,_,ho⟩:=hI;have hn:=ho.len;rcases ho.2.2 with ⟨hz,_⟩ | ⟨g,arr,e1,e2,e3,e4,e5,e6⟩
 ·rw[hn] at hz;exact absurd (F7.1 hz) h0
 ·have hok:Ok w [.hp ((Hp.whole w).minus ((Ch.box b [fl,o.v,dv] 118).h.join o.h)),.hp ((Ch.box b [fl,o.v,dv] 118).h.join o.h)] w:=Ok.start2 w hin;have hgj:((Ch.box b [fl,o.v,dv] 118).h.join o.h) g=some (.cells arr 5 (0,0)):=Hp.le_join_r hdj g _ e2;have hcb:w.cell? ⟨b,1,none⟩=some (.slice (some ⟨g,0,none⟩) t.length o.c):=by
   refine hin.cell ((Hp.le_join_l _ _).cell (I0 b (cs:=[fl,o.v,dv]) _ ?_));rw[<-hn,<-e1];rfl
  rw[D7] at e5 e6;have hcells :∀j (x:UInt8),t[j]?=some x->w.cell? ⟨g,j,none⟩=some (.int .u8 x.toNat):=by
   intro j x hx;refine hin.cell ?_;rw[Hp.cell_block hgj];have h1:(t.flatMap CE)[j]?=some (.int .u8 x.toNat):=by
    have e:=QJ t;rw[e,E2,hx];rfl
   have hj:j < o.n:=by
    rw[hn];exact (p6.1 hx).1
   rw[<-e6,Pl hj] at h1;rw[<-Array.getElem?_toList];exact h1
  refine (RL b g o.c arr t w h0 hcb (hin g _ hgj) om e4 e5 hcells).mono ?_;rintro e w' ⟨rfl,rfl⟩;have hbg:(Ch.box b [fl,o.v,dv] 118).h g=none:=(hdj g).resolve_right (by rw[e2];simp);refine⟨_,_,[],rfl,Ok.freeze (n:=t.length) hok.drew (i:=1) rfl hgj,rfl,rfl,[fl,o.v,dv],o.h.upd g (.cells arr 5 (0,t.length)),?_,λk=>?_⟩
  ·funext k
   by_cases hk:k=g
   ·subst hk;unfold Hp.join Hp.upd;rw[if_pos rfl,hbg];simp
   ·unfold Hp.join Hp.upd;rw[if_neg hk,if_neg hk]
  ·by_cases hk:k=g
   ·subst hk;exact .inl hbg
   ·rcases hdj k with h | h
    ·exact .inl h
    ·right;unfold Hp.upd;rw[if_neg hk];exact h
def FA (t:d8):d8×Int:=if 65536 < t.length then ([],5) else (t,0)
theorem wP {h:Hp} {b:Nat} {dv:Value} {t:d8} (w:World) (hin:h.In w) (hI:mS h b dv t) (h0:t≠[]) :
  j2 Tryz.prog 62 #[pQ b] w (O3 w h λv h' cs=>cs = []/\v=.tuple #[sv (FA t).1,iQ (FA t).2]/\∃ys k',h'=(Ch.box b ys 118).h.join k'/\(Ch.box b ys 118).h.dj k'):=by
 refine enterMZ (cx 13) [pQ b] hin [.tmp 2,.tmp 3] Tryz.func62 ?_;refine k7 _ (λw' hm=>SQ w' (hm 1 _ rfl) hI) ?_;unfold FA;refine d9 (λh1=>?_) λh1=>?_
 ·rw[if_pos om];obtain⟨fl,o,rfl,hdj,_⟩:=hI;exact⟨_,[],⟨rfl,rfl,_,_,rfl,hdj⟩,pk [0,1]⟩
 ·rw[if_neg om];refine k6 (i:=1) rfl (λw0 w1 hok=>II w1 (hok.mem 1 _ rfl) hI h0) ?_;rintro _ h2 _ ⟨rfl,rfl,hX⟩;exact⟨h2,[],⟨rfl,rfl,hX⟩,pk [0,1]⟩
end Go.Proofs.YtpjhmeicbjkcdaaGreatDoor
namespace Go.Dw
open Go Go.RowKit
abbrev Eo:=List (ByteArray×Value)
def Iz (e:MapEntry):Value×Value:=(e.key,e.val)
def Iy (p:ByteArray×Value):Value×Value:=(.string p.1,p.2)
def ES (h:Hp) (b:Nat) (KV:Eo):Prop:=∃es clock,h b=some (.map es clock)/\es.toList.map Iz=KV.map Iy/\(∀e∈es.toList,e.born < clock)/\(es.toList.map (·.born)).Nodup
def mJ (t:ByteArray):Eo->Option Value
 | []=>none
 | (k,v)::r=>if k=t then some v else mJ t r
theorem Fl (a b:ByteArray):(a==b)=decide (a=b):=by rw[beq_toListBytes,MG]
theorem XW {t:ByteArray} :∀{es:List MapEntry} {KV:Eo} (i:Nat),es.map Iz=KV.map Iy->
  (mJ t KV=none->Instr.findNow .string (.string t) es i=some none)/\(∀v,mJ t KV=some v->∃j,Instr.findNow .string (.string t) es i=some (some (j,v)))
 | [],KV,i,h=>by
  match KV with
  | []=>exact⟨λ_=>rfl,λv e=>by simp[mJ] at e⟩
  | _::_=>simp at h
 | e::es,KV,i,h=>by
  match KV with
  | []=>simp at h
  | (k,x)::KV=>
   simp only[M2,Sg,Iz,Iy,Prod.mk.injEq] at h;obtain⟨⟨h1,h2⟩,h3⟩:=h;have ih:=XW (t:=t) (i+1) h3;by_cases hk:k=t
   ·subst hk;refine⟨λe=>by simp[mJ] at e,λv e=>⟨i,?_⟩⟩;unfold Instr.findNow;rw[h1];simp[mJ] at e;simp[Instr.sameNow,Fl,h2,e]
   ·have hb:(t==k)=false:=by rw[Fl];exact decide_eq_false λe=>hk e.symm
    have hf:Instr.findNow .string (.string t) (e::es) i=Instr.findNow .string (.string t) es (i+1):=by
     conv=>lhs;unfold Instr.findNow
     rw[h1];simp only[Instr.sameNow,hb]
    rw[hf];have hg:mJ t ((k,x)::KV)=mJ t KV:=by simp[mJ,hk]
    rw[hg];exact ih
theorem qV {P:Program} {w:World} {kt:Nat} (hk:P.underlying kt=some .string) (e:Bool) (t:ByteArray):(Instr.checkKey e 10000 kt (.string t)).run P w=.ok () w:=by
 rw[show (10000:Nat)=9999+1 from rfl];unfold Instr.checkKey;simp[underlying,hk]
theorem Mq {P:Program} {s:List Ch} {T:Nat} {q:TV->List Ch->Prop} (hq :∀b h,ES h b []->q (.v (.map (some b))) (s++[.hp h])):G7 P s (Instr.makeMap T none) q:=by
 refine⟨λw0 w hok=>⟨.v (.map (some w.heap.size)),_,w.alloc (.map #[] 0),_,?_,hok.alloc (.hp (Hp.one w.heap.size (.map #[] 0))) _ rfl,I5.app s _,rfl,hq _ _ ⟨#[],0,Hp.one_self _ _,rfl,λe he=>by simp at he,sQ⟩⟩⟩;simp[Instr.makeMap]
theorem Hl {P:Program} {s:List Ch} {T kt et:Nat} (hT:P.underlying T=some (.map kt et)) (hk:P.underlying kt=some .string) {z:Value} (hz :∀w,(zeroValue et).run P w=.ok z w) {i:Nat} {h:Hp} (hi:l7 s i=some (.hp h)) {b:Nat} {KV:Eo} (ho:ES h b KV) (t:ByteArray) {q:TV->List Ch->Prop}
  (hq:q (.v (.tuple #[(mJ t KV).getD z,.bool (mJ t KV).isSome])) s):G7 P s (Instr.lookup T (.map (some b)) (.string t) true) q:=by
 refine⟨λw0 w hok=>⟨_,_,w,s,?_,hok,I5.refl s,rfl,hq⟩⟩;obtain⟨es,clock,h1,h2,_,_⟩:=ho;have hb:=hok.mem i _ hi b _ h1;have hu:(underlying T).run P w=.ok (.map kt et) w:=by simp[underlying,hT]
 have huk:(underlying kt).run P w=.ok .string w:=by simp[underlying,hk]
 have hf:=XW (t:=t) 0 h2;unfold Instr.lookup;simp only[Sem.run_bind,hu,Result.andThen_ok,rC hb,Sem.run_pure,qV hk,Instr.findKey,huk];cases hg:mJ t KV with
 | none=>rw[hf.1 hg];simp[hz w]
 | some v=>
  obtain⟨j,hj⟩:=hf.2 v hg;rw[hj];simp
theorem IC {P:Program} {s:List Ch} {T kt et:Nat} (hT:P.underlying T=some (.map kt et)) (hk:P.underlying kt=some .string) {i:Nat} {h:Hp} (hi:l7 s i=some (.hp h)) {b:Nat} {KV:Eo} (ho:ES h b KV) (t:ByteArray) (v:Value) (hn:mJ t KV=none) {q:List Ch->Prop}
  (hq :∀h',ES h' b (KV++[(t,v)])->q (w8 s i (.hp h'))):iU P s (Instr.mapUpdate T (.map (some b)) (.string t) v) q:=by
 refine⟨λw0 w hok=>?_⟩;obtain⟨es,clock,g1,g2,g3,g4⟩:=ho;have hb:=hok.mem i _ hi b _ g1;have hu:(underlying T).run P w=.ok (.map kt et) w:=by simp[underlying,hT]
 have huk:(underlying kt).run P w=.ok .string w:=by simp[underlying,hk]
 have hf:=(XW (t:=t) 0 g2).1 hn;have hok2:=hok.putObj hi g1 (.map (es.push { key:=.string t,val:=v,born:=clock }) (clock+1));refine⟨_,_,?_,hok2,I5.set hi (λb cs T e=>by cases e),hq _ ⟨_,_,Hp.upd_self _ _ _,?_,?_,?_⟩⟩
 ·unfold Instr.mapUpdate;simp only[Sem.run_bind,hu,Result.andThen_ok,rC hb,qV hk,Instr.findKey,huk,hf,Sem.run_pure];exact MM _ hb
 ·simp[g2,Iz,Iy]
 ·intro e he;simp only[Array.toList_push,y8,v6] at he;rcases he with he | rfl
  ·have:=g3 e he;omega
  ·exact Iq _
 ·simp only[Array.toList_push,E1,M2,List.map_nil];rw[List.nodup_append];refine⟨g4,sQ,?_⟩;intro a ha b hb;rw[v6.1 hb];obtain⟨e,he,rfl⟩:=y7.1 ha;have:=g3 e he;omega
def Lj (hm h:Hp) (r b:Nat) (left:Eo) (cur:Option (ByteArray×Value)):Prop:=∃es clock since seen,hm b=some (.map es clock)/\h r=some (.mapIter (some b) since seen clock)/\(∀x∈es.toList,x.born < since)/\since<=clock/\(es.toList.map (·.born)).Nodup/\
 (leftOf es seen).toList.map Iz=left.map Iy/\(∀p,cur=some p->∃e∈es.toList,∃seen':Array Nat,seen=seen'.push e.born/\Iz e=Iy p)
theorem SR {es:Array MapEntry} {seen:Array Nat} {e:MapEntry} {l1 l2:List MapEntry} (h:(leftOf es seen).toList=l1++e::l2) (hn:(es.toList.map (·.born)).Nodup):(leftOf es (seen.push e.born)).toList=l1++l2:=by
 have e1:(leftOf es (seen.push e.born)).toList=(leftOf es seen).toList.filter λx=>x.born != e.born:=by
  unfold leftOf;simp only[Array.toList_filter,List.filter_filter];congr 1
  funext x
  simp only[Array.contains_push,Bool.not_or,bne];rw[Bool.and_comm]
 have hs:((leftOf es seen).toList.map (·.born)).Nodup:=by
  unfold leftOf;rw[Array.toList_filter];exact hn.sublist (List.Sublist.map _ List.filter_sublist)
 rw[h,E1,M2,List.nodup_append,List.nodup_cons] at hs;obtain⟨_,⟨h2,_⟩,h3⟩:=hs;rw[e1,h,List.filter_append,List.filter_cons];have f1:l1.filter (λx=>x.born != e.born)=l1:=List.filter_eq_self.2 λx hx=>by
  simp only[bne_iff_ne,ne_eq];exact h3 _ (y7.2 ⟨x,hx,rfl⟩) _ (wF ..)
 have f2:l2.filter (λx=>x.born != e.born)=l2:=List.filter_eq_self.2 λx hx=>by
  simp only[bne_iff_ne,ne_eq];intro e';exact h2 (y7.2 ⟨x,hx,e'⟩)
 rw[f1,f2];simp
theorem Jr {P:Program} {s:List Ch} {T kt et:Nat} (hT:P.underlying T=some (.map kt et)) {i:Nat} {h:Hp} (hi:l7 s i=some (.hp h)) {b:Nat} {KV:Eo} (ho:ES h b KV) {q:TV->List Ch->Prop}
  (hq :∀r k,Lj h k r b KV none->q (.v (pQ r)) (s++[.hp k])):G7 P s (Instr.range T (.map (some b))) q:=by
 obtain⟨es,clock,g1,g2,g3,g4⟩:=ho;refine⟨λw0 w hok=>⟨.v (pQ w.heap.size),_,w.alloc (.mapIter (some b) clock #[] clock),_,?_,hok.alloc (.hp (Hp.one w.heap.size (.mapIter (some b) clock #[] clock))) _ rfl,I5.app s _,rfl,hq _ _ ⟨es,clock,clock,#[],g1,Hp.one_self _ _,g3,j8 _,g4,?_,nofun⟩⟩⟩
 ·have hb:=hok.mem i _ hi b _ g1;have hu:(underlying T).run P w=.ok (.map kt et) w:=by simp[underlying,hT]
  simp[Instr.range,hu,rC hb,newObj];rfl
 ·rw[<-g2];unfold leftOf;rw[Array.filter_eq_self.2 (λx _=>by simp)]
theorem Hh {P:Program} {s:List Ch} {ty:Nat} {i j:Nat} {hm h:Hp} (hi:l7 s i=some (.hp hm)) (hj:l7 s j=some (.hp h)) {r b:Nat} {left:Eo} {cur:Option (ByteArray×Value)} (hI:Lj hm h r b left cur) {q:TV->List Ch->Prop}
  (h0:left = []->q (.v (.tuple #[.bool false])) s)
  (h1 :∀l1 k v l2 h',left=l1++(k,v)::l2->Lj hm h' r b (l1++l2) (some (k,v))->q (.v (.tuple #[.bool true,.string k,v])) (w8 s j (.hp h'))):G7 P s (Instr.next (pQ r) false ty) q:=by
 obtain⟨es,clock,since,seen,g1,g2,g3,g4,g5,g6,_⟩:=hI;refine⟨λw0 w hok=>?_⟩;have hb:=hok.mem i _ hi b _ g1;have hr:=hok.mem j _ hj r _ g2;rcases run_next_at (P:=P) w ty r b since clock seen es clock hr hb g3 g4 with ⟨hz,hrun⟩ | ⟨e,he,w1,hw1,hrun⟩
 ·have:left = []:=by
   have:=congrArg H4 g6;simp only[j6,Array.length_toList,hz] at this;exact F7.1 this.symm
  exact⟨_,_,w,s,hrun,hok,I5.refl s,rfl,h0 this⟩
 ·have hok1:Ok w0 s w1:=by
   rcases hw1 with rfl | rfl
   ·exact hok
   ·exact hok.drew
  obtain⟨l1,l2,hl⟩:=List.append_of_mem he;have hlp:=SR hl g5;rw[hl,E1,M2] at g6;obtain⟨L1,L2,rfl,e1,e2⟩:=List.map_eq_append_iff.1 g6.symm;obtain⟨⟨k,v⟩,L2,rfl,e3,e4⟩:=List.map_eq_cons_iff.1 e2;have hk1:e.key=.string k:=(congrArg Prod.fst e3).symm;have hk2:e.val=v:=(congrArg Prod.snd e3).symm;have hee:e∈es.toList:=by
   have:=he;unfold leftOf at this;rw[Array.toList_filter] at this;exact (List.mem_filter.1 this).1
  have hok2:=hok1.putObj hj g2 (.mapIter (some b) since (seen.push e.born) clock);rw[hk1,hk2] at hrun;refine⟨_,_,_,_,hrun,hok2,I5.set hj (λb cs T e=>by cases e),rfl,h1 L1 k v L2 _ rfl ⟨es,clock,since,seen.push e.born,g1,Hp.upd_self _ _ _,g3,g4,g5,?_,λp hp=>?_⟩⟩
  ·rw[hlp,E1,E1,e1,e4]
  ·cases hp;exact⟨e,hee,seen,rfl,e3.symm⟩
theorem Cz {P:Program} {s:List Ch} {i j:Nat} {hm h:Hp} (hi:l7 s i=some (.hp hm)) (hj:l7 s j=some (.hp h)) {r b:Nat} {left:Eo} {k:ByteArray} {v:Value} (hI:Lj hm h r b left (some (k,v))) {q:TV->List Ch->Prop}
  (hq:q (.v (.tuple #[.string k,v])) s):G7 P s (Instr.entry (pQ r)) q:=by
 obtain⟨es,clock,since,seen,g1,g2,g3,g4,g5,g6,g7⟩:=hI;obtain⟨e,he,seen',rfl,hkv⟩:=g7 _ rfl;refine⟨λw0 w hok=>⟨_,_,w,s,?_,hok,I5.refl s,rfl,hq⟩⟩;have hrun:=run_entry_at (P:=P) w r b since seen' es clock e (hok.mem j _ hj r _ g2) (hok.mem i _ hi b _ g1) he g5;have hk1:e.key=.string k:=congrArg Prod.fst hkv;have hk2:e.val=v:=congrArg Prod.snd hkv;rw[hk1,hk2] at hrun;exact hrun
end Go.Dw
namespace Go.Proofs.YtpjhmeicbjkcdaaGreatDoor
abbrev KT:=Int×d8
def XC (t:mR):KT:=(t.1,t.2.1)
def rM (x:KT):d8:=Jg x.1 x.2
end Go.Proofs.YtpjhmeicbjkcdaaGreatDoor
namespace Go.Proofs.YtpjhmeicbjkcdaaGreatDoor
def CW (t:d8) (k:Nat):Prop:=t.length<=400/\∃a b:d8,a.all k9=true/\0 < a.length/\k=a.length/\(t=a\/(t=a++47::b/\b.all k9=true/\0 < b.length))
theorem kJ {c:UInt8} (h:k9 c=true):c≠34/\J4 c=false/\c≠32/\c≠10/\c≠35/\c≠62:=by
 unfold k9 at h;rw[j4,decide_eq_true_eq,decide_eq_true_eq] at h;have hx :∀k:UInt8,(k.toNat < 48\/57 < k.toNat)->c≠k:=λk hk e=>by rw[e] at h;omega
 refine⟨hx 34 dc,?_,hx 32 dc,hx 10 dc,hx 35 dc,hx 62 dc⟩;unfold J4;rw[decide_eq_false om,eG]
theorem CW.first {t:d8} {k:Nat} (h:CW t k):0 < t.length/\k9 (t.getD 0 0)=true:=by
 obtain⟨_,a,b,ha,h0,_,rfl | ⟨rfl,_⟩⟩:=h
 ·exact⟨h0,yT ha h0⟩
 ·refine⟨by simp;omega,?_⟩;have:=yT ha h0;cases a with
  | nil=>cases h0
  | cons c a=>exact this
end Go.Proofs.YtpjhmeicbjkcdaaGreatDoor
namespace Go.Proofs.YtpjhmeicbjkcdaaGreatDoor
inductive DB:d8->Prop
 | nil:DB []
 | sp {r:d8} (h:DB r):DB (32::r)
 | nl {r:d8} (h:DB r):DB (10::r)
 | note {c r:d8} (hc :∀x∈c,x≠10) (h:DB r):DB (35::(c++10::r))
structure kO (x:KT) (r:d8):Prop where
 b:0 < (rM x).length/\IF ((rM x).getD 0 0)
 t:A9 (rM x++r)=((rM x).length,x.1,x.2,0)
 n :∀c∈rM x,c≠32
def UU (r r':d8):Prop:=r'.getD 0 0=r.getD 0 0\/(r.getD 0 0=32/\r'.getD 0 0=10)\/r'.getD 0 0=0
theorem UU.trans {a b c:d8} (h:UU a b) (k:UU b c):UU a c:=by
 rcases h with h | ⟨h1,h2⟩ | h <;> rcases k with k | ⟨k1,k2⟩ | k
 ·exact .inl (k.trans h)
 ·exact .inr (.inl ⟨h ▸ k1,k2⟩)
 ·exact .inr (.inr k)
 ·exact .inr (.inl ⟨h1,k.trans h2⟩)
 ·rw[h2] at k1;exact absurd k1 dc
 ·exact .inr (.inr k)
 ·exact .inr (.inr (k.trans h))
 ·rw[h] at k1;exact absurd k1 dc
 ·exact .inr (.inr k)
def cB (x:KT) (r:d8):Prop:=∀r',UU r r'->kO x r'
theorem cB.y {x:KT} {r:d8} (h:cB x r):kO x r:=h r (.inl rfl)
theorem cB.rel {x:KT} {r r':d8} (h:cB x r) (k:UU r r'):cB x r':=λr'' h'=>h r'' (k.trans h')
theorem V6 {s a r:d8} {k:Nat} (h:s.drop k=a++r):s.drop (k+a.length)=r:=by
 rw[<-J7,h,X7 rfl]
theorem gO {s:d8} {k:Nat} {c:UInt8} {r:d8} (h:s.drop k=c::r):k < s.length/\s.getD k 0=c:=by
 have hk:k < s.length:=by
  refine Nat.lt_of_not_le λg=>?_;rw[J2 g] at h;cases h
 refine⟨hk,?_⟩;have:=lJ hk;rw[this] at h;exact (E8 h).1
theorem Ap {b:d8} (hb:DB b) :∀{s:d8} {k:Nat} {r:d8},s.drop k=b++r->∀(p:Nat×Nat) (out:List mR),∃p',xM s k p out=xM s (k+b.length) p' out:=by
 induction hb with
 | nil=>intro s k r h p out;exact⟨p,rfl⟩
 | @sp b hb ih=>
  intro s k r h p out;obtain⟨hk,hc⟩:=gO h;obtain⟨p',e⟩:=ih (s:=s) (k:=k+1) (r:=r) (V6 (a:=[32]) h) (aJ p (s.getD k 0)) out;refine⟨p',?_⟩;rw[pD hk (.inl hc),e,d7];congr 1;omega
 | @nl b hb ih=>
  intro s k r h p out;obtain⟨hk,hc⟩:=gO h;obtain⟨p',e⟩:=ih (s:=s) (k:=k+1) (r:=r) (V6 (a:=[10]) h) (aJ p (s.getD k 0)) out;refine⟨p',?_⟩;rw[pD hk (.inr hc),e,d7];congr 1;omega
 | @note c b hc hb ih=>
  intro s k r h p out;obtain⟨hk,h35⟩:=gO h;have e1:s.drop k=(35::c)++(10::(b++r)):=by rw[h];simp
  have hrun:s9 (λc=>!decide (c=10)) (s.drop k)=(35::c).length:=by
   rw[e1];refine pE (s7.2 λx hx=>?_) dc;rcases p9.1 hx with rfl | hx
   ·decide
   ·simp[hc x hx]
  have h2:=V6 e1;obtain⟨hk2,hc2⟩:=gO h2;obtain⟨p',e⟩:=ih (s:=s) (k:=k+(35::c).length+1) (r:=r) (V6 (a:=[10]) h2) (aJ (I6 p ((s.drop k).take (35::c).length)) (s.getD (k+(35::c).length) 0)) out;refine⟨p',?_⟩;rw[Pu hk h35,hrun,pD hk2 (.inr hc2),e];congr 1
  simp only[d7,d6];omega
theorem Ao {x:KT} {s r:d8} {k:Nat} (hx:kO x r) (h:s.drop k=rM x++r) (p:Nat×Nat) (out:List mR) :∃p',xM s k p out=xM s (k+(rM x).length) p' (out++[(x.1,x.2,p.1,p.2)]):=by
 obtain⟨hl,hb⟩:=hx.b;have hk:k < s.length:=by
  refine Nat.lt_of_not_le λg=>?_;rw[J2 g] at h;have:=congrArg H4 h;rw[d6] at this;simp at this;omega
 have hg:s.getD k 0=(rM x).getD 0 0:=by
  have:=cM s k 0;rw[E7] at this;rw[<-this,h,gS hl]
 refine⟨I6 p ((s.drop k).take (rM x).length),?_⟩;rw[FO hk (by rw[hg];exact hb),h,hx.t];rw[if_neg (λg=>g rfl)]
abbrev R0:=KT ⊕ d8
def iB:R0->d8
 | .inl x=>rM x
 | .inr b=>b
def iT:R0->List KT
 | .inl x=>[x]
 | .inr _=>[]
def U6 (I:List R0):d8:=I.flatMap iB
def N6 (I:List R0):List KT:=I.flatMap iT
def qS (B:d8->Prop):List R0->d8->Prop
 | [],_=>True
 | .inl x::I,r=>cB x (U6 I++r)/\qS B I r
 | .inr b::I,r=>B b/\qS B I r
def Fo (b:d8):Prop:=b = [32]\/b = [10]
abbrev Z1:List R0->d8->Prop:=qS Fo
theorem Fo.blk {b:d8} (h:Fo b):DB b:=by
 rcases h with rfl | rfl
 ·exact .sp .nil
 ·exact .nl .nil
theorem M7 (A B:List R0):U6 (A++B)=U6 A++U6 B:=N7
theorem G1 (A B:List R0):N6 (A++B)=N6 A++N6 B:=N7
theorem qS.mono {B B':d8->Prop} (hB :∀b,B b->B' b) :∀{I:List R0} {r:d8},qS B I r->qS B' I r
 | [],_,_=>trivial
 | .inl _::I,_,h=>⟨h.1,qS.mono hB (I:=I) h.2⟩
 | .inr _::I,_,h=>⟨hB _ h.1,qS.mono hB (I:=I) h.2⟩
theorem Z1.app :∀{A B:List R0} {r:d8},Z1 A (U6 B++r)->Z1 B r->Z1 (A++B) r
 | [],_,_,_,h=>h
 | .inl x::A,B,r,h1,h2=>⟨by show cB x (U6 (A++B)++r);rw[M7,f8];exact h1.1,Z1.app h1.2 h2⟩
 | .inr _::A,_,_,h1,h2=>⟨h1.1,Z1.app (A:=A) h1.2 h2⟩
theorem Z1.left :∀{A B:List R0} {r:d8},Z1 (A++B) r->Z1 A (U6 B++r)
 | [],_,_,_=>trivial
 | .inl x::A,B,r,h=>by
  obtain⟨h1,h2⟩:=(show cB x (U6 (A++B)++r)/\Z1 (A++B) r from h)
  rw[M7,f8] at h1;exact⟨h1,Z1.left h2⟩
 | .inr b::A,B,r,h=>⟨h.1,Z1.left (A:=A) h.2⟩
theorem FQ :∀(I:List R0) {s r:d8} {k:Nat},qS DB I r->s.drop k=U6 I++r->∀(p:Nat×Nat) (out:List mR),∃p' T,T.map XC=N6 I/\xM s k p out=xM s (k+(U6 I).length) p' (out++T)
 | [],s,r,k,_,_,p,out=>⟨p,[],rfl,by rw[k8];rfl⟩
 | .inl x::I,s,r,k,h,hs,p,out=>by
  have hs:s.drop k=rM x++(U6 I++r):=by rw[hs,<-f8];rfl
  obtain⟨p1,e1⟩:=Ao h.1.y hs p out;obtain⟨p2,T,hT,e2⟩:=FQ I (r:=r) h.2 (V6 hs) p1 (out++[(x.1,x.2,p.1,p.2)]);refine⟨p2,(x.1,x.2,p.1,p.2)::T,?_,?_⟩
  ·show XC _::T.map XC=x::N6 I
   rw[hT];rfl
  ·rw[e1,e2,f8];congr 1
   show _=k+(rM x++U6 I).length
   rw[d6,BZ]
 | .inr b::I,s,r,k,h,hs,p,out=>by
  have hs:s.drop k=b++(U6 I++r):=by rw[hs,<-f8];rfl
  obtain⟨p1,e1⟩:=Ap h.1 hs p out;obtain⟨p2,T,hT,e2⟩:=FQ I (r:=r) h.2 (V6 hs) p1 out;refine⟨p2,T,hT,?_⟩;rw[e1,e2];congr 1
  show _=k+(b++U6 I).length
  rw[d6,BZ]
theorem Sy {I:List R0} {e:d8} (he:e = []\/∃c,e=35::c/\∀x∈c,x≠10) (h:qS DB I e) (hl:(U6 I++e).length<=65536) :∃T:List mR,T.map XC=N6 I++[(5,[])]/\dG (U6 I++e)=(T,0,0,0):=by
 obtain⟨p',T,hT,e1⟩:=FQ I (s:=U6 I++e) (k:=0) h rfl (1,1) [];rw[IN hl,e1,w7];rcases he with rfl | ⟨c,rfl,hc⟩
 ·rw[PA (by rw[k8];exact j8 _)];exact⟨T++[(5,[],p'.1,p'.2)],by rw[E1,hT];rfl,rfl⟩
 ·have hd:(U6 I++35::c).drop (U6 I).length=35::c:=X7 rfl;obtain⟨hk,h35⟩:=gO hd;have hrun:s9 (λc=>!decide (c=10)) (35::c)=(35::c).length:=yF (s7.2 λx hx=>by
   rcases p9.1 hx with rfl | hx
   ·decide
   ·simp[hc x hx])
  rw[Pu hk h35,hd,hrun,PA (by rw[d6];exact j8 _)];exact⟨T++[(5,[],_,_)],by rw[E1,hT];rfl,rfl⟩
theorem oZ (t:d8):A9 t=if t.getD 0 0=34 then ((J3 (t.drop 1) 1 []).1,3,(J3 (t.drop 1) 1 []).2.1,(J3 (t.drop 1) 1 []).2.2)
  else if J4 (t.getD 0 0) then (if 40 < s9 G5 t then (0,1,[],5) else (s9 G5 t,1,t.take (s9 G5 t),0))
  else if k9 (t.getD 0 0) then (if 400 < (N0 t).1 then (0,2,[],5) else if V8 (t.take (N0 t).1) (N0 t).2 then ((N0 t).1,2,t.take (N0 t).1,0) else (0,2,[],3))
  else if W3 t=0 then (0,4,[],14) else (W3 t,4,t.take (W3 t),0):=rfl
theorem FS {f:UInt8->Bool} (a r:d8) (ha:a.all f=true) (hr:f (r.getD 0 0)=false):s9 f (a++r)=a.length:=by
 cases r with
 | nil=>rw[k8,yF ha]
 | cons c r=>exact pE ha hr
theorem wX {k:Int} {x:d8} (h:k≠3):rM (k,x)=x:=if_neg h
theorem kO.word {x r:d8} (h0:0 < x.length) (h1:J4 (x.getD 0 0)=true) (h2:x.all G5=true) (h3:x.length<=40) (hr:G5 (r.getD 0 0)=false):kO (1,x) r:=by
 have low :∀c:UInt8,J4 c=true->c≠34/\IF c:=by
  intro c hc;unfold J4 at hc;rw[j4,decide_eq_true_eq,decide_eq_true_eq] at hc;have hx :∀k:UInt8,(k.toNat < 97\/122 < k.toNat)->c≠k:=λk hk e=>by rw[e] at hc;omega
  exact⟨hx 34 dc,hx 32 dc,hx 10 dc,hx 35 dc⟩
 have e:rM (1,x)=x:=wX dc;refine⟨by rw[e];exact⟨h0,(low _ h1).2⟩,?_,λc hc=>?_⟩;rotate_left
 ·rw[e] at hc;have:=s7.1 h2 c hc;intro h;rw[h] at this;exact absurd this dc
 rw[e,oZ,gS h0,if_neg (low _ h1).1,if_pos h1,FS x r h2 hr,if_neg om,X6 rfl]
theorem kO.str {x:d8} (r:d8) (h:xN x) (hn :∀c∈x,c≠32) (hl:x.length<=4096):kO (3,x) r:=by
 have e:rM (3,x)=Q8 x:=show (if (3:Int)=3 then Q8 x else x)=Q8 x from if_pos rfl
 refine⟨by rw[e];exact⟨E3 _,(show IF 34 from ⟨dc,dc,dc⟩)⟩,?_,λc hc=>?_⟩;rotate_left
 ·rw[e] at hc;unfold Q8 at hc;rcases p9.1 hc with rfl | hc
  ·decide
  ·rcases y8.1 hc with hc | hc
   ·obtain⟨d,hd,hc⟩:=Is.1 hc;unfold bB at hc;split at hc
    ·rcases p9.1 hc with rfl | hc
     ·decide
     ·rw[v6.1 hc];exact hn d hd
    ·rw[v6.1 hc];exact hn d hd
   ·rw[v6.1 hc];decide
 rw[e,ZX h hl]
theorem kO.num {t r:d8} {k:Nat} (h:CW t k) (hc:V8 t k=true) (hr:k9 (r.getD 0 0)=false) (hr2:r.getD 0 0≠47):kO (2,t) r:=by
 have e:rM (2,t)=t:=wX dc;obtain⟨h0,hd⟩:=h.first
 obtain⟨f1,f2,f3,f4,f5,_⟩:=kJ hd;refine⟨by rw[e];exact⟨h0,f3,f4,f5⟩,?_,λc hc=>?_⟩;rotate_left
 ·rw[e] at hc;obtain⟨_,a,b,ha,_,_,rfl | ⟨rfl,hb,_⟩⟩:=h
  ·exact (kJ (s7.1 ha c hc)).2.2.1
  ·rcases y8.1 hc with hc | hc
   ·exact (kJ (s7.1 ha c hc)).2.2.1
   ·rcases p9.1 hc with rfl | hc
    ·decide
    ·exact (kJ (s7.1 hb c hc)).2.2.1
 have hn:N0 (t++r)=(t.length,k):=by
  obtain⟨_,a,b,ha,ha0,rfl,rfl | ⟨rfl,hb,h1⟩⟩:=h
  ·have e1:=FS (f:=k9) t r ha hr;have e4:(t++r).getD t.length 0=r.getD 0 0:=by
    rw[e8,L8 (j8 _),bX,<-e8]
   rw[GD,e1,e4,if_neg (λg=>hr2 g.1)]
  ·have e1:s9 k9 ((a++47::b)++r)=a.length:=by rw[f8];exact pE ha dc
   have e2:((a++47::b)++r).drop (a.length+1)=b++r:=by rw[f8,<-J7,X7 rfl];rfl
   have e3:=FS (f:=k9) b r hb hr;have e4:((a++47::b)++r).getD a.length 0=47:=by rw[f8,e8,L8 (j8 _),bX];rfl
   rw[GD,e1,e2,e3,if_pos ⟨e4,by rw[d6,d6,d7];omega,h1⟩];rw[d6,d7];congr 1
   omega
 rw[e,oZ,gS h0,if_neg f1,f2,if_neg dc,if_pos hd,hn,if_neg (show ¬ 400 < t.length from Nat.not_lt.2 h.1),X6 rfl,if_pos hc]
theorem kO.sym {c:UInt8} {r:d8} (hc:c∈CK) (h2:[c,r.getD 0 0]∉Z4):kO (4,[c]) r:=by
 have e:rM (4,[c]) = [c]:=wX dc;have hcs:(c≠34/\IF c)/\J4 c=false/\k9 c=false:=by
  have :∀d∈CK,(d≠34/\(d≠32/\d≠10/\d≠35))/\J4 d=false/\k9 d=false:=dc
  exact this c hc
 obtain⟨⟨f1,fb⟩,f2,f3⟩:=hcs;refine⟨by rw[e];exact⟨Nat.zero_lt_one,fb⟩,?_,λd hd=>by rw[e] at hd;rw[v6.1 hd];exact fb.1⟩;have hs:W3 ([c]++r)=1:=by
  rw[FF,if_neg,if_pos ⟨sQ,by simpa using hc⟩];intro g;obtain⟨x,hx,hd⟩:=E5.1 g;have hd:=of_decide_eq_true hd;cases r with
  | nil=>
   have :∀x∈Z4,x.length=2:=dc
   have:=this x hx;rw[<-hd] at this;simp at this
  | cons d r=>
   have:x = [c,d]:=by rw[<-hd];rfl
   rw[this] at hx;exact h2 hx
 rw[e,oZ];show (if c=34 then _ else if J4 c then _ else if k9 c then _ else _)=_
 rw[if_neg f1,f2,if_neg dc,f3,if_neg dc,hs,if_neg dc];rfl
theorem kO.sym2 {x:d8} (r:d8) (hx:x∈Z4):kO (4,x) r:=by
 have e:rM (4,x)=x:=wX dc;have hn :∀y∈Z4,∀c∈y,c≠32:=dc
 have hcs :∀y∈Z4,y.length=2/\(y.getD 0 0≠34/\(y.getD 0 0≠32/\y.getD 0 0≠10/\y.getD 0 0≠35))/\J4 (y.getD 0 0)=false/\k9 (y.getD 0 0)=false:=dc
 obtain⟨hl,⟨f1,fb⟩,f2,f3⟩:=hcs x hx;refine⟨by rw[e];exact⟨om,fb⟩,?_,by rw[e];exact hn x hx⟩;have hs:W3 (x++r)=2:=by
  rw[FF,if_pos];refine E5.2 ⟨x,hx,decide_eq_true ?_⟩;rw[<-hl,X6 rfl]
 rw[e,oZ,gS om,if_neg f1,f2,if_neg dc,f3,if_neg dc,hs,if_neg dc,<-hl,X6 rfl]
theorem UU.class {f:UInt8->Bool} (h10:f 10=false) (h0:f 0=false) {r r':d8} (h:UU r r') (hr:f (r.getD 0 0)=false):f (r'.getD 0 0)=false:=by
 rcases h with h | ⟨_,h⟩ | h
 ·rw[h];exact hr
 ·rw[h];exact h10
 ·rw[h];exact h0
theorem cB.word {x r:d8} (h0:0 < x.length) (h1:J4 (x.getD 0 0)=true) (h2:x.all G5=true) (h3:x.length<=40) (hr:G5 (r.getD 0 0)=false):cB (1,x) r:=λ_ h=>.word h0 h1 h2 h3 (h.class dc dc hr)
theorem cB.str {x:d8} (r:d8) (h:xN x) (hn :∀c∈x,c≠32) (hl:x.length<=4096):cB (3,x) r:=λ_ _=>.str _ h hn hl
theorem cB.num {t r:d8} {k:Nat} (h:CW t k) (hc:V8 t k=true) (hr:k9 (r.getD 0 0)=false) (hr2:r.getD 0 0≠47):cB (2,t) r:=λ_ k=>.num h hc (k.class dc dc hr) (by
 rcases k with k | ⟨_,k⟩ | k
 ·rw[k];exact hr2
 ·rw[k];decide
 ·rw[k];decide)
theorem cB.sym {c:UInt8} {r:d8} (hc:c∈CK) (h2:[c,r.getD 0 0]∉Z4):cB (4,[c]) r:=λ_ k=>.sym hc (by
 have h10 :∀y∈Z4,y.getD 1 0≠10/\y.getD 1 0≠0:=dc
 rcases k with k | ⟨_,k⟩ | k
 ·rw[k];exact h2
 ·rw[k];exact λg=>(h10 _ g).1 rfl
 ·rw[k];exact λg=>(h10 _ g).2 rfl)
theorem cB.sym2 {x:d8} (r:d8) (hx:x∈Z4):cB (4,x) r:=λ_ _=>.sym2 _ hx
end Go.Proofs.YtpjhmeicbjkcdaaGreatDoor
namespace Go.Proofs.YtpjhmeicbjkcdaaGreatDoor
open Go
theorem pB (x:d8):x=(if bH x=true then [45] else [])++M4 x:=by
 unfold M4;cases h:bH x with
 | false=>rfl
 | true=>
  rw[if_pos rfl,if_pos rfl];unfold bH at h;rw[j4,decide_eq_true_eq,decide_eq_true_eq] at h;cases x with
  | nil=>exact absurd h.2 (pX _)
  | cons c r=>
   have:c=45:=h.1;subst this;rfl
theorem BP (A B:d8):V8 (A++47::B) A.length=(aM A && (aM B && (decide (1 < P6 B) && decide (G8 (P6 A) (P6 B)=1)))):=by
 unfold V8;have h1 : ¬ (A++47::B).length=A.length:=by rw[d6,d7];omega
 have h2:(A++47::B).drop (A.length+1)=B:=by rw[<-J7,X7 rfl];rfl
 rw[if_neg h1,X6 rfl,h2]
theorem FZ {l:d8} (h:R4 l=0):aM (M4 l)=true:=by
 obtain⟨_,h0,h1⟩:=DO h;unfold aM;rw[decide_eq_true h0,D9];by_cases h48:(M4 l).getD 0 0=48
 ·rw[decide_eq_true (h1 h48).1];rfl
 ·rw[decide_eq_false h48];simp
theorem VC {f:UInt8->Bool} :∀{l:d8},s9 f l < l.length->f (l.getD (s9 f l) 0)=false
 | [],h=>absurd h (M1 _)
 | c::l,h=>by
  unfold s9 at h ⊢;rw[B6] at h ⊢;cases hc:f c with
  | false=>simpa using hc
  | true=>
   rw[hc,if_pos rfl] at h;rw[if_pos rfl,d7];exact VC (f:=f) (l:=l) (by unfold s9;simpa using h)
structure HK (x:d8) (sg:Bool) (t:d8):Prop where
 e:x=(if sg=true then [45] else [])++t
 d :∃k,CW t k/\V8 t k=true
 z:sg=true->t≠[48]
theorem pH {x:d8} (h:H5 x=0) :∃sg t,HK x sg t:=by
 unfold H5 X9 at h;split at h
 ·cases h
 ·rename_i hl
  split at h
  ·cases h
  ·rename_i hd
   split at h
   ·cases h
   ·rename_i hz
    split at h
    ·cases h
    ·rename_i hp
     have hp:R4 (J6 x).1=0:=B9.1 hp;obtain⟨pd,pl,pz⟩:=DO hp;have hl:x.length<=400:=om
     by_cases hc:s9 (λc=>!decide (c=47)) x < x.length
     ·have e1:J6 x=(x.take (s9 (λc=>!decide (c=47)) x),x.drop (s9 (λc=>!decide (c=47)) x+1),true):=by unfold J6;rw[if_pos hc]
      obtain⟨j,hj⟩ :∃j,j=s9 (λc=>!decide (c=47)) x:=⟨_,rfl⟩
      rw[<-hj] at e1 hc;rw[e1] at hd hz hp pd pl pz h;dsimp only at hd hz hp pd pl pz h;rw[if_neg dc] at h;have h47:x[j]?=some 47:=by
       have:=VC (f:=λc=>!decide (c=47)) (l:=x) (by rw[<-hj];exact hc);rw[<-hj,e8,i7 hc] at this;rw[i7 hc];have h2:x[j]=47:=by simpa using this
       rw[h2]
      have hx:x=x.take j++47::x.drop (j+1):=by
       conv=>lhs;rw[<-F8 j x]
       rw[q6 hc];rw[i7 hc] at h47;rw[M0 h47]
      obtain⟨a,ha⟩ :∃a,a=x.take j:=⟨_,rfl⟩
      obtain⟨b,hb⟩ :∃b,b=x.drop (j+1):=⟨_,rfl⟩
      rw[<-hb] at hz;rw[<-ha,<-hb] at hd h hx;rw[<-ha] at hp pd pl pz;split at h
      ·cases h
      ·rename_i hg
       have hpb:R4 b=0:=j3 λc=>hg (.inl c);have hg2:G8 (P6 (M4 a)) (P6 b)=1:=j3 λc=>hg (.inr (.inr c));have hg1:P6 b≠1:=λc=>hg (.inr (.inl c));rw[Q3,not_or,D9] at hd;have hdb:bR b=true:=by have:=hd.2;simpa using this
       unfold bR at hdb;rw[j4,decide_eq_true_eq] at hdb;have hb0:0 < b.length:=D1.2 hdb.1;have hz0:P6 b≠0:=λc=>hz (by rw[D9];exact (BG hdb.2).1 c);have hsb:M4 b=b:=(iJ hdb.2).2;have hcb:=FZ hpb;rw[hsb] at hcb;have hla:(M4 a++47::b).length<=400:=by
        have:=congrArg H4 hx;have h2:=congrArg H4 (pB a);rw[d6] at this h2;rw[d6];rw[d7] at this ⊢;split at h2 <;> simp at h2 <;> omega
       refine⟨bH a,M4 a++47::b,⟨?_,⟨(M4 a).length,⟨hla,M4 a,b,pd,pl,rfl,.inr ⟨rfl,hdb.2,hb0⟩⟩,?_⟩,?_⟩⟩
       ·rw[<-f8,<-pB a];exact hx
       ·rw[BP,FZ hp,hcb,decide_eq_true (show 1 < P6 b by omega),decide_eq_true hg2];rfl
       ·intro _ c;have:=congrArg H4 c;rw[d6,d7] at this;have e:([48]:d8).length=1:=rfl;omega
     ·have e1:J6 x=(x,[],false):=by unfold J6;rw[if_neg hc]
      rw[e1] at hp pd pl pz;dsimp only at hp pd pl pz;have hla:(M4 x).length<=400:=by
       have h2:=congrArg H4 (pB x);rw[d6] at h2;omega
      refine⟨bH x,M4 x,⟨pB x,⟨(M4 x).length,⟨hla,M4 x,[],pd,pl,rfl,.inl rfl⟩,?_⟩,?_⟩⟩
      ·unfold V8;rw[if_pos rfl];exact FZ hp
      ·intro hs c;have:=(pz (by rw[c];rfl)).2;rw[hs] at this;cases this
end Go.Proofs.YtpjhmeicbjkcdaaGreatDoor
namespace Go.Proofs.YtpjhmeicbjkcdaaGreatDoor
open Go
abbrev kW (w:d8):R0:=.inl (1,w)
abbrev kS (c:UInt8):R0:=.inl (4,[c])
abbrev kN (x:d8):R0:=.inl (2,x)
abbrev Q1:R0:=.inr [32]
abbrev jJ:R0:=.inr [10]
def rJ (s:d8):KT:=if yY s=true then (1,s) else (3,s)
abbrev GG (s:d8):R0:=.inl (rJ s)
def zI (z:Int):List R0:=if z < 0 then [kS 45,kN (Lib.decDigits z.natAbs)] else [kN (Lib.decDigits z.natAbs)]
def nI (x:d8):List R0:=if x.getD 0 0=45 then [kS 45,kN (x.drop 1)] else [kN x]
def gW:List (List R0)->List R0
 | []=>[]
 | [x]=>x
 | x::y::r=>x++kS 44::Q1::gW (y::r)
def uD (l:List Int):List R0:=kS 40::(gW (l.map zI)++[kS 41])
def zM (nm:Int->KT) (t:OF):List R0:=[Q1,kS (if t.2.getD 0 0=45 then 45 else 43),Q1,kN (if t.2.getD 0 0=45 then t.2.drop 1 else t.2),Q1,kS 42,Q1,.inl (nm t.1)]
def uG (nm:Int->KT) (f:uZ):List R0:=kS 91::(nI f.1++(f.2.flatMap (zM nm)++[kS 93]))
def kG (nm:Int->KT):Nat->Ex->List R0
 | 0,_=>[]
 | d+1,.mk op f fac args=>if op=0 then uG nm f else kW (jQ op)::((if op=2 then Q1::(nI fac++[Q1]) else [])++(kS 40::(gW (args.map (kG nm d))++[kS 41])))
def qH (dims:List O7) (i:Int):KT:=rJ (dims.getD i.toNat ([],0,0,0)).1
def HZ (v:V3):List R0:=Q1::uD [v.1,v.2.1,v.2.2]
def CR (c:List V3):List R0:=Q1::Q1::kW eH::(c.flatMap HZ++[kS 59,jJ])
def tN (p:V9):List R0:=kW S9::Q1::GG p.1::Q1::kW zF::Q1::(zI p.2.1++(Q1::kS 123::jJ::(p.2.2.flatMap CR++[kS 125,jJ])))
def rO (x:lW):List R0:=kW dE::Q1::GG x.1::Q1::kW Fw::Q1::GG x.2.1::Q1::kW zE::Q1::(uD [x.2.2.1.1,x.2.2.1.2.1,x.2.2.1.2.2.1,x.2.2.1.2.2.2] ++
 (Q1::kW wO::Q1::kS 40::(nI x.2.2.2.1++(kS 44::Q1::(nI x.2.2.2.2.1++(kS 44::Q1::(nI x.2.2.2.2.2++[kS 41,kS 59,jJ])))))))
def qI (d:O7):List R0:=kW Z8::Q1::GG d.1::Q1::kS 61::Q1::(zI d.2.1++(Q1::kS 91::(zI d.2.2.1++(kS 44::Q1::(zI d.2.2.2++[kS 93,kS 59,jJ])))))
def oM (dims:List O7) (c:kT):List R0:=kW Y8::Q1::GG c.1::kS 58::Q1::(uG (qH dims) c.2++[Q1,.inl (4,[60,61]),Q1,kN [48],kS 59,jJ])
def mH (w x:d8):List R0:=if x = [] then [] else Q1::kW w::Q1::nI x
def mF (dims:List O7) (r:kP):List R0:=kW W7::Q1::GG r.1::kS 58::Q1::(kG (qH dims) 8 r.2.1++(mH iG r.2.2.1++(mH HW r.2.2.2++[kS 59,jJ])))
def Cs (nm:d8):List R0:=[kW fY,Q1,GG nm,kS 59,jJ]
def SC (p:kR):List R0:=Cs p.nm++(p.parts.flatMap tN++(p.insts.flatMap rO++(p.dims.flatMap qI++(p.cons.flatMap (oM p.dims)++p.reqs.flatMap (mF p.dims)))))
theorem W0:U6 [] = []:=rfl
theorem B0 (x:R0) (I:List R0):U6 (x::I)=iB x++U6 I:=rfl
theorem xY (w:d8):iB (kW w)=w:=wX dc
theorem rU (c:UInt8):iB (kS c) = [c]:=wX dc
theorem Kk (x:d8):iB (.inl (4,x))=x:=wX dc
theorem NP (x:d8):iB (kN x)=x:=wX dc
theorem GT (x:d8):iB (.inr x)=x:=rfl
theorem XH {α:Type} (g:α->List R0) (l:List α):U6 (l.flatMap g)=l.flatMap λx=>U6 (g x):=by
 unfold U6;rw[List.flatMap_assoc]
theorem GP :∀L:List (List R0),U6 (gW L)=T5 (L.map U6)
 | []=>rfl
 | [x]=>rfl
 | x::y::r=>by
  show U6 (x++kS 44::Q1::gW (y::r))=U6 x++44::32::T5 ((y::r).map U6)
  rw[M7,B0,B0,GP (y::r),rU,GT];rfl
theorem Bv (s:d8):(rJ s).1≠5:=by
 unfold rJ;split
 ·exact (by decide:(1:Int)≠5)
 ·exact (by decide:(3:Int)≠5)
theorem V1 {s:d8} (h:D8 s=true):xN s/\s.length<=40/\0 < s.length:=by
 unfold D8 at h;rw[j4,j4,decide_eq_true_eq,decide_eq_true_eq] at h;obtain⟨h0,h1,h2⟩:=h;refine⟨λc hc hb=>?_,h1,D1.2 h0⟩;have h3:s.any yC=false:=by simpa using h2
 have:=K8.1 h3 c hc;unfold yC at this;rw[Q3,decide_eq_true_eq,decide_eq_true_eq] at this;unfold OD at hb;omega
theorem xA {s:d8} (h:D8 s=true):iB (GG s)=P0 s:=by
 obtain⟨hr,hl,_⟩:=V1 h;show rM (rJ s)=_
 unfold P0 rJ;by_cases hw:yY s=true
 ·rw[if_pos hw,if_pos hw];exact xY s
 ·rw[if_neg hw,if_neg hw];have e:(MU s).1=Q8 s:=by
   unfold MU;rw[if_neg om,if_neg];intro g;obtain⟨c,hc,hu⟩:=E5.1 g;refine hr c hc ?_;unfold CH zK at hu;rw[Q3,decide_eq_true_eq,decide_eq_true_eq] at hu;exact hu
  rw[e];show (if (3:Int)=3 then Q8 s else s)=_
  rw[if_pos rfl]
theorem XG (z:Int):U6 (zI z)=zT z:=by
 unfold zI zT;split
 ·rw[B0,B0,rU,NP,W0,k8];rfl
 ·rw[B0,NP,W0,k8]
theorem PZ {x:d8}:U6 (nI x)=x:=by
 unfold nI;split
 ·rename_i h
  rw[B0,B0,rU,NP,W0,k8];cases x with
  | nil=>exact absurd h dc
  | cons c r=>have:c=45:=h;rw[this];rfl
 ·rw[B0,NP,W0,k8]
theorem JX (l:List Int):U6 (uD l)=bN l:=by
 unfold uD bN;rw[B0,rU,M7,GP,B0,rU,W0,k8,En];have:l.map (U6∘zI)=l.map zT:=aG λz _=>XG z;rw[this];rfl
theorem Cf {nm:Int->KT} {nt:Int->d8} {t:OF} (h:rM (nm t.1)=nt t.1):U6 (zM nm t)=tA nt t:=by
 unfold zM tA;simp only[B0,W0,rU,NP,GT,k8];rw[show iB (.inl (nm t.1))=rM (nm t.1) from rfl,h];split <;> rfl
theorem QA {nm:Int->KT} {nt:Int->d8} {f:uZ} (h :∀t∈f.2,rM (nm t.1)=nt t.1):U6 (uG nm f)=fD nt f:=by
 unfold uG fD;rw[B0,rU,M7,PZ,M7,XH,B0,rU,W0,k8];have:f.2.flatMap (λx=>U6 (zM nm x))=f.2.flatMap (tA nt):=by
  rw[oU,oU,aG λt ht=>Cf (h t ht)]
 rw[this];rfl
end Go.Proofs.YtpjhmeicbjkcdaaGreatDoor
