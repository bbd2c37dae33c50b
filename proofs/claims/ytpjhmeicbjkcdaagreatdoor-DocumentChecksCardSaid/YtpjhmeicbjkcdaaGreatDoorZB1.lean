/- Parts of one proof, joined. No condition of its own. -/
import Derived.WalkKit
import Derived.OrdersHeld
import Derived.Deep.LoopGhost
import Derived.Test.YtpjhmeicbjkcdaaGreatDoorProg
import Derived.Laws.StructEq
import Derived.WalkSpells
import Derived.Test.YtpjhmeicbjkcdaaGreatDoorRows
import Derived.ProofKit
import Derived.Carry
import Derived.ChangeSame
import Derived.Handed
import Derived.JoinedOf
import Derived.RowKit3
import Derived.OrdersIn
import Derived.RangeFuncLeaves
import Derived.RangeFuncRecord
import Derived.RangeFuncSeq
import Derived.Laws.Strings
import Derived.Laws.Cover1
import Derived.Lib.DecodeN
import Derived.Laws.Bits64b
import Derived.Laws.BitsAllLaws
open Bool renaming and_eq_true->k6,not_eq_true'->Z7,false_or->AV,eq_iff_iff->L6
open Classical renaming byContradiction->j9
open Int renaming natCast_nonneg->S4,fdiv_eq_ediv_of_nonneg->Lv,natCast_ediv->Fx,tmod_eq_emod_of_nonneg->Lu
open List renaming getElem?_append->oM,getElem?_set->O7,getElem?_eq_some_iff->q9,getElem?_take->uT,append_assoc->o6,ext_getElem?->O8,getElem?_drop->bV,getElem?_map->G7,length_cons->d7,length_set->N8,length_take->j8,map_cons->N7,mem_cons_of_mem->A9,mem_cons_self->bU,mem_map->G6,mem_cons->A8,map_append->E9,size_toArray->Z6,take_of_length_le->u7,any_eq_false->J8,any_eq_true->E6,replicate->p7,all_eq_true->z6,mem_of_getElem?->MX,append_nil->p8,eq_nil_of_length_eq_zero->w9,flatMap_cons->I6,getElem?_append_right->N0,getElem?_eq_getElem->i6,getElem?_eq_none->X4,length_append->d6,length_drop->k9,nil_append->N6,take_left->uS,length_map->l7,length_nil->d9,replicate_succ->qF,mem_append->G1,take_succ_eq_append_getElem->L8,flatMap_append->V1,any_cons->Nc,drop_eq_getElem_cons->r5,all_cons->T6,getD_eq_getElem?_getD->i7,take_length->p9,drop_zero->H6,getElem_mem->j0,take_append_drop->E4,mem_of_mem_take->C6,mem_singleton->E2,set_append_right->JF,getElem?_append_left->Y0,take_succ_cons->SK,length_singleton->w7
open List.cons renaming injEq->FK
open Nat renaming le_refl->k8,le_trans->v8,beq->X3,ble->R0,blt->PB,blt_eq->Lp,eq_of_beq_eq_true->J4,le_of_ble_eq_true->E0,add_zero->G3,add_comm->V9,mod_eq_of_lt->C9,succ_mul->Z5,le_max_left->Y6,le_max_right->W4,le_of_succ_le_succ->E1,lt_or_ge->K8,max->tI,zero_le->f8,add_mul->D9,mul_le_mul_right->y9,zero_add->y8,mul_le_mul->Q9,mul_one->E3,add_assoc->nX,div_add_mod->qD,eq_zero_or_pos->w6,mod_lt->C8,mul_comm->q8,le_of_lt->kA,add_sub_cancel->XV,add_sub_cancel_left->BS,div_lt_iff_lt_mul->L7,lt_of_lt_of_le->S3,mul_add->B9,mul_assoc->A0,mul_le_mul_left->B8,mul_left_comm->jZ,mul_zero->jY,one_mul->P9,pow_succ->O3,zero_mul->Z4,add_mul_mod_self_left->wQ,lt_trichotomy->Bp,pow_le_pow_right->I4,pow_pos->MU,add_mul_div_left->MW,div_eq_of_lt->Fu,gcd->I5,mul_mod_mul_left->MV,sub_self->bS,lt_of_le_of_lt->s7,pos_of_ne_zero->F8,div_le_self->D7,two_pow_pos->cA
open Option renaming isSome_iff_exists->Mz
open Option.some renaming injEq->m9
namespace Go
theorem om {p:Prop} (h:p:=by omega):p:=h
theorem dc {p:Prop} (h:p:=by decide):p:=h
theorem sQ {p:Prop} (h:p:=by simp):p:=h
theorem kr {p:Prop} (h:p:=by kernel_rfl):p:=h
theorem zB:(∀b:Bool,((!b)=true)=(b=false))/\(∀b:Bool,((!b)=false)=(b=true))/\(∀(p:Prop)[Decidable p],(decide p=false)=¬p)/\(∀(p:Prop)[Decidable p],(decide p=true)=p)/\((!true)=false)/\((!false)=true)/\(∀(α:Type)(a b:α),(a≠b)=¬(a=b))/\(∀p:Prop,(¬¬p)=p):=⟨by simp,by simp,by simp,by simp,rfl,rfl,λ_ _ _=>rfl,by simp⟩
abbrev iQ (x:Int):Value:=.int .i64 x
abbrev zl:Value:=.slice none 0 0
abbrev pQ (b:Nat):Value:=.pointer (some ⟨b,0,none⟩)
end Go
namespace Go.Dw
open Go Go.RowKit
def Hp:=Nat->Option Obj
namespace Hp
def In (h:Hp) (w:World):Prop:=∀b o,h b=some o->w.heap[b]?=some o
def whole (w:World):Hp:=λb=>w.heap[b]?
def one (b:Nat) (o:Obj):Hp:=λk=>if k=b then some o else none
def emp:Hp:=λ_=>none
def le (h k:Hp):Prop:=∀b o,h b=some o->k b=some o
def dj (h k:Hp):Prop:=∀b,h b=none\/k b=none
def join (h k:Hp):Hp:=λb=>match h b with | some o=>some o | none=>k b
def upd (h:Hp) (b:Nat) (o:Obj):Hp:=λk=>if k=b then some o else h k
def cell? (h:Hp) (a:Addr):Option Value:=match h a.block with
 | some (.cells c _ _)=>if a.spot.isSome then none else c[a.off]?
 | _=>none
theorem dj.symm {h k:Hp} (d:h.dj k):k.dj h:=λb=>(d b).symm
theorem le.trans {a b c:Hp} (x:a.le b) (y:b.le c):a.le c:=λ_ _ e=>y _ _ (x _ _ e)
theorem In.le {h k:Hp} {w:World} (hi:k.In w) (l:h.le k):h.In w:=λ_ _ e=>hi _ _ (l _ _ e)
theorem In.whole {h:Hp} {w:World} (hi:h.In w):h.le (whole w):=hi
theorem whole_in (w:World):(whole w).In w:=λ_ _ e=>e
theorem emp_in (w:World):emp.In w:=λ_ _ e=>by cases e
theorem In.lt {h:Hp} {w:World} (hi:h.In w) {b:Nat} {o:Obj} (e:h b=some o):b < w.heap.size:=
 (Array.getElem?_eq_some_iff.1 (hi _ _ e)).1
theorem In.none {h:Hp} {w:World} (hi:h.In w) {b:Nat} (hb:w.heap.size<=b):h b=none:=by
 cases e:h b with
 | none=>rfl
 | some o=>have:=hi.lt e;omega
theorem le_join_l (h k:Hp):h.le (h.join k):=λb o e=>by simp[join,e]
theorem le_join_r {h k:Hp} (d:h.dj k):k.le (h.join k):=λb o e=>by
 rcases d b with e' | e'
 ·simp[join,e',e]
 ·rw[e] at e';cases e'
theorem one_self (b:Nat) (o:Obj):one b o b=some o:=by simp[one]
theorem upd_self (h:Hp) (b:Nat) (o:Obj):h.upd b o b=some o:=by simp[upd]
theorem le.cell {h k:Hp} (l:h.le k) {a:Addr} {v:Value} (e:h.cell? a=some v):k.cell? a=some v:=by
 unfold cell? at *;cases hb:h a.block with
 | none=>rw[hb] at e;cases e
 | some o=>rw[hb] at e;rw[l _ _ hb];exact e
theorem In.cell {h:Hp} {w:World} (hi:h.In w) {a:Addr} {v:Value} (e:h.cell? a=some v):w.cell? a=some v:=by
 unfold cell? at e;unfold World.cell?;cases hb:h a.block with
 | none=>rw[hb] at e;cases e
 | some o=>rw[hb] at e;rw[hi _ _ hb];exact e
theorem cell_block {h:Hp} {b off:Nat} {arr:Array Value} {T:TypeId} {f:Nat×Nat} (e:h b=some (.cells arr T f)):h.cell? ⟨b,off,none⟩=arr[off]?:=by
 simp[cell?,e]
end Hp
inductive Ch where
 | box (b:Nat) (cs:List Value) (T:Nat)
 | hp (h:Hp)
def Ch.h:Ch->Hp
 | .box b cs T=>Hp.one b (.cells cs.toArray T (0,0))
 | .hp h=>h
def m8:List Ch->Nat->Option Ch
 | [],_=>none
 | c::r,i=>match i with | 0=>some c | j+1=>m8 r j
def x9:List Ch->Nat->Ch->List Ch
 | [],_,_=>[]
 | c::r,i,d=>match i with | 0=>d::r | j+1=>c::x9 r j d
theorem J7 :∀(s:List Ch) (i:Nat),m8 s i=s[i]?
 | [],_=>rfl
 | _::_,0=>rfl
 | _::r,j+1=>by simp[m8,J7 r j]
theorem S9 :∀(s:List Ch) (i:Nat) (d:Ch),x9 s i d=s.set i d
 | [],_,_=>rfl
 | _::_,0,_=>rfl
 | _::r,j+1,d=>by simp[x9,S9 r j d]
def Jd (_:World):Nat:=0
structure Ok (w0:World) (s:List Ch) (w:World):Prop where
 os:w.os=w0.os
 tape:w.tape=w0.tape
 output:w.output=w0.output
 size:w0.heap.size<=w.heap.size
 drawn:Jd w0<=Jd w
 mem :∀i c,m8 s i=some c->c.h.In w
 disj :∀i j c d,i≠j->m8 s i=some c->m8 s j=some d->c.h.dj d.h
def gN (s:List Ch) (w:World):Prop:=∀i c,m8 s i=some c->c.h.In w
theorem Ok.start (w:World):Ok w [.hp (Hp.whole w)] w:=by
 refine⟨rfl,rfl,rfl,k8 _,k8 _,λi c e=>?_,λi j c d hij e1 e2=>?_⟩
 ·match i,e with
  | 0,e=>simp[m8] at e;subst e;exact Hp.whole_in w
 ·match i,j,e1,e2 with
  | 0,0,_,_=>exact absurd rfl hij
theorem Ok.below {w0 w:World} {s:List Ch} (h:Ok w0 (.hp (Hp.whole w0)::s) w):Below w0.heap.size w0 w:=by
 refine⟨h.os,h.tape,h.output,h.size,λk hk=>?_⟩;have hi:=h.mem 0 _ rfl;have e:w0.heap[k]?=some w0.heap[k]:=Array.getElem?_eq_getElem hk;rw[e];exact hi k _ e
theorem Ok.drew {w0 w:World} {s:List Ch} (h:Ok w0 s w):Ok w0 s { w with drawn:=w.drawn+1 }:=
 ⟨h.os,h.tape,h.output,h.size,h.drawn,h.mem,h.disj⟩
theorem Ok.lt {w0 w:World} {s:List Ch} (h:Ok w0 s w) {i:Nat} {c:Ch} (e:m8 s i=some c) {b:Nat} {o:Obj} (eb:c.h b=some o):b < w.heap.size:=(h.mem i c e).lt eb
theorem H3 (s t:List Ch) (i:Nat):m8 (s++t) i=if i < s.length then m8 s i else m8 t (i - s.length):=by
 rw[J7,J7,J7,oM]
theorem Ok.alloc {w0 w:World} {s:List Ch} (h:Ok w0 s w) (c:Ch) (o:Obj) (hc:c.h=Hp.one w.heap.size o):Ok w0 (s++[c]) (w.alloc o):=by
 refine⟨h.os,h.tape,h.output,by have:=h.size;simp;omega,h.drawn,λi d e=>?_,λi j d d' hij e1 e2=>?_⟩
 ·rw[H3] at e;split at e
  ·intro b o' e';have:=(h.mem i d e) b o' e';show (w.heap.push o)[b]?=_
   rw[Array.getElem?_push,if_neg (by have:=h.lt e e';omega)];exact this
  ·rename_i hi
   match hk:i - s.length,e with
   | 0,e=>
    simp[m8] at e;subst e;intro b o' e';rw[hc] at e';simp only[Hp.one] at e';split at e'
    ·rename_i hb;subst hb;simp only[m9] at e';subst e'
     show (w.heap.push o)[w.heap.size]?=_
     simp
    ·cases e'
 ·have key :∀(i:Nat) (d:Ch),m8 s i=some d->d.h.dj c.h:=by
   intro i d e b;by_cases hb:b=w.heap.size
   ·exact .inl ((h.mem i d e).none om)
   ·right;rw[hc];simp[Hp.one,hb]
  rw[H3] at e1 e2;split at e1 <;> split at e2
  ·exact h.disj i j d d' hij e1 e2
  ·match hk:j - s.length,e2 with
   | 0,e2=>simp[m8] at e2;subst e2;exact key i d e1
  ·match hk:i - s.length,e1 with
   | 0,e1=>simp[m8] at e1;subst e1;exact (key j d' e2).symm
  ·match hk:i - s.length,hk':j - s.length,e1,e2 with
   | 0,0,_,_=>omega
theorem F9 (s:List Ch) (i j:Nat) (d:Ch):m8 (x9 s i d) j=if i=j then (m8 s j).map (λ_=>d) else m8 s j:=by
 simp only[J7,S9,O7];by_cases h:i=j
 ·subst h;by_cases h':i < s.length <;> simp[h']
 ·simp[h]
theorem Ok.upd {w0 w w':World} {s:List Ch} (h:Ok w0 s w) {i:Nat} {c:Ch} (e:m8 s i=some c) (c':Ch)
  (hos:w'.os=w.os) (htape:w'.tape=w.tape) (hout:w'.output=w.output) (hsz:w.heap.size<=w'.heap.size) (hdr:Jd w<=Jd w')
  (hk :∀k,k < w.heap.size->c.h k=none->w'.heap[k]?=w.heap[k]?) (hc:c'.h.In w') (hd :∀k,c'.h k≠none->c.h k≠none\/w.heap.size<=k) :
  Ok w0 (x9 s i c') w':=by
 have hdj :∀j d,i≠j->m8 s j=some d->c'.h.dj d.h:=by
  intro j d hij ed b;by_cases hb:c'.h b=none
  ·exact .inl hb
  ·right
   rcases hd b hb with h1 | h1
   ·exact (h.disj i j c d hij e ed b).resolve_left h1
   ·exact (h.mem j d ed).none h1
 refine⟨hos.trans h.os,htape.trans h.tape,hout.trans h.output,v8 h.size hsz,v8 h.drawn hdr,λj d ed=>?_,λj j' d d' hjj e1 e2=>?_⟩
 ·rw[F9] at ed;split at ed
  ·rename_i hij;subst hij;rw[e] at ed;simp at ed;subst ed;exact hc
  ·rename_i hij
   intro b o eb;have h1:=h.mem j d ed b o eb;rw[hk b (h.lt ed eb) ((h.disj i j c d hij e ed b).resolve_right (by rw[eb];simp))];exact h1
 ·rw[F9] at e1 e2;split at e1
  ·rename_i hij;subst hij;rw[e] at e1;simp at e1;subst e1
   rw[if_neg hjj] at e2;exact hdj j' d' hjj e2
  ·rename_i hij
   split at e2
   ·rename_i hij';subst hij';rw[e] at e2;simp at e2;subst e2
    exact (hdj j d hij e1).symm
   ·exact h.disj j j' d d' hjj e1 e2
theorem Ok.call {w0 w w':World} {s cs:List Ch} (h:Ok w0 s w) (h':Ok w (.hp (Hp.whole w)::cs) w'):Ok w0 (s++cs) w':=by
 have hw :∀(b:Nat) (o:Obj),w.heap[b]?=some o->w'.heap[b]?=some o:=λb o e=>h'.mem 0 _ rfl b o e;have new :∀j d,m8 cs j=some d->∀b,b < w.heap.size->d.h b=none:=by
  intro j d e b hb;have:=h'.disj 0 (j+1) _ d om rfl (by simpa [m8] using e) b;refine this.resolve_left ?_;show w.heap[b]?≠none
  rw[Array.getElem?_eq_getElem hb];simp
 refine⟨h'.os.trans h.os,h'.tape.trans h.tape,h'.output.trans h.output,v8 h.size h'.size,v8 h.drawn h'.drawn,λi c e=>?_,λi j c d hij e1 e2=>?_⟩
 ·rw[H3] at e;split at e
  ·exact λb o eb=>hw b o (h.mem i c e b o eb)
  ·exact h'.mem (i - s.length+1) c (by simpa [m8] using e)
 ·have key :∀i j c d,m8 s i=some c->m8 cs j=some d->c.h.dj d.h:=by
   intro i j c d e1 e2 b;by_cases hb:b < w.heap.size
   ·exact .inr (new j d e2 b hb)
   ·exact .inl ((h.mem i c e1).none om)
  rw[H3] at e1 e2;split at e1 <;> split at e2
  ·exact h.disj i j c d hij e1 e2
  ·exact key _ _ _ _ e1 e2
  ·exact (key _ _ _ _ e2 e1).symm
  ·exact h'.disj (i - s.length+1) (j - s.length+1) c d om (by simpa [m8] using e1) (by simpa [m8] using e2)
def fD (w:World) (R:Value->List Ch->Prop):Ending->World->Prop:=λe w'=>∃v cs,e=.returned v/\Ok w (.hp (Hp.whole w)::cs) w'/\R v cs
end Go.Dw
namespace Go.Dw
open Go Go.RowKit
inductive TV where
 | v (x:Value)
 | bx (i off:Nat)
 /-- a slice over the whole of chunk i (a box),of n elements -/
 | bs (i n:Nat)
abbrev Tm:=List (Nat×TV)
def dS:Tm->Nat->Option TV
 | [],_=>none
 | (d,x)::r,i=>match X3 d i with | true=>some x | false=>dS r i
def TV.val (s:List Ch):TV->Option Value
 | .v x=>some x
 | .bx i off=>match m8 s i with | some (.box b _ _)=>some (.pointer (some ⟨b,off,none⟩)) | _=>none
 | .bs i n=>match m8 s i with | some (.box b _ _)=>some (.slice (some ⟨b,0,none⟩) n n) | _=>none
inductive TK where
 | int (k:IntKind) | bool | str | sl (e:Nat) | st (fs:List (Nat×Nat)) | ar (len e:Nat) | other
structure TI where
 k:TK
 size:Nat
 bytes:Nat
 zero:List Value
def TI.agg (t:TI):Bool:=match t.k with | .st _ | .ar _ _=>true | _=>false
def iX {α:Type}:List α->Nat->Option α
 | [],_=>none
 | c::r,i=>match i with | 0=>some c | j+1=>iX r j
theorem R8 {α:Type} :∀(s:List α) (i:Nat),iX s i=s[i]?
 | [],_=>rfl
 | _::_,0=>rfl
 | _::r,j+1=>by simp[iX,R8 r j]
def I2:List (Nat×TI)->Nat->Option TI
 | [],_=>none
 | (d,x)::r,i=>match X3 d i with | true=>some x | false=>I2 r i
structure R5 where
 P:Program
 n:Nat
 tt:List (Nat×TI)
def XX (P:Program) (t:Nat):TK->Prop
 | .int k=>P.underlying t=some (.int k)
 | .bool=>P.underlying t=some .bool
 | .str=>P.underlying t=some .string
 | .sl e=>P.underlying t=some (.slice e)
 | .st fs=>∃fields:Array Field,P.underlying t=some (.struct fields)/\(fields.toList.map λf=>(f.offset,f.type))=fs
 | .ar n e=>P.underlying t=some (.array n e)
 | .other=>∃d,P.underlying t=some d/\(match d with | .struct _ | .array _ _=>false | _=>true)=true
def gZ (P:Program) (t:Nat) (i:TI):Prop:=
 (∃inf,P.info? t=some inf/\inf.size=i.size/\inf.bytes=i.bytes/\∃z,inf.zero=some z/\z.cells=i.zero.toArray/\i.zero.length=i.size)/\XX P t i.k
def R5.Good (X:R5):Prop:=X.P.follows .mixedOrders=true/\∀t i,I2 X.tt t=some i->gZ X.P t i
def Cn (p q:Prop) (b:Bool):Prop:=match b with | true=>p | false=>q
theorem s8 {b:Bool} {p q:Prop} (h1:b=true->p) (h2:b=false->q):Cn p q b:=by cases b <;> simp_all [Cn]
theorem d8 {c p q:Prop} [Decidable c] (h1:c->p) (h2 : ¬ c->q):Cn p q (decide c):=s8 (λh=>h1 (of_decide_eq_true h)) (λh=>h2 (of_decide_eq_false h))
inductive bR (k:IntKind) (x:Int) (q:Int->Prop):Prop
 | mk (z:Int) (h:k.wrap x=z) (hk:q z)
inductive B7 (P:Program) (s:List Ch) (e:Sem Value) (q:TV->Prop):Prop
 | mk (v:Value) (h :∀w,gN s w->e.run P w=.ok v w) (hk:q (.v v))
def J6 (s s':List Ch):Prop:=∀tv v,TV.val s tv=some v->TV.val s' tv=some v
inductive I0 (P:Program) (s:List Ch) (e:Sem Value) (q:TV->List Ch->Prop):Prop
 | mk (h :∀w0 w,Ok w0 s w->∃tv v w' s',e.run P w=.ok v w'/\Ok w0 s' w'/\J6 s s'/\tv.val s'=some v/\q tv s')
inductive gX (P:Program) (s:List Ch) (e:Sem Unit) (q:List Ch->Prop):Prop
 | mk (h :∀w0 w,Ok w0 s w->∃w' s',e.run P w=.ok () w'/\Ok w0 s' w'/\J6 s s'/\q s')
inductive Mj (P:Program) (s:List Ch) (f:Nat) (args:List Value) (q:TV->List Ch->Prop):Prop
 | mk (h :∀w0 w,Ok w0 s w->Calls P f args.toArray w λe w'=>∃v s',e=.returned v/\Ok w0 s' w'/\J6 s s'/\q (.v v) s')
def YA (t:Tm):Operand->Option TV
 | .tmp i=>dS t i
 | .const v=>some (.v v)
 | .global g=>some (.v (.pointer (some ⟨g,0,none⟩)))
 | .func f=>some (.v (.func (.func f) #[] #[]))
def valk (s:List Ch) (tv:TV) (q:Value->Prop):Prop:=match tv with
 | .v x=>q x
 | .bx i off=>match m8 s i with | some (.box b _ _)=>q (.pointer (some ⟨b,off,none⟩)) | _=>False
 | .bs i n=>match m8 s i with | some (.box b _ _)=>q (.slice (some ⟨b,0,none⟩) n n) | _=>False
def Jz (s:List Ch) (tv:TV) (p:Prop):Prop:=match tv with
 | .v _=>p
 | .bx i _=>match m8 s i with | some (.box _ _ _)=>p | _=>False
 | .bs i _=>match m8 s i with | some (.box _ _ _)=>p | _=>False
def tvk (s:List Ch) (t:Tm) (x:Operand) (q:TV->Prop):Prop:=match YA t x with | some tv=>Jz s tv (q tv) | none=>False
def val (s:List Ch) (t:Tm) (x:Operand) (q:Value->Prop):Prop:=tvk s t x λtv=>valk s tv q
def vals (s:List Ch) (t:Tm):List Operand->(List Value->Prop)->Prop
 | [],q=>q []
 | x::r,q=>val s t x λv=>vals s t r λvs=>q (v::vs)
def jS:List Value->(List Value->Prop)->Prop
 | [],q=>q []
 | v::r,q=>jS r λvs=>q (v::vs)
def BX:Nat->List Value->List Value
 | 0,_=>[]
 | n+1,l=>match l with | []=>[] | v::r=>v::BX n r
def CX:Nat->List Value->List Value
 | 0,l=>l
 | n+1,l=>match l with | []=>[] | _::r=>CX n r
def BC:List Value->Nat
 | []=>0
 | _::r=>(BC r).succ
def lZ:List Value->Nat->List Value->Option (List Value)
 | l,0,[]=>some l
 | [],_,_::_=>none
 | [],_+1,[]=>none
 | _::r,0,v::vs=>match lZ r 0 vs with | some x=>some (v::x) | none=>none
 | c::r,n+1,vs=>match lZ r n vs with | some x=>some (c::x) | none=>none
def Cz (P:Program) (s:List Ch) (op:BinOp) (ty:Nat) (i:IntKind) (x y:Int) (q:TV->Prop):Prop:=match op with
 | .add=>bR i (x+y) λz=>q (.v (.int i z))
 | .sub=>bR i (x - y) λz=>q (.v (.int i z))
 | .mul=>bR i (x*y) λz=>q (.v (.int i z))
 | .eql=>q (.v (.bool (decide (x=y))))
 | .neq=>q (.v (.bool (decide (x≠y))))
 | .lss=>q (.v (.bool (decide (x < y))))
 | .leq=>q (.v (.bool (decide (x<=y))))
 | .gtr=>q (.v (.bool (decide (x > y))))
 | .geq=>q (.v (.bool (decide (x>=y))))
 | op=>B7 P s (binOp op ty (.int i x) (.int i y)) q
def Da (P:Program) (s:List Ch) (op:BinOp) (ty:Nat) (xo yo:Operand) (a b:Value) (q:TV->Prop):Prop:=match a,b with
 | .int i x,.int j y=>match decide (i=j) with | true=>Cz P s op ty i x y q | false=>B7 P s (do eqGuard op ty xo yo a b;binOp op ty a b) q
 | a,b=>B7 P s (do eqGuard op ty xo yo a b;binOp op ty a b) q
def jQ (X:R5) (T:Nat) (cs:List Value) (off:Nat) (q:TV->Prop):Prop:=match I2 X.tt T with
 | some ti=>match ti.agg with
  | true=>match R0 (off+ti.size) (BC cs) with
   | true=>jS (BX ti.size (CX off cs)) λvs=>q (.v (.agg vs.toArray))
   | false=>False
  | false=>match iX cs off with | some v=>q (.v v) | none=>False
 | none=>False
def cellsOf (v:Value) (q:List Value->Prop):Prop:=match v with
 | .agg ⟨cs⟩=>jS cs q
 | .tuple _=>False
 | .bool b=>q [.bool b]
 | .int k n=>q [.int k n]
 | .float k n=>q [.float k n]
 | .complex k n m=>q [.complex k n m]
 | .string x=>q [.string x]
 | .pointer x=>q [.pointer x]
 | .slice a n c=>q [.slice a n c]
 | .map r=>q [.map r]
 | .chan r=>q [.chan r]
 | .func f x y=>q [.func f x y]
 | .nilFunc=>q [.nilFunc]
 | .iface t v=>q [.iface t v]
 | .nilIface=>q [.nilIface]
def oT (s:List Ch) (t:Tm) (place:Nat->Option (Nat×Nat)):List (Nat×Operand)->List Value->(List Value->Prop)->Prop
 | [],cs,q=>jS cs q
 | (i,x)::r,cs,q=>val s t x λv=>cellsOf v λvs=>match place i with
  | some (off,size)=>match X3 (BC vs) size with
   | true=>match lZ cs off vs with | some cs'=>oT s t place r cs' q | none=>False
   | false=>False
  | none=>False
def HN (X:R5):List (Nat×Nat)->Bool
 | []=>true
 | (_,ft)::r=>match I2 X.tt ft with | some _=>HN X r | none=>false
def wq (X:R5) (s:List Ch) (t:Tm) (op:Op) (q:TV->Prop):Prop:=match op with
 | .move x | .assign x=>tvk s t x q
 | .pick c a b=>val s t c λcv=>match cv with
  | .bool b'=>Cn (tvk s t a q) (tvk s t b q) b'
  | _=>False
 | .load T a=>tvk s t a λtv=>match tv with
  | .bx i off=>match m8 s i with
   | some (.box _ cs _)=>jQ X T cs off q
   | _=>False
  | .v p=>B7 X.P s (Instr.loadAt T p) q
  | _=>False
 | .nilCheck x=>tvk s t x λtv=>match tv with
  | .bx i off=>q (.bx i off)
  | .v (.pointer (some p))=>q (.v (.pointer (some p)))
  | _=>False
 | .binOp o ty x y _=>val s t x λa=>val s t y λb=>Da X.P s o ty x y a b q
 | .unOp o _ x=>val s t x λa=>match o,a with
  | .not,.bool b=>q (.v (.bool (!b)))
  | .neg,.int k n=>bR k (0 - n) λz=>q (.v (.int k z))
  | o,a=>B7 X.P s (Op.unary o a) q
 | .convert S T x=>val s t x λa=>match a,I2 X.tt S,I2 X.tt T with
  | .int _ n,some ⟨.int _,_,_,_⟩,some ⟨.int k,_,_,_⟩=>bR k n λz=>q (.v (.int k z))
  | a,_,_=>B7 X.P s (convert S T a) q
 | .fieldAddr S x f=>tvk s t x λtv=>match I2 X.tt S with
  | some ⟨.st fs,_,_,_⟩=>match iX fs f with
   | some (fo,ft)=>match I2 X.tt ft with
    | some ⟨_,.succ _,_,_⟩=>match tv with
     | .bx i off=>q (.bx i (off+fo))
     | .v (.pointer (some ⟨b,off,none⟩))=>q (.v (.pointer (some ⟨b,off+fo,none⟩)))
     | _=>False
    | _=>False
   | none=>False
  | _=>False
 | .field S x f=>val s t x λa=>match a,I2 X.tt S with
  | .agg ⟨cs⟩,some ⟨.st fs,_,_,_⟩=>match iX fs f with
   | some (fo,ft)=>jQ X ft cs fo q
   | none=>False
  | _,_=>False
 | .indexAddr S x ix=>val s t ix λiv=>tvk s t x λtv=>match I2 X.tt S with
  | some ⟨.ar len e,_,_,_⟩=>match I2 X.tt e,iv with
   | some te,.int _ n=>match tv with
    | .bx i off=>match n with
     | .ofNat m=>match PB m len with
      | true=>q (.bx i (off+m*te.size))
      | false=>valk s tv λa=>B7 X.P s (Instr.indexAt S a iv) q
     | _=>valk s tv λa=>B7 X.P s (Instr.indexAt S a iv) q
    | tv=>valk s tv λa=>B7 X.P s (Instr.indexAt S a iv) q
   | _,_=>False
  | _=>valk s tv λa=>B7 X.P s (Instr.indexAt S a iv) q
 | .index S x ix=>val s t ix λiv=>val s t x λa=>B7 X.P s (Instr.index S a iv) q
 | .extract x i=>val s t x λa=>match a with
  | .tuple ⟨vs⟩=>match iX vs i with | some v=>q (.v v) | none=>False
  | _=>False
 | .slice S x lo hi mx=>val s t x λa=>vals s t lo.toList λlo'=>vals s t hi.toList λhi'=>vals s t mx.toList λmx'=>
   B7 X.P s (Instr.sliceAt S a lo'.head? hi'.head? mx'.head?) q
 | .makeFunc fn first cap=>vals s t first.toList λf=>vals s t cap.toList λc=>q (.v (.func fn f.toArray c.toArray))
 | .makeInterface T x=>val s t x λa=>match I2 X.tt T with
  | some _=>B7 X.P s (Instr.makeInterface T a) q
  | none=>False
 | .build T ⟨parts⟩=>match I2 X.tt T with
  | some ⟨.st fs,_,_,z⟩=>match HN X fs with
   | false=>False
   | true=>oT s t (λi=>match iX fs i with | some (off,ft)=>(match I2 X.tt ft with | some tf=>some (off,tf.size) | none=>none) | none=>none) parts z λcs=>q (.v (.agg cs.toArray))
  | some ⟨.ar _ e,_,_,z⟩=>(match I2 X.tt e with | some te=>oT s t (λi=>some (i*te.size,te.size)) parts z λcs=>q (.v (.agg cs.toArray)) | none=>False)
  | _=>False
 | .call ⟨.builtin .len,⟨[x]⟩,⟨[T]⟩⟩=>tvk s t x λtv=>match I2 X.tt T with
  | some ⟨.sl _,_,_,_⟩=>match tv with
   | .v (.slice _ n _)=>q (.v (.int .i64 n))
   | .bs _ n=>q (.v (.int .i64 n))
   | _=>False
  | some ⟨.str,_,_,_⟩=>match tv with
   | .v (.string b)=>q (.v (.int .i64 b.size))
   | _=>False
  | _=>False
 | _=>False
def SP:Op->Bool
 | .move _ | .assign _ | .pick _ _ _ | .load _ _ | .nilCheck _ | .binOp _ _ _ _ _ | .unOp _ _ _ | .convert _ _ _ | .fieldAddr _ _ _ | .field _ _ _
 | .indexAddr _ _ _ | .index _ _ _ | .extract _ _ | .slice _ _ _ _ _ | .makeFunc _ _ _ | .makeInterface _ _ | .build _ _=>true
 | .call ⟨.builtin .len,⟨[_]⟩,⟨[_]⟩⟩=>true
 | _=>false
end Go.Dw
namespace Go.Dw
open Go Go.RowKit
def j6 (P:Program) (f:Nat) (args:Array Value) (w:World) (R:Ending->World->Prop):Prop:=
 (∀w,(callFunc f args).run P w=.ok (.enter f args) w)/\Calls P f args w R
inductive tH (P:Program) (s:List Ch) (tys:Array TypeId) (ty:Nat) (x:Value) (y:TV) (q:TV->List Ch->Prop):Prop
 | mk (yv:Value) (hy:y.val s=some yv) (h:I0 P s (Builtin.append_ tys ty #[x,yv]) q)
inductive Q8 (P:Program) (s:List Ch) (f:Nat) (args:List Value) (q:TV->List Ch->Prop):Prop
 | mk (h :∀w0 w,Ok w0 s w->j6 P f args.toArray w λe w'=>∃v s',e=.returned v/\Ok w0 s' w'/\J6 s s'/\q (.v v) s')
inductive Cv (P:Program) (s:List Ch) (v:Value) (m:String) (args:List Value) (q:TV->List Ch->Prop):Prop
 | mk (h :∀w0 w,Ok w0 s w->∃f fa,(callMethod v m args.toArray).run P w=.ok (.enter f fa) w/\Calls P f fa w λe w'=>∃v s',e=.returned v/\Ok w0 s' w'/\J6 s s'/\q (.v v) s')
def aB:List Value->Bool
 | []=>true
 | v::r=>match v.oneCell' with | true=>aB r | false=>false
def lX:Nat->List Value->List Value
 | 0,_=>[]
 | n+1,z=>z++lX n z
def we (X:R5) (s:List Ch) (t:Tm) (ty:Nat) (op:Op) (q:TV->List Ch->Prop):Prop:=match op with
 | .alloc T=>match I2 X.tt T with
  | some ti=>∀b,q (.bx s.length 0) (s++[.box b ti.zero T])
  | none=>False
 | .box T x=>val s t x λv=>cellsOf v λcs=>∀b,q (.bx s.length 0) (s++[.box b cs T])
 | .store T a x=>tvk s t a λtv=>val s t x λv=>match tv with
  | .bx i off=>match m8 s i with
   | some (.box b cs T')=>cellsOf v λvs=>match aB vs with
    | true=>match I2 X.tt T with
     | some ti=>match X3 (BC vs) ti.size with
      | true=>match lZ cs off vs with
       | some cs'=>jS cs' λcs'=>q (.v undef) (x9 s i (.box b cs' T'))
       | none=>False
      | false=>False
     | none=>False
    | false=>False
   | _=>False
  | .v p=>gX X.P s (Instr.storeAt T p v) λs'=>q (.v undef) s'
  | _=>False
 | .buildSlice T n ⟨parts⟩=>match I2 X.tt T with
  | some ⟨.sl e,_,_,_⟩=>match I2 X.tt e with
   | some te=>match R0 (n*te.size) 16777216 with
    | true=>oT s t (λi=>some (i*te.size,te.size)) parts (lX n te.zero) λcs=>∀b,q (.bs s.length n) (s++[.box b cs e])
    | false=>False
   | none=>False
  | _=>False
 | .makeSlice T l c=>val s t l λl=>val s t c λc=>I0 X.P s (Instr.makeSlice T l c) q
 | .range T x=>val s t x λv=>I0 X.P s (Instr.range T v) q
 | .next x b=>val s t x λv=>I0 X.P s (Instr.next v b ty) q
 | .entry x=>val s t x λv=>I0 X.P s (Instr.entry v) q
 | .makeMap T none=>I0 X.P s (Instr.makeMap T none) q
 | .mapUpdate T m k x=>val s t m λm=>val s t k λk=>val s t x λx=>gX X.P s (Instr.mapUpdate T m k x) λs'=>q (.v undef) s'
 | .insert T m k x=>val s t m λm=>val s t k λk=>val s t x λx=>gX X.P s (Instr.mapUpdate T m k x) λs'=>q (.v undef) s'
 | .lookup T m k ok=>val s t m λm=>val s t k λk=>I0 X.P s (Instr.lookup T m k ok) q
 | .call ⟨.builtin .append,⟨[x,y]⟩,tys⟩=>val s t x λx=>tvk s t y λy=>tH X.P s tys ty x y q
 | .call ⟨.builtin b,⟨args⟩,tys⟩=>vals s t args λargs=>match b with
  | .copy=>I0 X.P s (Builtin.copy_ tys ty args.toArray) q
  | .min=>I0 X.P s (Builtin.min_ tys ty args.toArray) q
  | .max=>I0 X.P s (Builtin.max_ tys ty args.toArray) q
  | .clear=>I0 X.P s (Builtin.clear_ tys ty args.toArray) q
  | .cap=>I0 X.P s (Builtin.cap_ tys ty args.toArray) q
  | _=>False
 | .call ⟨.value f,⟨args⟩,_⟩=>tvk s t f λfv=>vals s t args λargs=>match fv with
  | .v (.func (.func f) ⟨first⟩ ⟨cap⟩)=>jS (first++args++cap) λargs=>Q8 X.P s f args q
  | _=>False
 | .call ⟨.invoke r m,⟨args⟩,_⟩=>val s t r λv=>vals s t args λargs=>Cv X.P s v m args q
 | _=>False
def putk (n:Nat) (t:Tm) (dst:Option Nat) (tv:TV) (q:Tm->Prop):Prop:=match dst with
 | none=>q t
 | some d=>match PB d n with | true=>q ((d,tv)::t) | false=>False
def FO (X:R5) (s:List Ch) (t:Tm) (o:Oper) (q:TV->List Ch->Prop):Prop:=match SP o.op with
 | true=>wq X s t o.op λtv=>q tv s
 | false=>we X s t o.type o.op q
def jB (all:List Oper) (j:Nat):Option Nat:=match iX all j with | some o=>o.dst | none=>none
def aI (all:List Oper) (o:Oper) (t:Tm) (yes no:Tm->Prop):Prop:=match o.guard with
 | none=>yes t
 | some (j,want)=>match jB all j with
  | some d=>match dS t d with
   | some (.v (.bool b))=>Cn (match want with | true=>yes ((d,.v (.bool true))::t) | false=>no ((d,.v (.bool true))::t))
     (match want with | true=>no ((d,.v (.bool false))::t) | false=>yes ((d,.v (.bool false))::t)) b
   | some (.v (.tuple _))=>no t
   | _=>False
  | none=>False
def Q7 (X:R5) (all:List Oper):List Oper->(Tm->List Ch->Prop)->Tm->List Ch->Prop
 | [],q,t,s=>q t s
 | o::r,q,t,s=>aI all o t
   (λt=>FO X s t o λtv s'=>putk X.n t o.dst tv λt'=>Q7 X all r q t' s')
   (λt=>putk X.n t o.dst (.v undef) λt'=>Q7 X all r q t' s)
inductive Ex where | normal | exit (id:Nat) | ret
def Fr (n:Nat) (t:Tm) (s:List Ch) (a:Act):Prop:=a.tmps.size=n/\a.defers = []/\∀i tv,dS t i=some tv->∃v,tv.val s=some v/\a.tmps[i]?=some v
def v6 (t:Tm) (s:List Ch) (t':Tm) (s':List Ch):Prop:=∀n w0 w a,Ok w0 s w->Fr n t s a->Ok w0 s' w/\Fr n t' s' a
def FF (s:List Ch):Prop:=∃w0 w,Ok w0 s w
inductive u6 (body:(Ex->Tm->List Ch->Prop)->Tm->List Ch->Prop) (Q:Ex->Tm->List Ch->Prop) (t:Tm) (s:List Ch):Prop
 | mkS (G:Type) (I:G->Tm) (S:G->List Ch) (R:G->Prop) (m:G->Nat) (g0:G) (h0:R g0) (e0:v6 t s (I g0) (S g0))
   (round :∀g,R g->FF (S g)->body (λe t' s'=>match e with | .normal=>∃g',R g'/\m g' < m g/\v6 t' s' (I g') (S g') | e=>Q e t' s') (I g) (S g))
theorem u6.mk {body:(Ex->Tm->List Ch->Prop)->Tm->List Ch->Prop} {Q:Ex->Tm->List Ch->Prop} {t:Tm} {s:List Ch} (G:Type) (I:G->Tm) (S:G->List Ch) (R:G->Prop) (m:G->Nat) (g0:G) (h0:R g0) (e0:v6 t s (I g0) (S g0))
  (round :∀g,R g->body (λe t' s'=>match e with | .normal=>∃g',R g'/\m g' < m g/\v6 t' s' (I g') (S g') | e=>Q e t' s') (I g) (S g)):u6 body Q t s:=
 u6.mkS G I S R m g0 h0 e0 λg h _=>round g h
inductive s6 (X:R5) (ops:List Oper) (Q:Tm->List Ch->Prop) (t:Tm) (s:List Ch):Prop
 | mk (h :∀w0 w a (Q':Exit->Act->World->Prop),Ok w0 s w->Fr X.n t s a->(∀t s a w,Ok w0 s w->Fr X.n t s a->Q t s->Q' .normal a w)->
   (∀c a w,¬ Q' (.panic c) a w)->wpAny X.P .any ops.toArray Q' ops.toArray.size (Array.replicate ops.toArray.size false) a { w with drawn:=w.drawn+1 })
def WP (X:R5):Code->(Ex->Tm->List Ch->Prop)->Tm->List Ch->Prop
 | .skip,Q,t,s=>Q .normal t s
 | .label _,Q,t,s=>Q .normal t s
 | .seq a b,Q,t,s=>WP X a (λe t s=>match e with | .normal=>WP X b Q t s | .exit i=>Q (.exit i) t s | .ret=>Q .ret t s) t s
 | .cond c x y,Q,t,s=>tvk s t c λtv=>match tv with
  | .v (.bool b)=>Cn (WP X x Q t s) (WP X y Q t s) b
  | _=>False
 | .block id c,Q,t,s=>WP X c (λe t s=>match e with
  | .exit j=>match X3 j id with | true=>Q .normal t s | false=>Q (.exit j) t s
  | .normal=>Q .normal t s
  | .ret=>Q .ret t s) t s
 | .loop c,Q,t,s=>u6 (λQ t s=>WP X c Q t s) Q t s
 | .exit id,Q,t,s=>Q (.exit id) t s
 | .ret,Q,t,s=>Q .ret t s
 | .region _ ⟨ops⟩ false,Q,t,s=>Q7 X ops ops (Q .normal) t s
 | .region _ ⟨ops⟩ true,Q,t,s=>s6 X ops (Q .normal) t s
 | _,_,_,_=>False
end Go.Dw
namespace Go.Dw
open Go Go.RowKit
theorem aZ :∀(l:List Value) (q:List Value->Prop),jS l q=q l
 | [],_=>rfl
 | v::r,q=>by simp only[jS];rw[aZ r]
theorem xA :∀l,BC l=l.length
 | []=>rfl
 | _::r=>by simp[BC,xA r]
theorem xX :∀n l,BX n l=l.take n
 | 0,_=>by simp[BX]
 | _+1,[]=>by simp[BX]
 | n+1,_::r=>by simp[BX,xX n r]
theorem AC :∀n l,CX n l=l.drop n
 | 0,_=>by simp[CX]
 | _+1,[]=>by simp[CX]
 | n+1,_::r=>by simp[CX,AC n r]
theorem wW :∀(l:List Value) (n:Nat) (vs l':List Value),lZ l n vs=some l'->n+vs.length<=l.length/\l'=l.take n++vs++l.drop (n+vs.length)
 | l,0,[],l',h=>by
  have:l=l':=by cases l <;> simpa [lZ] using h
  subst this;simp
 | [],0,_::_,_,h=>by simp[lZ] at h
 | [],_+1,[],_,h=>by simp[lZ] at h
 | [],_+1,_::_,_,h=>by simp[lZ] at h
 | c::r,0,v::vs,l',h=>by
  cases hp:lZ r 0 vs with
  | none=>simp[lZ,hp] at h
  | some x=>
   simp[lZ,hp] at h;subst h;have:=wW r 0 vs x hp;obtain⟨h1,h2⟩:=this;subst h2;simp at h1 ⊢;omega
 | c::r,n+1,vs,l',h=>by
  cases hp:lZ r n vs with
  | none=>simp[lZ,hp] at h
  | some x=>
   simp[lZ,hp] at h;subst h;obtain⟨h1,h2⟩:=wW r n vs x hp;subst h2;refine⟨by simp;omega,?_⟩;rw[show n+1+vs.length=(n+vs.length)+1 by omega];simp
theorem TV.valk {s:List Ch} {tv:TV} {q:Value->Prop} (h:Dw.valk s tv q) :∃v,tv.val s=some v/\q v:=by
 unfold Dw.valk at h;cases tv with
 | v x=>exact⟨x,rfl,h⟩
 | bx i off=>
  simp only[TV.val];cases hs:m8 s i with
  | none=>simp[hs] at h
  | some c=>cases c <;> simp[hs] at h ⊢;exact h
 | bs i n=>
  simp only[TV.val];cases hs:m8 s i with
  | none=>simp[hs] at h
  | some c=>cases c <;> simp[hs] at h ⊢;exact h
section
variable {n:Nat} {t:Tm} {s:List Ch} {a:Act}
def AX (t:Tm) (s:List Ch) (a:Act):Prop:=∀i tv v,dS t i=some tv->tv.val s=some v->a.tmps[i]?=some v
theorem Fr.w (hf:Fr n t s a):AX t s a:=λi tv v h1 h2=>by
 obtain⟨v',h3,h4⟩:=hf.2.2 i tv h1;rw[h2] at h3;cases h3;exact h4
theorem QP {tv:TV} {p:Prop} (h:Jz s tv p):(∃v,tv.val s=some v)/\p:=by
 unfold Jz at h;cases tv with
 | v x=>exact⟨⟨x,rfl⟩,h⟩
 | bx i off=>
  simp only[TV.val];cases hs:m8 s i with
  | none=>simp[hs] at h
  | some c=>cases c <;> simp[hs] at h ⊢;exact h
 | bs i n=>
  simp only[TV.val];cases hs:m8 s i with
  | none=>simp[hs] at h
  | some c=>cases c <;> simp[hs] at h ⊢;exact h
theorem AX.tvk (hf:AX t s a) {x:Operand} {q:TV->Prop} (h:Dw.tvk s t x q) :∃tv,tv.val s=some (a.eval x)/\q tv:=by
 unfold Dw.tvk at h;cases ho:YA t x with
 | none=>simp[ho] at h
 | some tv=>
  simp only[ho] at h;obtain⟨⟨v,h1⟩,h2⟩:=QP h;refine⟨tv,?_,h2⟩;rw[h1];cases x with
  | tmp i=>have:=hf i tv v ho h1;simp[Act.eval,this]
  | const v=>simp[YA] at ho;subst ho;simpa [TV.val,Act.eval] using h1.symm
  | global g=>simp[YA] at ho;subst ho;simpa [TV.val,Act.eval] using h1.symm
  | func f=>simp[YA] at ho;subst ho;simpa [TV.val,Act.eval] using h1.symm
theorem AX.val (hf:AX t s a) {x:Operand} {q:Value->Prop} (h:Dw.val s t x q):q (a.eval x):=by
 obtain⟨tv,h1,h2⟩:=hf.tvk h;obtain⟨v,h3,h4⟩:=TV.valk h2;rw[h1] at h3;cases h3;exact h4
theorem AX.vals (hf:AX t s a) :∀{xs:List Operand} {q:List Value->Prop},Dw.vals s t xs q->q (xs.map a.eval)
 | [],_,h=>h
 | x::xs,q,h=>AX.vals hf (xs:=xs) (q:=λvs=>q (a.eval x::vs)) (AX.val hf (x:=x) (q:=λv=>Dw.vals s t xs λvs=>q (v::vs)) h)
theorem jK (d:Nat) (tv:TV) (t:Tm) (i:Nat):dS ((d,tv)::t) i=if d=i then some tv else dS t i:=by
 simp only[dS];by_cases h:d=i
 ·subst h;simp
 ·have:X3 d i=false:=by cases e:X3 d i with
   | false=>rfl
   | true=>exact absurd (J4 e) h
  simp[this,h]
theorem Fr.keep {s':List Ch} (hf:Fr n t s a) (hk:J6 s s'):Fr n t s' a:=
 ⟨hf.1,hf.2.1,λi tv h=>let ⟨v,h1,h2⟩:=hf.2.2 i tv h;⟨v,hk _ _ h1,h2⟩⟩
theorem Fr.put (hf:Fr n t s a) {d:Nat} {tv:TV} {v:Value} (hv:tv.val s=some v) (hd:d < n):Fr n ((d,tv)::t) s (a.put (some d) v):=by
 refine⟨by simp[Act.put,hf.1],hf.2.1,λi tv' h=>?_⟩;rw[jK] at h;split at h
 ·rename_i hi;subst hi;cases h
  exact⟨v,hv,by simp[Act.put,hf.1,hd]⟩
 ·rename_i hi
  obtain⟨v',h1,h2⟩:=hf.2.2 i tv' h;exact⟨v',h1,by simp[Act.put,Array.getElem?_setIfInBounds_ne hi,h2]⟩
theorem Fr.putk (hf:Fr n t s a) {dst:Option Nat} {tv:TV} {v:Value} (hv:tv.val s=some v) {q:Tm->Prop} (h:Dw.putk n t dst tv q) :∃t',q t'/\Fr n t' s (a.put dst v):=by
 cases dst with
 | none=>exact⟨t,h,hf⟩
 | some d=>
  simp only[Dw.putk] at h;cases hd:PB d n with
  | false=>simp[hd] at h
  | true=>
   simp only[hd] at h;exact⟨_,h,hf.put hv (by simpa [Lp] using hd)⟩
theorem Fr.know (hf:Fr n t s a) {d:Nat} {b b':Bool} (h:dS t d=some (.v (.bool b))) (hb:b=b'):Fr n ((d,.v (.bool b'))::t) s a:=by
 subst hb;refine⟨hf.1,hf.2.1,λi tv' h'=>?_⟩;rw[jK] at h';split at h'
 ·rename_i hi;subst hi;cases h';exact hf.2.2 _ _ h
 ·exact hf.2.2 _ _ h'
end
theorem J6.refl (s:List Ch):J6 s s:=λ_ _ h=>h
theorem J6.trans {a b c:List Ch} (h:J6 a b) (k:J6 b c):J6 a c:=λ_ _ e=>k _ _ (h _ _ e)
theorem J6.app (s cs:List Ch):J6 s (s++cs):=by
 intro tv v h;have hl :∀i c,m8 s i=some c->m8 (s++cs) i=some c:=λi c e=>by
  rw[H3,if_pos]
  ·exact e
  ·rw[J7] at e;exact (q9.1 e).1
 cases tv with
 | v x=>exact h
 | bx i off=>
  simp only[TV.val] at h ⊢;cases hs:m8 s i with
  | none=>simp[hs] at h
  | some c=>rw[hl i c hs];simpa [hs] using h
 | bs i n=>
  simp only[TV.val] at h ⊢;cases hs:m8 s i with
  | none=>simp[hs] at h
  | some c=>rw[hl i c hs];simpa [hs] using h
theorem J6.set {s:List Ch} {i:Nat} {c c':Ch} (e:m8 s i=some c) (h :∀b cs T,c=.box b cs T->∃cs' T',c'=.box b cs' T'):J6 s (x9 s i c'):=by
 intro tv v hv;have key :∀j,(match m8 s j with | some (.box b _ _)=>some b | _=>none)=none\/(match m8 (x9 s i c') j with | some (.box b _ _)=>some b | _=>none)=(match m8 s j with | some (.box b _ _)=>some b | _=>none):=by
  intro j;rw[F9];by_cases hij:i=j
  ·subst hij;rw[if_pos rfl,e];cases c with
   | hp h=>left;rfl
   | box b cs T=>right;obtain⟨cs',T',rfl⟩:=h b cs T rfl;rfl
  ·right;rw[if_neg hij]
 cases tv with
 | v x=>exact hv
 | bx j off=>
  simp only[TV.val] at hv ⊢;have:=key j;cases hs:m8 s j with
  | none=>simp[hs] at hv
  | some d=>
   cases d with
   | hp h=>simp[hs] at hv
   | box b cs T=>
    simp only[hs] at this hv ⊢;cases hs':m8 (x9 s i c') j with
    | none=>simp[hs'] at this
    | some d'=>cases d' <;> simp[hs'] at this ⊢;subst this;simpa using hv
 | bs j m=>
  simp only[TV.val] at hv ⊢;have:=key j;cases hs:m8 s j with
  | none=>simp[hs] at hv
  | some d=>
   cases d with
   | hp h=>simp[hs] at hv
   | box b cs T=>
    simp only[hs] at this hv ⊢;cases hs':m8 (x9 s i c') j with
    | none=>simp[hs'] at this
    | some d'=>cases d' <;> simp[hs'] at this ⊢;subst this;simpa using hv
theorem iI {v:Value} {q:List Value->Prop} (h:cellsOf v q):q v.cells.toList:=by
 cases v <;> simp only[cellsOf,Value.cells] at h ⊢ <;> first | exact h | skip
 ·rename_i cs
  obtain⟨cs⟩:=cs;rw[aZ] at h;exact h
theorem Addr.add_mk (b off j:Nat):(⟨b,off,none⟩:Addr).add j=⟨b,off+j,none⟩:=by
 unfold Addr.add;split <;> simp_all
theorem tE {s:List Ch} {w:World} (hm:gN s w) {i b:Nat} {cs:List Value} {T:Nat} (h:m8 s i=some (.box b cs T)) {j:Nat} {v:Value} (hj:cs[j]?=some v):w.cell? ⟨b,j,none⟩=some v:=by
 have h1:=hm i _ h b _ (by simp[Ch.h,Hp.one];rfl);simp[World.cell?,h1,hj]
section
variable {X:R5}
theorem Good.und (hX:X.Good) {t:Nat} {i:TI} (h:I2 X.tt t=some i):gZ X.P t i:=hX.2 t i h
theorem gZ.agg {P:Program} {t:Nat} {i:TI} (h:gZ P t i) (w:World):(isAgg t).run P w=.ok i.agg w:=by
 obtain⟨_,hk⟩:=h;have run_und :∀d,P.underlying t=some d->(underlying t).run P w=.ok d w:=λd hd=>by simp[underlying,hd]
 unfold isAgg;cases hi:i.k <;> simp only[hi,XX] at hk <;> simp only[TI.agg,hi]
 case st fs=>obtain⟨fields,h1,_⟩:=hk;simp[run_und _ h1]
 case other=>
  obtain⟨d,h1,h2⟩:=hk;simp[run_und _ h1];cases d <;> simp at h2 ⊢
 all_goals simp[run_und _ hk]
theorem gZ.size {P:Program} {t:Nat} {i:TI} (h:gZ P t i) (w:World):(sizeOf t).run P w=.ok i.size w:=by
 obtain⟨⟨inf,h1,h2,_⟩,_⟩:=h;simp[sizeOf,typeInfo,h1,h2]
theorem gZ.zero {P:Program} {t:Nat} {i:TI} (h:gZ P t i) (w:World) :∃z,(zeroValue t).run P w=.ok z w/\z.cells=i.zero.toArray:=by
 obtain⟨⟨inf,h1,h2,h3,z,h4,h5,_⟩,_⟩:=h;exact⟨z,by simp[zeroValue,typeInfo,h1,h4],h5⟩
theorem gZ.zlen {P:Program} {t:Nat} {i:TI} (h:gZ P t i):i.zero.length=i.size:=by
 obtain⟨⟨inf,h1,h2,h3,z,h4,h5,h6⟩,_⟩:=h;exact h6
theorem vJ {s:List Ch} (hX:X.Good) {i b off T T':Nat} {cs:List Value} (hs:m8 s i=some (.box b cs T')) {q:TV->Prop} (h:jQ X T cs off q) :
  ∃v,q (.v v)/\∀w,gN s w->(loadVar T ⟨b,off,none⟩).run X.P w=.ok v w:=by
 unfold jQ at h;cases ht:I2 X.tt T with
 | none=>simp[ht] at h
 | some ti=>
  simp only[ht] at h;have hg:=Good.und hX ht;cases ha:ti.agg with
  | false=>
   simp only[ha] at h;rw[R8] at h;cases hc:cs[off]? with
   | none=>simp[hc] at h
   | some v=>
    simp only[hc] at h;refine⟨v,h,λw hm=>?_⟩;have:=tE hm hs hc;simp[loadVar,hg.agg,ha,this]
  | true=>
   simp only[ha] at h;cases hb:R0 (off+ti.size) (BC cs) with
   | false=>simp[hb] at h
   | true=>
    simp only[hb] at h;rw[aZ,xX,AC] at h;rw[xA] at hb;have hb':off+ti.size<=cs.length:=E0 hb;refine⟨_,h,λw hm=>?_⟩;have hl:(List.take ti.size (List.drop off cs)).length=ti.size:=by simp;omega
    have:=run_loadCells_list (P:=X.P) w ⟨b,off,none⟩ (List.take ti.size (List.drop off cs)) (λj v hj=>by
     rw[Addr.add_mk];refine tE hm hs ?_;rw[uT] at hj;split at hj
     ·simpa using hj
     ·cases hj)
    rw[hl] at this;simp[loadVar,hg.agg,ha,hg.size,this]
theorem GG (hX:X.Good) {off T:Nat} {cs:List Value} {q:TV->Prop} (h:jQ X T cs off q) :
  ∃v,q (.v v)/\∀w,(part T cs.toArray off).run X.P w=.ok v w:=by
 unfold jQ at h;cases ht:I2 X.tt T with
 | none=>simp[ht] at h
 | some ti=>
  simp only[ht] at h;have hg:=Good.und hX ht;cases ha:ti.agg with
  | false=>
   simp only[ha] at h;rw[R8] at h;cases hc:cs[off]? with
   | none=>simp[hc] at h
   | some v=>
    simp only[hc] at h;exact⟨v,h,λw=>by simp[part,hg.agg,ha,hc]⟩
  | true=>
   simp only[ha] at h;cases hb:R0 (off+ti.size) (BC cs) with
   | false=>simp[hb] at h
   | true=>
    simp only[hb] at h;rw[aZ,xX,AC] at h;refine⟨_,h,λw=>?_⟩;simp[part,hg.agg,ha,hg.size,List.extract_toArray,List.extract_eq_take_drop]
end
end Go.Dw
namespace Go.Dw
open Go Go.RowKit
def MR (P:Program) (s:List Ch) (e:Sem Next) (q:TV->Prop):Prop:=∃tv v,tv.val s=some v/\q tv/\∀w,gN s w->e.run P w=.ok (.value v) w
theorem B7.ok {P:Program} {s:List Ch} {e:Sem Value} {q:TV->Prop} (h:B7 P s e q):MR P s (do pure (.value (<-e))) q:=by
 obtain⟨v,h1,h2⟩:=h;exact⟨.v v,v,rfl,h2,λw hw=>by simp[h1 w hw]⟩
theorem MR.mono {P:Program} {s:List Ch} {e e':Sem Next} {q:TV->Prop} (h:MR P s e q) (he :∀w,e'.run P w=e.run P w):MR P s e' q:=by
 obtain⟨tv,v,h1,h2,h3⟩:=h;exact⟨tv,v,h1,h2,λw hw=>by rw[he,h3 w hw]⟩
theorem IP {P:Program} {w:World} (op:BinOp) (t:TypeId) (x y:Operand) (k j:IntKind) (a b:Int):(eqGuard op t x y (.int k a) (.int j b)).run P w=.ok () w:=by
 unfold eqGuard;split <;> rfl
theorem YM {P:Program} {s:List Ch} {op:BinOp} {ty:Nat} {i:IntKind} {x y:Int} {q:TV->Prop} (h:Cz P s op ty i x y q) :
  MR P s (do pure (.value (<-binOp op ty (.int i x) (.int i y)))) q:=by
 cases op <;> simp only[Cz] at h
 case add=>obtain⟨z,h1,h2⟩:=h;exact⟨_,_,rfl,h2,λw _=>by simp[binOp,Op.intArith,h1]⟩
 case sub=>obtain⟨z,h1,h2⟩:=h;exact⟨_,_,rfl,h2,λw _=>by simp[binOp,Op.intArith,h1]⟩
 case mul=>obtain⟨z,h1,h2⟩:=h;exact⟨_,_,rfl,h2,λw _=>by simp[binOp,Op.intArith,h1]⟩
 case eql=>exact⟨_,_,rfl,h,λw _=>by simp[binOp,Op.intCmp];rfl⟩
 case neq=>exact⟨_,_,rfl,h,λw _=>by simp[binOp,Op.intCmp,bne];rfl⟩
 case lss=>exact⟨_,_,rfl,h,λw _=>by simp[binOp,Op.intCmp]⟩
 case leq=>exact⟨_,_,rfl,h,λw _=>by simp[binOp,Op.intCmp]⟩
 case gtr=>exact⟨_,_,rfl,h,λw _=>by simp[binOp,Op.intCmp]⟩
 case geq=>exact⟨_,_,rfl,h,λw _=>by simp[binOp,Op.intCmp]⟩
 all_goals exact h.ok
theorem YN {P:Program} {s:List Ch} {op:BinOp} {ty:Nat} {xo yo:Operand} {a b:Value} {q:TV->Prop} (h:Da P s op ty xo yo a b q) :
  MR P s (do pure (.value (<-(do eqGuard op ty xo yo a b;binOp op ty a b)))) q:=by
 have gen:B7 P s (do eqGuard op ty xo yo a b;binOp op ty a b) q->MR P s (do pure (.value (<-(do eqGuard op ty xo yo a b;binOp op ty a b)))) q:=λh=>h.ok;cases a <;> cases b <;> simp only[Da] at h <;> try exact gen h
 rename_i i x j y
 by_cases hij:i=j
 ·subst hij;simp only[decide_true] at h;exact (YM h).mono λw=>by simp[IP]
 ·simp only[hij,decide_false] at h;exact gen h
theorem nA {t:Tm} {s:List Ch} {a:Act} (hf:AX t s a) {place:Nat->Option (Nat×Nat)} :
  ∀{parts:List (Nat×Operand)} {cs:List Value} {q:List Value->Prop},oT s t place parts cs q->
  ∃cs':List Value,q cs'/\Instr.fill place cs.toArray (parts.map λp=>(p.1,a.eval p.2))=some cs'.toArray
 | [],cs,q,h=>by simp only[oT,aZ] at h;exact⟨cs,h,rfl⟩
 | (i,x)::r,cs,q,h=>by
  simp only[oT] at h;have h1:=iI (hf.val h);cases hp:place i with
  | none=>simp[hp] at h1
  | some os=>
   obtain⟨off,size⟩:=os;simp only[hp] at h1;cases hb:X3 (BC (a.eval x).cells.toList) size with
   | false=>simp[hb] at h1
   | true=>
    simp only[hb] at h1;cases hl:lZ cs off (a.eval x).cells.toList with
    | none=>simp[hl] at h1
    | some cs'=>
     simp only[hl] at h1;obtain⟨cs'',hq,hfill⟩:=nA hf h1;refine⟨cs'',hq,?_⟩;have hsz:(a.eval x).cells.size=size:=by
      have:=J4 hb;rw[xA] at this;simpa using this
     obtain⟨h2,h3⟩:=wW _ _ _ _ hl;simp only[Array.length_toList] at h2 h3;simp only[N7,Instr.fill,hp];rw[if_neg (by simp[hsz];omega),<-hfill];congr 1
     have key :∀(vs:List Value) (k:Nat) (l:List Value),off+k+vs.length<=l.length->
       (vs.zipIdx k).foldl (λ(cs:Array Value) (p:Value×Nat)=>cs.setIfInBounds (off+p.2) p.1) l.toArray=(l.take (off+k)++vs++l.drop (off+k+vs.length)).toArray:=by
      intro vs;induction vs with
      | nil=>intro k l _;simp
      | cons v vs ih=>
       intro k l hle;simp only[d7] at hle;simp only[List.zipIdx_cons,List.foldl_cons,List.setIfInBounds_toArray];rw[ih (k+1) _ (by simp;omega)];congr 1
       apply O8;intro j;simp only[o6,oM,j8,N8,uT,bV,O7,d7,List.getElem?_cons];have e1:min (off+(k+1)) l.length=off+k+1:=om
       have e2:min (off+k) l.length=off+k:=om
       rw[e1,e2];by_cases c1:j < off+k
       ·simp[c1,show j < off+k+1 by omega,show ¬ off+k=j by omega,show j < off+(k+1) by omega]
       ·by_cases c2:j=off+k
        ·subst c2;simp[show off+k < l.length by omega,show off+k < off+(k+1) by omega]
        ·have c3 : ¬ j < off+k+1:=om
         simp only[c1,c3,if_false];by_cases c4:j - (off+k+1) < vs.length
         ·simp[c4,show j - (off+k)≠0 by omega,show j - (off+k) < vs.length+1 by omega,show j - (off+k) - 1=j - (off+k+1) by omega]
         ·simp only[c4,if_false,show ¬ j - (off+k) < vs.length+1 by omega];rw[if_neg om];congr 1
          omega
     have:=key (a.eval x).cells.toList 0 cs (by simpa using h2);simp only[G3,Array.length_toList] at this;rw[h3,<-this];simp only[<-Array.foldl_toList,Array.toList_zipIdx]
section
variable {X:R5} {t:Tm} {s:List Ch} {a:Act}
theorem zP {T:Nat} {i:TI} (hg:gZ X.P T i) {parts:List (Nat×Operand)} {cs:List Value} {place:Nat->Option (Nat×Nat)}
  (hpl:(∃fs,i.k=.st fs/\place=λj=>match iX fs j with | some (off,ft)=>(match I2 X.tt ft with | some tf=>some (off,tf.size) | none=>none) | none=>none)\/
   (∃m e te,i.k=.ar m e/\I2 X.tt e=some te/\place=λj=>some (j*te.size,te.size)))
  (hX:X.Good) (hfs :∀fs,i.k=.st fs->∀f∈fs,(I2 X.tt f.2).isSome=true)
  (h:Instr.fill place i.zero.toArray (parts.map λp=>(p.1,a.eval p.2))=some cs.toArray) :
  ∀w,(Instr.build T ((parts.map λp=>(p.1,a.eval p.2)).toArray)).run X.P w=.ok (.agg cs.toArray) w:=by
 intro w;obtain⟨z,hz,hzc⟩:=hg.zero w;unfold Instr.build;simp only[Sem.run_bind,hz,Result.andThen_ok];rcases hpl with ⟨fs,hk,rfl⟩ | ⟨m,e,te,hk,hte,rfl⟩
 ·have hk':=hg.2;rw[hk] at hk';obtain⟨fields,h1,h2⟩:=hk';have hu:(underlying T).run X.P w=.ok (.struct fields) w:=by simp[underlying,h1]
  simp only[hu,Result.andThen_ok];have hm :∀(l:List Field),(∀f:Field,f∈l->(I2 X.tt f.type).isSome=true)->∃ps:List (Nat×Nat),(l.mapM (m:=Sem) λ(f:Field)=>do pure (f.offset,<-sizeOf f.type)).run X.P w=.ok ps w/\
    ∀j:Nat,ps[j]?=(match (l[j]?:Option Field) with | some f=>(match I2 X.tt f.type with | some tf=>some (f.offset,tf.size) | none=>none) | none=>none):=by
   intro l;induction l with
   | nil=>intro _;exact⟨[],sQ,λj=>by simp⟩
   | cons f l ih=>
    intro hl;obtain⟨ps,hp1,hp2⟩:=ih λg hg=>hl g (A9 _ hg);obtain⟨tf,htf⟩:=Mz.1 (hl f (bU));have:=(Good.und hX htf).size w;refine⟨(f.offset,tf.size)::ps,by simp only[List.mapM_cons,Sem.run_bind,this,Result.andThen_ok,Sem.run_pure,hp1],λj=>?_⟩;cases j with
    | zero=>simp[htf]
    | succ j=>simpa using hp2 j
  have hall :∀f:Field,f∈fields.toList->(I2 X.tt f.type).isSome=true:=by
   intro f hf;have:(f.offset,f.type)∈fs:=by rw[<-h2];exact G6.2 ⟨f,hf,rfl⟩
   exact hfs fs hk _ this
  obtain⟨ps,hp1,hp2⟩:=hm fields.toList hall;have hps:(fields.mapM (m:=Sem) λ(f:Field)=>do pure (f.offset,<-sizeOf f.type)).run X.P w=.ok ps.toArray w:=by
   rw[Array.mapM_eq_mapM_toList];simp only[Sem.run_map,hp1,Result.andThen_ok]
  rw[Sem.run_bind,hps];simp only[Result.andThen_ok,hzc];have hpl:(λi=>ps.toArray[i]?)=λj=>match iX fs j with | some (off,ft)=>(match I2 X.tt ft with | some tf=>some (off,tf.size) | none=>none) | none=>none:=by
   funext j
   simp only[List.getElem?_toArray,hp2,R8,<-h2,G7];cases fields.toList[j]? <;> simp
  rw[hpl,h];rfl
 ·have hk':=hg.2;rw[hk] at hk';have hu:(underlying T).run X.P w=.ok (.array m e) w:=by simp[underlying,show X.P.underlying T=_ from hk']
  have hs:=(Good.und hX hte).size w;simp only[hu,Result.andThen_ok,Sem.run_bind,hs,hzc,h];rfl
end
end Go.Dw
namespace Go.Dw
open Go Go.RowKit
theorem vP (X:R5) :∀(fs:List (Nat×Nat)),HN X fs=true->∀f∈fs,(I2 X.tt f.2).isSome=true
 | [],_,f,hf=>by cases hf
 | (o,ft)::r,h,f,hf=>by
  simp only[HN] at h;cases ht:I2 X.tt ft with
  | none=>simp[ht] at h
  | some ti=>
   simp only[ht] at h;rcases A8.1 hf with rfl | hf
   ·simp[ht]
   ·exact vP X r h f hf
theorem qR {s:List Ch} {i off:Nat} {v:Value} (h:TV.val s (.bx i off)=some v) :∃b cs T,m8 s i=some (.box b cs T)/\v=.pointer (some ⟨b,off,none⟩):=by
 simp only[TV.val] at h;cases hs:m8 s i with
 | none=>simp[hs] at h
 | some c=>
  cases c with
  | hp _=>simp[hs] at h
  | box b cs T=>simp[hs] at h;exact⟨b,cs,T,rfl,h.symm⟩
theorem NG {s:List Ch} {i n:Nat} {v:Value} (h:TV.val s (.bs i n)=some v) :∃b cs T,m8 s i=some (.box b cs T)/\v=.slice (some ⟨b,0,none⟩) n n:=by
 simp only[TV.val] at h;cases hs:m8 s i with
 | none=>simp[hs] at h
 | some c=>
  cases c with
  | hp _=>simp[hs] at h
  | box b cs T=>simp[hs] at h;exact⟨b,cs,T,rfl,h.symm⟩
section
variable {X:R5} {t:Tm} {s:List Ch} {a:Act}
theorem vH {P:Program} (e:Sem Value) (w:World) (v:Value) (h:e.run P w=.ok v w):(do pure (Next.value (<-e)):Sem Next).run P w=.ok (.value v) w:=by simp[h]
theorem YJ (hX:X.Good) (hf:AX t s a) {o:Oper} {T:Nat} {x:Operand} (ho:o.op=.load T x) {q:TV->Prop} (h:wq X s t (.load T x) q):MR X.P s (execOp a.eval o) q:=by
 obtain⟨tv,h1,h2⟩:=hf.tvk h;cases tv with
 | v p=>
  simp only[TV.val,m9] at h1;subst h1;exact (B7.ok h2).mono λw=>by simp only[execOp,ho]
 | bx i off=>
  obtain⟨b,cs,T',hs,hv⟩:=qR h1;simp only[hs] at h2;obtain⟨v,hq,hrun⟩:=vJ hX hs h2;refine⟨.v v,v,rfl,hq,λw hw=>?_⟩;simp only[execOp,ho,hv,Instr.loadAt,Instr.sureAddr];exact vH _ w _ (by simp[hrun w hw])
 | bs i m=>exact h2.elim
theorem DH (hX:X.Good) (hf:AX t s a) {o:Oper} {S f:Nat} {x:Operand} (ho:o.op=.fieldAddr S x f) {q:TV->Prop} (h:wq X s t (.fieldAddr S x f) q):MR X.P s (execOp a.eval o) q:=by
 obtain⟨tv,h1,h2⟩:=hf.tvk h;cases ht:I2 X.tt S with
 | none=>simp[ht] at h2
 | some ti=>
  obtain⟨k,sz,by',z⟩:=ti;cases k <;> simp only[ht] at h2
  rename_i fs
  cases hl:iX fs f with
  | none=>simp[hl] at h2
  | some of=>
   obtain⟨fo,ft⟩:=of;simp only[hl] at h2;cases ht2:I2 X.tt ft with
   | none=>simp[ht2] at h2
   | some tf=>
    obtain⟨kf,szf,byf,zf⟩:=tf;cases szf with
    | zero=>simp[ht2] at h2
    | succ m=>
     simp only[ht2] at h2;obtain⟨_,fields,hu,hfs⟩:=Good.und hX ht;have hfld :∃fl:Field,fields[f]?=some fl/\fl.offset=fo/\fl.type=ft:=by
      rw[R8,<-hfs,G7] at hl;cases hx:fields.toList[f]? with
      | none=>simp[hx] at hl
      | some fl=>
       simp[hx] at hl;exact⟨fl,by simpa using hx,hl.1,hl.2⟩
     obtain⟨fl,hf1,hf2,hf3⟩:=hfld;have hsz:=λw=>(Good.und hX ht2).size w;have key :∀b off w,(Instr.fieldAt S (.pointer (some ⟨b,off,none⟩)) f).run X.P w=.ok (.pointer (some ⟨b,off+fo,none⟩)) w:=by
      intro b off w;have hun:(underlying S).run X.P w=.ok (.struct fields) w:=by simp[underlying,hu]
      simp only[Instr.fieldAt,Sem.run_bind,hun,Result.andThen_ok,hf1,Instr.sureAddr,Sem.run_pure,fieldPlace,hf3,hsz];simp[Addr.add_mk,hf2]
     cases tv with
     | bx i off=>
      obtain⟨b,cs,T',hs,hv⟩:=qR h1;refine⟨.bx i (off+fo),.pointer (some ⟨b,off+fo,none⟩),by simp[TV.val,hs],h2,λw _=>?_⟩;simp only[execOp,ho,hv];exact vH _ w _ (key b off w)
     | bs i m=>exact h2.elim
     | v p=>
      simp only[TV.val,m9] at h1;cases p <;> try exact h2.elim
      rename_i p
      cases p with
      | none=>exact h2.elim
      | some ad=>
       obtain⟨b,off,sp⟩:=ad;cases sp with
       | some _=>exact h2.elim
       | none=>
        refine⟨_,_,rfl,h2,λw _=>?_⟩;simp only[execOp,ho,<-h1];exact vH _ w _ (key b off w)
theorem DG (hX:X.Good) (hf:AX t s a) {o:Oper} {S:Nat} {x ix:Operand} (ho:o.op=.indexAddr S x ix) {q:TV->Prop} (h:wq X s t (.indexAddr S x ix) q):MR X.P s (execOp a.eval o) q:=by
 have h0:=hf.val h;obtain⟨tv,h1,h2⟩:=hf.tvk h0;have gen:valk s tv (λa'=>B7 X.P s (Instr.indexAt S a' (a.eval ix)) q)->MR X.P s (execOp a.eval o) q:=by
  intro hg;obtain⟨v,h3,h4⟩:=TV.valk hg;rw[h1] at h3;cases h3;exact (B7.ok h4).mono λw=>by simp only[execOp,ho]
 cases ht:I2 X.tt S with
 | none=>simp only[ht] at h2;exact gen h2
 | some ti=>
  obtain⟨k,sz,by',z⟩:=ti;cases k <;> simp only[ht] at h2 <;> try exact gen h2
  rename_i len e
  cases hte:I2 X.tt e with
  | none=>simp[hte] at h2
  | some te=>
   simp only[hte] at h2;cases hiv:a.eval ix <;> simp only[hiv] at h2 gen <;> try exact h2.elim
   rename_i k m
   cases tv with
   | v _=>exact gen h2
   | bs _ _=>exact gen h2
   | bx i off=>
    simp only[] at h2;cases m with
    | negSucc _=>exact gen h2
    | ofNat m=>
     simp only[] at h2;cases hb:PB m len with
     | false=>simp only[hb] at h2;exact gen h2
     | true=>
      simp only[hb] at h2;obtain⟨b,cs,T',hs,hv⟩:=qR h1;have hlt:m < len:=by simpa [Lp] using hb
      refine⟨.bx i (off+m*te.size),.pointer (some ⟨b,off+m*te.size,none⟩),by simp[TV.val,hs],h2,λw _=>?_⟩;have hu:=(Good.und hX ht).2;have hun:(underlying S).run X.P w=.ok (.array len e) w:=by simp[underlying,show X.P.underlying S=_ from hu]
      have hsz:=(Good.und hX hte).size w;simp only[execOp,ho,hv,hiv];refine vH _ w _ ?_;simp only[Instr.indexAt,asIntOf,Sem.run_bind,Sem.run_pure,Result.andThen_ok,hun,Instr.sureAddr];have c:(0:Int)<=Int.ofNat m/\Int.ofNat m < (len:Int):=⟨S4 m,by simp;omega⟩
      rw[if_pos c];simp[hsz,Addr.add_mk]
end
end Go.Dw
namespace Go.Dw
open Go Go.RowKit
section
variable {X:R5} {t:Tm} {s:List Ch} {a:Act}
theorem Mu {α β:Type} (o:Option α) (f:α->β):(o.toList.map f).head?=o.map f:=by cases o <;> rfl
theorem NC (hX:X.Good) (hf:AX t s a) {o:Oper} (hq:SP o.op=true) {q:TV->Prop} (h:wq X s t o.op q):MR X.P s (execOp a.eval o) q:=by
 obtain⟨dst,op,ty,pos,after,guard⟩:=o;have ho:(Oper.mk dst op ty pos after guard).op=op:=rfl;rw[ho] at hq h;cases op <;> first | (exfalso;simp[SP] at hq;done) | skip
 case move x=>
  obtain⟨tv,h1,h2⟩:=hf.tvk h;exact⟨tv,_,h1,h2,λw _=>rfl⟩
 case assign x=>
  obtain⟨tv,h1,h2⟩:=hf.tvk h;exact⟨tv,_,h1,h2,λw _=>rfl⟩
 case pick c x y=>
  have h1:=hf.val h;cases hc:a.eval c <;> simp only[hc] at h1 <;> try exact h1.elim
  rename_i b
  cases b with
  | true=>obtain⟨tv,h2,h3⟩:=hf.tvk (show tvk s t x q from h1);exact⟨tv,_,h2,h3,λw _=>by simp[execOp,hc,asBool]⟩
  | false=>obtain⟨tv,h2,h3⟩:=hf.tvk (show tvk s t y q from h1);exact⟨tv,_,h2,h3,λw _=>by simp[execOp,hc,asBool]⟩
 case load T x=>exact YJ hX hf rfl h
 case nilCheck x=>
  obtain⟨tv,h1,h2⟩:=hf.tvk h;cases tv with
  | bx i off=>
   obtain⟨b,cs,T',hs,hv⟩:=qR h1;exact⟨.bx i off,_,h1,h2,λw _=>by simp[execOp,hv]⟩
  | bs _ _=>exact h2.elim
  | v p=>
   simp only[TV.val,m9] at h1;cases p <;> try exact h2.elim
   rename_i p
   cases p with
   | none=>exact h2.elim
   | some p=>exact⟨_,_,rfl,h2,λw _=>by simp[execOp,<-h1]⟩
 case binOp bo ty x y ty'=>
  have h1:=hf.val (hf.val h);exact (YN h1).mono λw=>by simp only[execOp]
 case unOp uo ty x=>
  have h1:=hf.val h;have gen:B7 X.P s (Op.unary uo (a.eval x)) q->MR X.P s (execOp a.eval ⟨dst,.unOp uo ty x,ty,pos,after,guard⟩) q:=λhn=>(B7.ok hn).mono λw=>by simp only[execOp]
  cases uo <;> cases hx:a.eval x <;> simp only[hx] at h1 gen <;> try exact gen h1
  ·obtain⟨z,h2,h3⟩:=h1;exact⟨_,_,rfl,h3,λw _=>by simp only[execOp,hx,Op.unary,Op.intArith,Sem.run_bind,Sem.run_pure,Result.andThen_ok,h2]⟩
  ·exact⟨_,_,rfl,h1,λw _=>by simp[execOp,hx,Op.unary]⟩
 case convert S T x=>
  have h1:=hf.val h;have gen:B7 X.P s (convert S T (a.eval x)) q->MR X.P s (execOp a.eval ⟨dst,.convert S T x,ty,pos,after,guard⟩) q:=λhn=>(B7.ok hn).mono λw=>by simp only[execOp]
  split at h1
  ·rename_i k0 m k1 sz by' z k sz' by'' z' hv hS hT
   obtain⟨zz,h2,h3⟩:=h1;refine⟨_,_,rfl,h3,λw _=>?_⟩;have e1:=(Good.und hX hS).2;have e2:=(Good.und hX hT).2;have u1:(underlying S).run X.P w=.ok (.int k1) w:=by simp[underlying,show X.P.underlying S=_ from e1]
   have u2:(underlying T).run X.P w=.ok (.int k) w:=by simp[underlying,show X.P.underlying T=_ from e2]
   simp only[execOp,hv];refine vH _ w _ ?_;simp[convert,u1,u2,Conv.intToInt,h2]
  ·exact gen h1
 case fieldAddr S x f=>exact DH hX hf rfl h
 case field S x f=>
  have h1:=hf.val h;split at h1
  ·rename_i cs fs sz by' z hv hS
   cases hl:iX fs f with
   | none=>simp[hl] at h1
   | some of=>
    obtain⟨fo,ft⟩:=of;simp only[hl] at h1;obtain⟨v,hq',hrun⟩:=GG hX h1;obtain⟨_,fields,hu,hfs⟩:=Good.und hX hS;have hfld :∃fl:Field,fields[f]?=some fl/\fl.offset=fo/\fl.type=ft:=by
     rw[R8,<-hfs,G7] at hl;cases hx:fields.toList[f]? with
     | none=>simp[hx] at hl
     | some fl=>
      simp[hx] at hl;exact⟨fl,by simpa using hx,hl.1,hl.2⟩
    obtain⟨fl,hf1,hf2,hf3⟩:=hfld;refine⟨.v v,v,rfl,hq',λw _=>?_⟩;simp only[execOp,hv];refine vH _ w _ ?_;have hun:(underlying S).run X.P w=.ok (.struct fields) w:=by simp[underlying,hu]
    simp[Instr.field,hun,hf1,asAgg,hf2,hf3,hrun w]
  ·exact h1.elim
 case indexAddr S x ix=>exact DG hX hf rfl h
 case index S x ix=>exact (B7.ok (hf.val (hf.val h))).mono λw=>by simp only[execOp]
 case extract x i=>
  have h1:=hf.val h;split at h1
  ·rename_i vs hv
   rw[R8] at h1;cases hi:vs[i]? with
   | none=>simp[hi] at h1
   | some v=>
    simp only[hi] at h1;exact⟨_,_,rfl,h1,λw _=>by simp[execOp,hv,Instr.extract,hi]⟩
  ·exact h1.elim
 case slice S x lo hi mx=>
  have h1:=hf.vals (hf.vals (hf.vals (hf.val h)));simp only[Mu] at h1;exact (B7.ok h1).mono λw=>by simp only[execOp]
 case makeFunc fn first cap=>
  have h1:=hf.vals (hf.vals h);refine⟨_,_,rfl,h1,λw _=>?_⟩;simp only[execOp,Instr.makeFunc,Sem.run_bind,Sem.run_pure,Result.andThen_ok];congr 3 <;> (apply Array.ext';simp)
 case makeInterface T x=>
  have h1:=hf.val h;cases hT:I2 X.tt T with
  | none=>simp[hT] at h1
  | some ti=>simp only[hT] at h1;exact (B7.ok h1).mono λw=>by simp only[execOp]
 case build T parts=>
  obtain⟨parts⟩:=parts;simp only[wq] at h;split at h
  ·rename_i T' fs sz by' z hT
   cases hk:HN X fs with
   | false=>simp[hk] at h
   | true=>
    simp only[hk] at h;obtain⟨cs,hq',hfill⟩:=nA hf h;refine⟨_,_,rfl,hq',λw _=>?_⟩;simp only[execOp];refine vH _ w _ ?_;have:=zP (a:=a) (Good.und hX hT) (cs:=cs) (parts:=parts) (.inl ⟨fs,rfl,rfl⟩) hX (λfs' hfs' f hf'=>by cases hfs';exact vP X _ hk f hf') hfill w;simpa using this
  ·rename_i T' m e sz by' z hT
   cases hte:I2 X.tt e with
   | none=>simp[hte] at h
   | some te=>
    simp only[hte] at h;obtain⟨cs,hq',hfill⟩:=nA hf h;refine⟨_,_,rfl,hq',λw _=>?_⟩;simp only[execOp];refine vH _ w _ ?_;have:=zP (a:=a) (Good.und hX hT) (cs:=cs) (parts:=parts) (.inr ⟨m,e,te,rfl,hte,rfl⟩) hX (λfs' hfs'=>by cases hfs') hfill w;simpa using this
  ·exact h.elim
 case call c=>
  obtain⟨callee,⟨args⟩,tys⟩:=c;cases callee <;> first | (exfalso;simp[SP] at hq;done) | skip
  rename_i b
  cases b <;> first | (exfalso;simp[SP] at hq;done) | skip
  obtain⟨tys⟩:=tys;match args,tys,hq,h with
  | [x],[T],_,h=>
   simp only[wq] at h;obtain⟨tv,h1,h2⟩:=hf.tvk h;cases hT:I2 X.tt T with
   | none=>simp[hT] at h2
   | some ti=>
    obtain⟨k,sz,by',z⟩:=ti;have hg:=(Good.und hX hT).2;cases k <;> simp only[hT] at h2 <;> try exact h2.elim
    ·have hu :∀w,(underlying T).run X.P w=.ok .string w:=λw=>by simp[underlying,show X.P.underlying T=_ from hg]
     cases tv with
     | v v=>
      simp only[TV.val,m9] at h1;cases v <;> try exact h2.elim
      exact⟨_,_,rfl,h2,λw _=>by simp[execOp,resolve,invoke,builtin,Builtin.len_,<-h1,hu,goInt]⟩
     | bx _ _=>exact h2.elim
     | bs _ _=>exact h2.elim
    ·rename_i e
     have hu :∀w,(underlying T).run X.P w=.ok (.slice e) w:=λw=>by simp[underlying,show X.P.underlying T=_ from hg]
     cases tv with
     | v v=>
      simp only[TV.val,m9] at h1;cases v <;> try exact h2.elim
      exact⟨_,_,rfl,h2,λw _=>by simp[execOp,resolve,invoke,builtin,Builtin.len_,<-h1,hu,goInt]⟩
     | bx _ _=>exact h2.elim
     | bs i m=>
      obtain⟨b,cs,T',hs,hv⟩:=NG h1;exact⟨.v _,_,rfl,h2,λw _=>by simp[execOp,resolve,invoke,builtin,Builtin.len_,hv,hu,goInt]⟩
end
end Go.Dw
namespace Go.Dw
open Go Go.RowKit
def YE (P:Program) (s:List Ch) (o:Oper) (a:Act) (q:TV->List Ch->Prop):Prop:=
 ∀w0 w,Ok w0 s w->∀(K:Act->World->Prop) (Q:Exit->Act->World->Prop),
  (∀tv v s' w',Ok w0 s' w'->J6 s s'->tv.val s'=some v->q tv s'->K (a.put o.dst v) w')->o.wp P a w K Q
theorem YE.of_q {P:Program} {s:List Ch} {o:Oper} {a:Act} {q:TV->List Ch->Prop} (h:MR P s (execOp a.eval o) λtv=>q tv s):YE P s o a q:=by
 obtain⟨tv,v,h1,h2,h3⟩:=h;intro w0 w hok K Q hK;unfold Oper.wp;rw[h3 w hok.mem];exact hK tv v s w hok (J6.refl s) h1 h2
theorem Dv {P:Program} {e:Sem Value} {w w':World} {v:Value} (h:e.run P w=.ok v w'):(do pure (Next.value (<-e)):Sem Next).run P w=.ok (.value v) w':=by simp[h]
theorem I0.ok {P:Program} {s:List Ch} {o:Oper} {a:Act} {e:Sem Value} {q:TV->List Ch->Prop} (h:I0 P s e q)
  (he :∀w,(execOp a.eval o).run P w=(do pure (Next.value (<-e)):Sem Next).run P w):YE P s o a q:=by
 obtain⟨h⟩:=h;intro w0 w hok K Q hK;obtain⟨tv,v,w',s',h1,h2,h3,h4,h5⟩:=h w0 w hok;unfold Oper.wp;rw[he,Dv h1];exact hK tv v s' w' h2 h3 h4 h5
theorem gX.ok {P:Program} {s:List Ch} {o:Oper} {a:Act} {e:Sem Unit} {q:TV->List Ch->Prop} (h:gX P s e λs'=>q (.v undef) s')
  (he :∀w,(execOp a.eval o).run P w=(do e;pure Next.skip:Sem Next).run P w):YE P s o a q:=by
 obtain⟨h⟩:=h;intro w0 w hok K Q hK;obtain⟨w',s',h1,h2,h3,h4⟩:=h w0 w hok;unfold Oper.wp;have:(do e;pure Next.skip:Sem Next).run P w=.ok .skip w':=by simp[h1]
 rw[he,this];exact hK (.v undef) undef s' w' h2 h3 rfl h4
theorem LE {P:Program} {s:List Ch} {o:Oper} {a:Act} {T:Nat} {cs:List Value} {q:TV->List Ch->Prop} {off':Nat->Value} (off:TV) (hoff :∀b,off.val (s++[.box b cs T])=some (off' b))
  (h :∀b,q off (s++[.box b cs T])) (he :∀w,(execOp a.eval o).run P w=.ok (.value (off' w.heap.size)) (w.alloc (.cells cs.toArray T))):YE P s o a q:=by
 intro w0 w hok K Q hK;unfold Oper.wp;rw[he];exact hK off _ _ _ (hok.alloc (.box w.heap.size cs T) (.cells cs.toArray T) rfl) (J6.app s _) (hoff _) (h _)
theorem eQ (s:List Ch) (c:Ch):m8 (s++[c]) s.length=some c:=by rw[J7];simp
theorem Z3 :∀{l:List Value},aB l=true->∀v∈l,v.oneCell'=true
 | [],_,v,h=>by cases h
 | x::r,h,v,hv=>by
  simp only[aB] at h;cases hx:x.oneCell' with
  | false=>simp[hx] at h
  | true=>
   simp only[hx] at h;rcases A8.1 hv with rfl | hv
   ·exact hx
   ·exact Z3 h v hv
theorem EE (z:List Value) :∀n,(Array.range (n*z.length)).map (λi=>z.toArray[i % z.length]!)=(lX n z).toArray:=by
 intro n;apply Array.ext';simp only[Array.toList_map,Array.toList_range];induction n with
 | zero=>simp[lX]
 | succ n ih=>
  rw[Z5,V9,List.range_add,E9,List.map_map];simp only[lX];congr 1
  ·apply O8;intro j;by_cases hj:j < z.length
   ·simp[hj,C9 hj]
   ·simp[hj]
  ·rw[<-ih];apply List.map_congr_left;intro j _;simp
section
variable {X:R5} {t:Tm} {s:List Ch} {a:Act}
theorem SV (hX:X.Good) (hf:AX t s a) {o:Oper} {T:Nat} {x y:Operand} (ho:o.op=.store T x y) {q:TV->List Ch->Prop} (h:we X s t o.type (.store T x y) q):YE X.P s o a q:=by
 obtain⟨tv,h1,h2⟩:=hf.tvk h;have h3:=hf.val h2;cases tv with
 | bs _ _=>exact h3.elim
 | v p=>
  simp only[TV.val,m9] at h1;subst h1;exact gX.ok h3 λw=>by simp only[execOp,ho]
 | bx i off=>
  obtain⟨b,cs,T',hs,hv⟩:=qR h1;simp only[hs] at h3;have h4:=iI h3;cases h5:aB (a.eval y).cells.toList with
  | false=>simp[h5] at h4
  | true=>
   simp only[h5] at h4;cases ht:I2 X.tt T with
   | none=>simp[ht] at h4
   | some ti=>
    simp only[ht] at h4;cases hb:X3 (BC (a.eval y).cells.toList) ti.size with
    | false=>simp[hb] at h4
    | true=>
     simp only[hb] at h4;cases hp:lZ cs off (a.eval y).cells.toList with
     | none=>simp[hp] at h4
     | some cs'=>
      simp only[hp] at h4;rw[aZ] at h4;obtain⟨h6,h7⟩:=wW _ _ _ _ hp;have hsz:(a.eval y).cells.size=ti.size:=by have:=J4 hb;rw[xA] at this;simpa using this
      intro w0 w hok K Q hK;have hblk:w.heap[b]?=some (.cells cs.toArray T' (0,0)):=hok.mem i _ hs b _ (Hp.one_self _ _);have hst:=run_storeCells_at X.P b off T' (a.eval y).cells.toList 0 cs.toArray w hblk (by simpa using h6) (Z3 h5);simp only[G3] at hst;rw[<-h7] at hst;have hrun:(execOp a.eval o).run X.P w=.ok .skip (w.setRow b cs'.toArray):=by
       simp only[execOp,ho,hv,Instr.storeAt,Instr.sureAddr,Sem.run_bind,Sem.run_pure,Result.andThen_ok,storeVar,(Good.und hX ht).size,hsz];simp[hst]
      unfold Oper.wp;rw[hrun];refine hK (.v undef) undef _ _ (hok.upd hs (.box b cs' T') rfl rfl rfl (by simp[World.setRow]) (k8 _) (λk _ hk=>?_) ?_ (λk hk=>?_)) (J6.set hs (λb' cs'' T'' e=>by cases e;exact⟨_,_,rfl⟩)) rfl h4
      ·refine setRow_other w b k _ λe=>?_;subst e;simp[Ch.h,Hp.one] at hk
      ·intro k o' hk;simp only[Ch.h,Hp.one] at hk;split at hk
       ·rename_i e;subst e;cases hk
        exact setRow_heap w k _ _ _ _ hblk
       ·cases hk
      ·left
       simp only[Ch.h,Hp.one] at hk ⊢;split at hk <;> simp_all
theorem Gi (hX : X.Good) (hf : AX t s a) {o : Oper} {q : TV -> List Ch -> Prop} (h : we X s t o.type o.op q) : YE X.P s o a q := by
  cases ho : o.op <;> rw [ho] at h <;> try exact h.elim
  case alloc T =>
    simp only [we] at h
    cases ht : I2 X.tt T with
    | none => simp [ht] at h
    | some ti =>
      simp only [ht] at h
      refine LE (off' := λb => .pointer (some ⟨b, 0, none⟩)) (.bx s.length 0) (λb => by simp [TV.val, eQ]) h λw => ?_
      obtain ⟨z, hz, hzc⟩ := (Good.und hX ht).zero w
      simp [execOp, ho, Instr.alloc, hz, newVar, newRow, hzc]
  case box T x =>
    have h1 := iI (hf.val h)
    refine LE (off' := λb => .pointer (some ⟨b, 0, none⟩)) (.bx s.length 0) (λb => by simp [TV.val, eQ]) h1 λw => ?_
    simp [execOp, ho, Instr.box, newVar, newRow]
  case store T x y => exact SV hX hf ho h
  case buildSlice T m parts =>
    obtain ⟨parts⟩ := parts
    simp only [we] at h
    cases ht : I2 X.tt T with
    | none => simp [ht] at h
    | some ti =>
      obtain ⟨k, sz, by', z⟩ := ti
      cases k <;> simp only [ht] at h <;> try exact h.elim
      rename_i e
      cases hte : I2 X.tt e with
      | none => simp [hte] at h
      | some te =>
        simp only [hte] at h
        cases hb : R0 (m * te.size) 16777216 with
        | false => simp [hb] at h
        | true =>
          simp only [hb] at h
          obtain ⟨cs, hq, hfill⟩ := nA hf h
          refine LE (off' := λb => .slice (some ⟨b, 0, none⟩) m m) (.bs s.length m) (λb => by simp [TV.val, eQ]) hq λw => ?_
          have hu : (underlying T).run X.P w = .ok (.slice e) w := by simp [underlying, show X.P.underlying T = _ from (Good.und hX ht).2]
          have hs := (Good.und hX hte).size w
          obtain ⟨zz, hz, hzc⟩ := (Good.und hX hte).zero w
          have hle : ¬ m * te.size > 16777216 := by have := E0 hb;omega
          have hzl := (Good.und hX hte).zlen
          have hzs : zz.cells.size = te.size := by rw [hzc];simpa using hzl
          have hrep := EE te.zero m
          rw [hzl] at hrep
          by_cases h0 : m * te.size = 0
          · have r0 : Array.range 0 = #[] := rfl
            rw [h0, r0] at hrep
            have h0' : (#[] : Array Value) = (lX m te.zero).toArray := by simpa using hrep
            simp only [execOp, ho, Instr.buildSlice, Sem.run_bind, hu, Result.andThen_ok, hs, h0, if_true, Sem.run_pure]
            have hf' := hfill
            rw [<- h0'] at hf'
            simp [hf', newRow, r0]
          · simp only [execOp, ho, Instr.buildSlice, Sem.run_bind, hu, Result.andThen_ok, hs, hle, if_false, h0, hz, Sem.run_pure, hzc, Z6, hzl, hrep]
            simp [hfill, newRow]
  case makeSlice T l c =>
    exact I0.ok (hf.val (hf.val h)) λw => by simp only [execOp, ho]
  case range T x =>
    exact I0.ok (hf.val h) λw => by simp only [execOp, ho]
  case next x b =>
    exact I0.ok (hf.val h) λw => by simp only [execOp, ho]
  case entry x =>
    exact I0.ok (hf.val h) λw => by simp only [execOp, ho]
  case makeMap T n =>
    cases n with
    | none => exact I0.ok h λw => by simp only [execOp, ho];rfl
    | some n => exact h.elim
  case mapUpdate T m k x =>
    exact gX.ok (hf.val (hf.val (hf.val h))) λw => by simp only [execOp, ho]
  case insert T m k x =>
    exact gX.ok (hf.val (hf.val (hf.val h))) λw => by simp only [execOp, ho]
  case lookup T m k ok =>
    exact I0.ok (hf.val (hf.val h)) λw => by simp only [execOp, ho]
  case call c =>
    obtain ⟨callee, ⟨args⟩, tys⟩ := c
    cases callee with
    | invoke r m =>
      simp only [we] at h
      obtain ⟨h4⟩ := hf.vals (hf.val h)
      intro w0 w hok K Q hK
      obtain ⟨g, fa, h5, h6⟩ := h4 w0 w hok
      have hrun : (execOp a.eval o).run X.P w = .ok (.enter g fa) w := by
        have e : (execOp a.eval o).run X.P w = (callMethod (a.eval r) m (args.map a.eval).toArray).run X.P w := by
          have e2 : (List.map a.eval args).take args.length = List.map a.eval args := u7 sQ
          simp [execOp, ho, resolve, invoke, callMethod, e2]
        rw [e, h5]
      unfold Oper.wp
      rw [hrun]
      refine h6.mono λe w' he => ?_
      obtain ⟨v, s', rfl, h7, h8, h9⟩ := he
      exact hK (.v v) v s' w' h7 h8 rfl h9
    | value f =>
      simp only [we] at h
      obtain ⟨tv, h1, h2⟩ := hf.tvk h
      have h3 := hf.vals h2
      cases tv with
      | bx _ _ => exact h3.elim
      | bs _ _ => exact h3.elim
      | v fv =>
        simp only [TV.val, m9] at h1
        cases fv <;> try exact h3.elim
        rename_i fn first cap
        cases fn <;> try exact h3.elim
        rename_i g
        obtain ⟨first⟩ := first
        obtain ⟨cap⟩ := cap
        simp only [aZ] at h3
        obtain ⟨h4⟩ := h3
        intro w0 w hok K Q hK
        obtain ⟨h5, h6⟩ := h4 w0 w hok
        have hrun : (execOp a.eval o).run X.P w = .ok (.enter g (first ++ args.map a.eval ++ cap).toArray) w := by
          have e : (execOp a.eval o).run X.P w = (callFunc g (first ++ args.map a.eval ++ cap).toArray).run X.P w := by
            simp [execOp, ho, resolve, Deferred.ofValue, invoke, <- h1]
          rw [e, h5]
        unfold Oper.wp
        rw [hrun]
        refine h6.mono λe w' he => ?_
        obtain ⟨v, s', rfl, h7, h8, h9⟩ := he
        exact hK (.v v) v s' w' h7 h8 rfl h9
    | builtin b =>
      by_cases hb : b = .append
      · subst hb
        match args, h with
        | [], h => exact (hf.vals h).elim
        | [_], h => exact (hf.vals h).elim
        | _ :: _ :: _ :: _, h => exact (hf.vals h).elim
        | [x, y], h =>
          obtain ⟨tv, h1, h2⟩ := hf.tvk (hf.val h)
          obtain ⟨yv, h3, h4⟩ := h2
          rw [h1] at h3;cases h3
          exact I0.ok h4 λw => by simp [execOp, ho, resolve, invoke, builtin]
      · have h' : vals s t args λargs => match b with
            | .copy => I0 X.P s (Builtin.copy_ tys o.type args.toArray) q
            | .min => I0 X.P s (Builtin.min_ tys o.type args.toArray) q
            | .max => I0 X.P s (Builtin.max_ tys o.type args.toArray) q
            | .clear => I0 X.P s (Builtin.clear_ tys o.type args.toArray) q
            | .cap => I0 X.P s (Builtin.cap_ tys o.type args.toArray) q
            | _ => False := by
          cases b <;> first | exact absurd rfl hb | exact h
        have h1 := hf.vals h'
        cases b <;> try exact h1.elim
        all_goals exact I0.ok h1 λw => by simp [execOp, ho, resolve, invoke, builtin]
end
end Go.Dw
namespace Go.Dw
open Go Go.RowKit
section
variable {P:Program} {ops:Array Oper} {Q:Exit->Act->World->Prop} {md:Region.Mode} {S:World->Prop} {N:Nat->Prop}
def X6 (P:Program) (md:Region.Mode) (ops:Array Oper) (Q:Exit->Act->World->Prop) (S:World->Prop) (N:Nat->Prop):Nat->Array Bool->Act->World->Prop
 | 0,listed,a,w=>Region.ready md ops listed = []/\Q .normal a w
 | fuel+1,listed,a,w=>
  (Region.ready md ops listed = []->Q .normal a w)/\
  ∀i∈Region.ready md ops listed,wpOp P ops Q i (λa' w'=>(N i->S w')/\X6 P md ops Q S N fuel (listed.setIfInBounds i true) a' w') a w
theorem oS :∀(fuel:Nat) (listed:Array Bool) (a:Act) (w:World),X6 P md ops Q S N fuel listed a w->wpAny P md ops Q fuel listed a w
 | 0,_,_,_,h=>h
 | fuel+1,_,_,_,h=>⟨h.1,λi hi=>wpOp_mono (λa' w' h'=>oS fuel _ a' w' h'.2) (h.2 i hi)⟩
theorem qJ {i:Nat} {oi:Oper} {v:Value} (hi:ops[i]?=some oi) (hsel :∀(j:Nat) (o:Oper) cs b,ops[j]?=some o->o.op≠.select cs b)
  (hQ :∀c a w,Q (.panic c) (a.put oi.dst v) w->Q (.panic c) a w)
  (hN :∀j oj,ops[j]?=some oj->(∀e∈oj.after,Region.binds md e=true->e.on≠i)->N j) :
  ∀(fuel:Nat) (listed:Array Bool) (a:Act) (w:World),
   (∀j oj,ops[j]?=some oj->j≠i->listed.getD j true=false->(∀e∈oj.after,Region.binds md e=true->e.on≠i)->oi.apart ops oj=true)->
   i∈Region.ready md ops listed->YieldsIf P ops S oi v a->S w->
   X6 P md ops Q S N fuel (listed.setIfInBounds i true) (a.put oi.dst v) w->X6 P md ops Q S N (fuel+1) listed a w:=by
 intro fuel;induction fuel with
 | zero=>
  intro listed a w _ hr hy hS H;refine⟨λh=>(by rw[h] at hr;cases hr),λj hj=>?_⟩;by_cases hji:j=i
  ·subst hji;exact hy.wpOp hi hS ⟨λ_=>hS,H⟩
  ·have:=ready_mono hj hji;rw[H.1] at this;cases this
 | succ fuel ih=>
  intro listed a w hfree hr hy hS H;refine⟨λh=>(by rw[h] at hr;cases hr),λj hj=>?_⟩;by_cases hji:j=i
  ·subst hji;exact hy.wpOp hi hS ⟨λ_=>hS,H⟩
  ·have h1:=H.2 j (ready_mono hj hji);obtain⟨hjun,oj,hoj,hall⟩:=mem_ready.1 hj;have hnot :∀e∈oj.after,Region.binds md e=true->e.on≠i:=λe he hb heq=>by
    have h1:=hall e he hb;have h0:=(mem_ready.1 hr).1;rw[heq] at h1;rcases K8 i listed.size with h' | h'
    ·simp[h'] at h0 h1;rw[h0] at h1;cases h1
    ·simp[Array.getElem?_eq_none h'] at h1
   have hNj:=hN j oj hoj hnot;have h2:=wpOp_putIf hoj (hfree j oj hoj hji hjun hnot) (λcs b=>hsel i oi cs b hi) (λcs b=>hsel j oj cs b hoj) hQ hy h1;have hfree' :∀k ok,ops[k]?=some ok->k≠i->(listed.setIfInBounds j true).getD k true=false->
     (∀e∈ok.after,Region.binds md e=true->e.on≠i)->oi.apart ops ok=true:=λk ok hk hki hun hno=>by
    refine hfree k ok hk hki ?_ hno;by_cases hjk:j=k
    ·subst hjk;exact hjun
    ·rw[getD_set_ne true hjk] at hun;exact hun
   refine wpOp_mono (λa' w' h3=>⟨h3.2.1,ih (listed.setIfInBounds j true) a' w' hfree' (ready_mono hr (Ne.symm hji)) h3.1 (h3.2.1 hNj) ?_⟩) h2;rw[Array.setIfInBounds_comm _ _ hji];exact h3.2.2
theorem vA {listed:Array Bool} {a:Act} {w:World} (hr:Region.ready md ops listed = []) (h:Q .normal a w) :
  ∀fuel,X6 P md ops Q S N fuel listed a w
 | 0=>⟨hr,h⟩
 | _+1=>⟨λ_=>h,by rw[hr];simp⟩
end
inductive DT where
 | done
 | take (i:Nat) (k:DT)
 | run (i:Nat) (k:DT)
 | two (i:Nat) (k:DT) (j:Nat) (k':DT)
 | three (i:Nat) (k:DT) (j:Nat) (k':DT) (l:Nat) (k'':DT)
def DT.takes:DT->List Nat
 | .done=>[]
 | .take i k=>i::k.takes
 | .run _ k=>k.takes
 | .two _ k _ k'=>k.takes++k'.takes
 | .three _ k _ k' _ k''=>k.takes++k'.takes++k''.takes
def DT.steps:DT->Nat
 | .done=>0
 | .take _ k=>k.steps+1
 | .run _ k=>k.steps+1
 | .two _ k _ k'=>tI k.steps k'.steps+1
 | .three _ k _ k' _ k''=>tI (tI k.steps k'.steps) k''.steps+1
def DT.ok (ops:Array Oper):DT->Array Bool->Bool
 | .done,l=>(Region.ready .any ops l).isEmpty
 | .take i k,l=>(Region.ready .any ops l).contains i && Region.free .any ops l i && k.ok ops (l.setIfInBounds i true)
 | .run i k,l=>decide (Region.ready .any ops l = [i]) && k.ok ops (l.setIfInBounds i true)
 | .two i k j k',l=>decide (Region.ready .any ops l = [i,j]) && k.ok ops (l.setIfInBounds i true) && k'.ok ops (l.setIfInBounds j true)
 | .three i k j k' m k'',l=>decide (Region.ready .any ops l = [i,j,m]) && k.ok ops (l.setIfInBounds i true) && k'.ok ops (l.setIfInBounds j true) && k''.ok ops (l.setIfInBounds m true)
def DT.fine (ops:List Oper) (d:DT):Bool:=Region.noSelect ops.toArray && R0 d.steps ops.length && d.ok ops.toArray (Array.replicate ops.length false)
def T4 (ops:List Oper) (takes:List Nat) (j:Nat):Bool:=takes.any λi=>match iX ops j with | some o=>!(o.after.toList.any λe=>Region.binds .any e && X3 e.on i) | none=>false
def X8:List Ch->List Ch->Prop
 | [],_=>True
 | _::_,[]=>False
 | c::r,d::r'=>(c=d\/c=.hp Hp.emp)/\X8 r r'
theorem sK {a b:List Ch} (h:X8 a b:=by repeat first | exact trivial | refine⟨.inl rfl,?_⟩ | refine⟨.inr rfl,?_⟩):X8 a b:=h
theorem U6 :∀{s s':List Ch},X8 s s'->∀i c,m8 s i=some c->m8 s' i=some c\/c=.hp Hp.emp
 | [],_,_,i,c,h=>by cases h
 | c::r,d::r',h,i,c',hi=>by
  obtain⟨h1,h2⟩:=h;cases i with
  | zero=>
   simp only[m8,m9] at hi;subst hi;rcases h1 with rfl | rfl
   ·exact .inl rfl
   ·exact .inr rfl
  | succ j=>exact U6 h2 j c' hi
theorem eM :∀s,X8 s s
 | []=>trivial
 | _::r=>⟨.inl rfl,eM r⟩
theorem K9 :∀(s:List Ch) (i:Nat),X8 (x9 s i (.hp Hp.emp)) s
 | [],_=>trivial
 | _::r,0=>⟨.inr rfl,eM r⟩
 | _::r,i+1=>⟨.inl rfl,K9 r i⟩
def aX (ops:List Oper) (takes:List Nat) (i:Nat) (k:DT):Bool:=match T4 ops takes i with | true=>true | false=>(match k.takes with | []=>false | _=>true)
def FL (X:R5) (ops:List Oper) (i:Nat) (need:Bool) (s0:List Ch) (cont:Tm->List Ch->Prop) (t:Tm) (s:List Ch):Prop:=match iX ops i with
 | some o=>aI ops o t
   (λt=>FO X s t o λtv s'=>putk X.n t o.dst tv λt'=>match need with | true=>X8 s0 s'/\cont t' s' | false=>cont t' s')
   (λt=>putk X.n t o.dst (.v undef) λt'=>match need with | true=>X8 s0 s/\cont t' s | false=>cont t' s)
 | none=>False
def dC (X:R5) (ops:List Oper) (takes:List Nat) (s0:List Ch):DT->(Tm->List Ch->Prop)->Tm->List Ch->Prop
 | .done,Q,t,s=>Q t s
 | .take i k,Q,t,s=>match iX ops i with
  | some o=>match SP o.op with
   | true=>aI ops o t
    (λt=>wq X s0 t o.op λtv=>putk X.n t o.dst tv λt'=>dC X ops takes s0 k Q t' s)
    (λt=>putk X.n t o.dst (.v undef) λt'=>dC X ops takes s0 k Q t' s)
   | false=>False
  | none=>False
 | .run i k,Q,t,s=>FL X ops i (aX ops takes i k) s0 (λt s=>dC X ops takes s0 k Q t s) t s
 | .two i k j k',Q,t,s=>FL X ops i (aX ops takes i k) s0 (λt s=>dC X ops takes s0 k Q t s) t s/\FL X ops j (aX ops takes j k') s0 (λt s=>dC X ops takes s0 k' Q t s) t s
 | .three i k j k' m k'',Q,t,s=>FL X ops i (aX ops takes i k) s0 (λt s=>dC X ops takes s0 k Q t s) t s/\FL X ops j (aX ops takes j k') s0 (λt s=>dC X ops takes s0 k' Q t s) t s/\FL X ops m (aX ops takes m k'') s0 (λt s=>dC X ops takes s0 k'' Q t s) t s
section
variable {X:R5} {n:Nat} {t:Tm} {s:List Ch} {a:Act}
theorem S8 {all:List Oper} {o:Oper} {yes no:Tm->Prop} (hf:Fr n t s a) (h:aI all o t yes no) :
  (Region.wanted o (yielded all.toArray a.tmps)=true/\∃t',Fr n t' s a/\yes t')\/(Region.wanted o (yielded all.toArray a.tmps)=false/\∃t',Fr n t' s a/\no t'):=by
 unfold aI at h;cases hg:o.guard with
 | none=>simp only[hg] at h;exact .inl ⟨by simp[Region.wanted,hg],t,hf,h⟩
 | some jw=>
  obtain⟨j,want⟩:=jw;simp only[hg] at h;cases hs:jB all j with
  | none=>simp[hs] at h
  | some d=>
   simp only[hs] at h;cases ha:dS t d with
   | none=>simp[ha] at h
   | some tv=>
    simp only[ha] at h;cases tv with
    | bx _ _=>exact h.elim
    | bs _ _=>exact h.elim
    | v x=>
     have hun:(∀b,x≠.bool b)->yielded all.toArray a.tmps j=none:=by
      intro hx;obtain⟨v,h1,h2⟩:=hf.2.2 d _ ha;simp only[TV.val,m9] at h1;subst h1;unfold jB at hs;rw[R8] at hs;unfold yielded;cases hl:all[j]? with
      | none=>simp[hl] at hs
      | some oj=>
       simp only[hl] at hs;simp only[List.getElem?_toArray,hl,Option.bind_some,hs,h2];cases x <;> first | rfl | exact absurd rfl (hx _)
     cases x <;> try exact h.elim
     case tuple=>exact .inr ⟨by simp[Region.wanted,hg,hun (λb e=>by cases e)],t,hf,h⟩
     rename_i b
     have hy:yielded all.toArray a.tmps j=some b:=by
      obtain⟨v,h1,h2⟩:=hf.2.2 d _ ha;simp only[TV.val,m9] at h1;subst h1;unfold jB at hs;rw[R8] at hs;unfold yielded;cases hl:all[j]? with
      | none=>simp[hl] at hs
      | some oj=>
       simp only[hl] at hs;simp[hl,hs,h2]
     have hw:Region.wanted o (yielded all.toArray a.tmps)=(b==want):=by simp[Region.wanted,hg,hy]
     rw[hw];cases b <;> cases want <;> simp only[Cn] at h
     ·exact .inl ⟨rfl,_,hf.know ha rfl,h⟩
     ·exact .inr ⟨rfl,_,hf.know ha rfl,h⟩
     ·exact .inr ⟨rfl,_,hf.know ha rfl,h⟩
     ·exact .inl ⟨rfl,_,hf.know ha rfl,h⟩
theorem DK (hX:X.Good) (hf:Fr n t s a) {o:Oper} {q:TV->List Ch->Prop} (h:FO X s t o q):YE X.P s o a q:=by
 unfold FO at h;cases hq:SP o.op with
 | true=>simp only[hq] at h;exact YE.of_q (NC hX hf.w hq h)
 | false=>simp only[hq] at h;exact Gi hX hf.w h
theorem DJ (hX:X.Good) {all:List Oper} {w0:World} {Q:Exit->Act->World->Prop} {q:Tm->List Ch->Prop} (hQ :∀t s a w,Fr X.n t s a->Ok w0 s w->q t s->Q .normal a w) :
  ∀(ops:List Oper) (t:Tm) (s:List Ch) (a:Act) (w:World),Q7 X all ops q t s->Fr X.n t s a->Ok w0 s w->wpList X.P all.toArray Q ops a w
 | [],t,s,a,w,h,hf,hok=>wpList_nil (hQ t s a w hf hok h)
 | o::r,t,s,a,w,h,hf,hok=>by
  refine wpList_step λK hK=>?_;rcases S8 hf h with ⟨hw,t',hf',hy⟩ | ⟨hw,t',hf',hn⟩
  ·rw[if_pos hw];refine DK hX hf' hy w0 w hok K Q λtv v s' w' hok' hk hv hp=>?_;obtain⟨t'',h1,h2⟩:=(hf'.keep hk).putk hv hp;exact hK _ _ (DJ hX hQ r t'' s' _ w' h1 h2 hok')
  ·rw[if_neg (by rw[hw];simp)];obtain⟨t'',h1,h2⟩:=hf'.putk (tv:=.v undef) rfl hn;exact hK _ _ (DJ hX hQ r t'' s _ w h1 h2 hok)
theorem SW (hX:X.Good) {ops:List Oper} {takes:List Nat} {w0:World} {Q:Exit->Act->World->Prop} {q:Tm->List Ch->Prop} {s0:List Ch}
  (hQ :∀t s a w,Fr X.n t s a->Ok w0 s w->q t s->Q .normal a w) (hP :∀c a w,¬ Q (.panic c) a w) (hsel:Region.noSelect ops.toArray=true) :
  ∀(d:DT) (fuel:Nat) (listed:Array Bool) (t:Tm) (s:List Ch) (a:Act) (w:World),d.steps<=fuel->d.ok ops.toArray listed=true->(∀i∈d.takes,i∈takes)->
   dC X ops takes s0 d q t s->Fr X.n t s a->Ok w0 s w->(d.takes≠[]->X8 s0 s)->
   X6 X.P .any ops.toArray Q (gN s0) (λj=>T4 ops takes j=true) fuel listed a w:=by
 have hP' :∀(oi:Oper) (v:Value) c a w,Q (.panic c) (a.put oi.dst v) w->Q (.panic c) a w:=λ_ _ c _ w h=>absurd h (hP c _ w);have subval :∀{s s':List Ch},X8 s s'->∀tv v,TV.val s tv=some v->TV.val s' tv=some v:=by
  intro s s' hs tv v hv;cases tv with
  | v x=>exact hv
  | bx i off=>
   obtain⟨b,cs,T,h1,h2⟩:=qR hv;simp[TV.val,(U6 hs i _ h1).resolve_right (λe=>by cases e),h2]
  | bs i n=>
   obtain⟨b,cs,T,h1,h2⟩:=NG hv;simp[TV.val,(U6 hs i _ h1).resolve_right (λe=>by cases e),h2]
 have sub_mem :∀{s:List Ch} {w:World},X8 s0 s->Ok w0 s w->gN s0 w:=λhs hok i c e=>by
  rcases U6 hs i c e with h | rfl
  ·exact hok.mem i c h
  ·exact Hp.emp_in _
 have runc :∀(i:Nat) (k:DT) (fuel:Nat) (listed:Array Bool) (t:Tm) (s:List Ch) (a:Act) (w:World),
   (∀(t:Tm) (s:List Ch) (a:Act) (w:World),dC X ops takes s0 k q t s->Fr X.n t s a->Ok w0 s w->(k.takes≠[]->X8 s0 s)->
    X6 X.P .any ops.toArray Q (gN s0) (λj=>T4 ops takes j=true) fuel (listed.setIfInBounds i true) a w)->
   FL X ops i (aX ops takes i k) s0 (λt s=>dC X ops takes s0 k q t s) t s->Fr X.n t s a->Ok w0 s w->
   wpOp X.P ops.toArray Q i (λa' w'=>(T4 ops takes i=true->gN s0 w')/\X6 X.P .any ops.toArray Q (gN s0) (λj=>T4 ops takes j=true) fuel (listed.setIfInBounds i true) a' w') a w:=by
  intro i k fuel listed t s a w ih h hf hok;unfold FL at h;rw[R8] at h;cases ho:ops[i]? with
  | none=>simp[ho] at h
  | some o=>
   simp only[ho] at h;have fin :∀{t':Tm} {s':List Ch} {a':Act} {w':World},(match aX ops takes i k with | true=>X8 s0 s'/\dC X ops takes s0 k q t' s' | false=>dC X ops takes s0 k q t' s')->
     Fr X.n t' s' a'->Ok w0 s' w'->(T4 ops takes i=true->gN s0 w')/\X6 X.P .any ops.toArray Q (gN s0) (λj=>T4 ops takes j=true) fuel (listed.setIfInBounds i true) a' w':=by
    intro t' s' a' w' hm hf' hok';cases hn:aX ops takes i k with
    | true=>
     simp only[hn] at hm;exact⟨λ_=>sub_mem hm.1 hok',ih t' s' a' w' hm.2 hf' hok' λ_=>hm.1⟩
    | false=>
     simp only[hn] at hm;unfold aX at hn;cases hs:T4 ops takes i with
     | true=>simp[hs] at hn
     | false=>
      simp only[hs] at hn;refine⟨(λh=>by cases h),ih t' s' a' w' hm hf' hok' λhk=>?_⟩;cases hkk:k.takes with
      | nil=>exact absurd hkk hk
      | cons x xs=>simp[hkk] at hn
   unfold wpOp;have ho':ops.toArray[i]?=some o:=by simpa using ho
   simp only[ho'];rcases S8 hf h with ⟨hw,t',hf',hy⟩ | ⟨hw,t',hf',hn⟩
   ·rw[if_pos hw];refine .inl (DK hX hf' hy w0 w hok _ Q λtv v s' w' hok' hk hv hp=>?_);obtain⟨t'',h1,h2⟩:=(hf'.keep hk).putk hv hp;exact fin h1 h2 hok'
   ·rw[if_neg (by rw[hw];simp)];obtain⟨t'',h1,h2⟩:=hf'.putk (tv:=.v undef) rfl hn;exact fin h1 h2 hok
 intro d;induction d with
 | done=>
  intro fuel listed t s a w _ hok _ h hf hw _;exact vA (by simpa [DT.ok] using hok) (hQ t s a w hf hw h) fuel
 | take i k ih=>
  intro fuel listed t s a w hst hok htk h hf hw hsub;have hs0:X8 s0 s:=hsub (by simp[DT.takes]);cases fuel with
  | zero=>simp[DT.steps] at hst
  | succ fuel=>
   simp only[DT.ok,k6] at hok;obtain⟨⟨hr,hfree⟩,hk⟩:=hok;simp only[dC] at h;rw[R8] at h;cases ho:ops[i]? with
   | none=>simp[ho] at h
   | some o=>
    simp only[ho] at h;have ho':ops.toArray[i]?=some o:=by simpa using ho
    cases hq:SP o.op with
    | false=>simp[hq] at h
    | true=>
     simp only[hq] at h;have main :∀(v:Value) (t'':Tm),YieldsIf X.P ops.toArray (gN s0) o v a->Fr X.n t'' s (a.put o.dst v)->dC X ops takes s0 k q t'' s->
       X6 X.P .any ops.toArray Q (gN s0) (λj=>T4 ops takes j=true) (fuel+1) listed a w:=by
      intro v t'' hy hf'' hd;refine qJ ho' (Region.noSelect_spec hsel) (hP' o v) (λj oj hj hno=>?_) fuel listed a w (Region.free_spec ho' hfree) (by simpa using hr) hy (sub_mem hs0 hw)
       (ih fuel _ t'' s _ w (by simp[DT.steps] at hst;omega) hk (λj hj=>htk j (by simp[DT.takes,hj])) hd hf'' hw λ_=>hs0)
      unfold T4;refine E6.2 ⟨i,htk i (by simp[DT.takes]),?_⟩;rw[R8];have hj':ops[j]?=some oj:=by simpa using hj
      simp only[hj',Z7,J8,k6,not_and];intro e he hb heq;exact hno e (Array.mem_toList_iff.1 he) hb (J4 heq)
     rcases S8 hf h with ⟨hwt,t',hf',hy⟩ | ⟨hwt,t',hf',hn⟩
     ·have hfw:AX t' s0 a:=λj tv v h1 h2=>hf'.w j tv v h1 (subval hs0 tv v h2);obtain⟨tv,v,h1,h2,h3⟩:=NC hX hfw hq hy;obtain⟨t'',h4,h5⟩:=hf'.putk (subval hs0 tv v h1) h2;exact main v t'' (.inl ⟨hwt,h3⟩) h5 h4
     ·obtain⟨t'',h4,h5⟩:=hf'.putk (tv:=.v undef) rfl hn;exact main undef t'' (.inr ⟨hwt,rfl⟩) h5 h4
 | run i k ih=>
  intro fuel listed t s a w hst hok htk h hf hw hsub;cases fuel with
  | zero=>simp[DT.steps] at hst
  | succ fuel=>
   simp only[DT.ok,k6,decide_eq_true_eq] at hok;refine⟨(λh0=>by rw[hok.1] at h0;cases h0),λi' hi'=>?_⟩;rw[hok.1] at hi';have:i'=i:=by simpa using hi'
   subst this;exact runc i' k fuel listed t s a w (λt s a w h hf hw hs=>ih fuel _ t s a w (by simp[DT.steps] at hst;omega) hok.2 (λj hj=>htk j (by simpa [DT.takes] using hj)) h hf hw hs) h hf hw
 | two i k j k' ih ih'=>
  intro fuel listed t s a w hst hok htk h hf hw hsub;cases fuel with
  | zero=>simp[DT.steps] at hst
  | succ fuel=>
   simp only[DT.ok,k6,decide_eq_true_eq] at hok;simp only[DT.steps] at hst;have hm:=Y6 k.steps k'.steps;have hm':=W4 k.steps k'.steps;refine⟨(λh0=>by rw[hok.1.1] at h0;cases h0),λi' hi'=>?_⟩;rw[hok.1.1] at hi';rcases (by simpa using hi':i'=i\/i'=j) with rfl | rfl
   ·exact runc i' k fuel listed t s a w (λt s a w h hf hw hs=>ih fuel _ t s a w (v8 hm (E1 hst)) hok.1.2 (λj hj=>htk j (by simp[DT.takes,hj])) h hf hw hs) h.1 hf hw
   ·exact runc i' k' fuel listed t s a w (λt s a w h hf hw hs=>ih' fuel _ t s a w (v8 hm' (E1 hst)) hok.2 (λj hj=>htk j (by simp[DT.takes,hj])) h hf hw hs) h.2 hf hw
 | three i k j k' m k'' ih ih' ih''=>
  intro fuel listed t s a w hst hok htk h hf hw hsub;cases fuel with
  | zero=>simp[DT.steps] at hst
  | succ fuel=>
   simp only[DT.ok,k6,decide_eq_true_eq] at hok;simp only[DT.steps] at hst;have hm0:=Y6 (tI k.steps k'.steps) k''.steps;have hm:=v8 (Y6 k.steps k'.steps) hm0;have hm':=v8 (W4 k.steps k'.steps) hm0;have hm'':=W4 (tI k.steps k'.steps) k''.steps;refine⟨(λh0=>by rw[hok.1.1.1] at h0;cases h0),λi' hi'=>?_⟩;rw[hok.1.1.1] at hi';rcases (by simpa using hi':i'=i\/i'=j\/i'=m) with rfl | rfl | rfl
   ·exact runc i' k fuel listed t s a w (λt s a w h hf hw hs=>ih fuel _ t s a w (v8 hm (E1 hst)) hok.1.1.2 (λj hj=>htk j (by simp[DT.takes,hj])) h hf hw hs) h.1 hf hw
   ·exact runc i' k' fuel listed t s a w (λt s a w h hf hw hs=>ih' fuel _ t s a w (v8 hm' (E1 hst)) hok.1.2 (λj hj=>htk j (by simp[DT.takes,hj])) h hf hw hs) h.2.1 hf hw
   ·exact runc i' k'' fuel listed t s a w (λt s a w h hf hw hs=>ih'' fuel _ t s a w (v8 hm'' (E1 hst)) hok.2 (λj hj=>htk j (by simp[DT.takes,hj])) h hf hw hs) h.2.2 hf hw
theorem s6.by_order0 {X:R5} (hX:X.Good) {ops:List Oper} {Q:Tm->List Ch->Prop} {t:Tm} {s s0:List Ch} (d:DT) (hd:d.fine ops=true) (hs:X8 s0 s) (h:dC X ops d.takes s0 d Q t s):s6 X ops Q t s:=by
 refine⟨λw0 w a Q' hok hf hQ hP=>?_⟩;unfold DT.fine at hd;simp only[k6] at hd;obtain⟨⟨h1,h2⟩,h3⟩:=hd;have hlen:ops.toArray.size=ops.length:=sQ
 rw[hlen];exact oS _ _ _ _ (SW hX (λt s a w hf hok hq=>hQ t s a w hok hf hq) hP h1 d ops.length _ t s a _ (E0 h2) h3 (λi hi=>hi) h hf hok.drew λ_=>hs)
theorem s6.by_order {X:R5} (hX:X.Good) {ops:List Oper} {Q:Tm->List Ch->Prop} {t:Tm} {s:List Ch} (d:DT) (hd:d.fine ops=true) (h:dC X ops d.takes s d Q t s):s6 X ops Q t s:=
 s6.by_order0 hX d hd (eM s) h
end
end Go.Dw
namespace Go.Dw
open Go Go.RowKit
def Kw (n:Nat) (w0:World) (Q:Ex->Tm->List Ch->Prop):Exit->Act->World->Prop
 | .normal,a,w=>∃t s,Fr n t s a/\Ok w0 s w/\Q .normal t s
 | .exit i,a,w=>∃t s,Fr n t s a/\Ok w0 s w/\Q (.exit i) t s
 | .ret,a,w=>∃t s,Fr n t s a/\Ok w0 s w/\Q .ret t s
 | _,_,_=>False
theorem tF {X:R5} (hX:X.Good) {w0:World} :∀(c:Code) (Q:Ex->Tm->List Ch->Prop) (t:Tm) (s:List Ch) (a:Act) (w:World),
  WP X c Q t s->Fr X.n t s a->Ok w0 s w->c.wp X.P (Kw X.n w0 Q) a w:=by
 intro c;induction c with
 | skip=>intro Q t s a w h hf hok;exact wp_skip ⟨t,s,hf,hok,h⟩
 | label l=>intro Q t s a w h hf hok;exact wp_label ⟨t,s,hf,hok,h⟩
 | exit id=>intro Q t s a w h hf hok;exact wp_exit ⟨t,s,hf,hok,h⟩
 | ret=>intro Q t s a w h hf hok;exact wp_ret ⟨t,s,hf,hok,h⟩
 | refuse why=>intro Q t s a w h hf hok;exact h.elim
 | goto l=>intro Q t s a w h hf hok;exact h.elim
 | scope b ih=>intro Q t s a w h hf hok;exact h.elim
 | rangeFunc f ps x b ih1 ih2=>intro Q t s a w h hf hok;exact h.elim
 | seq x y ihx ihy=>
  intro Q t s a w h hf hok;refine wp_seq (wp_mono (ihx _ t s a w h hf hok) λe a' w' hq=>?_);cases e with
  | normal=>obtain⟨t',s',h1,h2,h3⟩:=hq;exact ihy Q t' s' a' w' h3 h1 h2
  | exit i=>obtain⟨t',s',h1,h2,h3⟩:=hq;exact⟨t',s',h1,h2,h3⟩
  | ret=>obtain⟨t',s',h1,h2,h3⟩:=hq;exact⟨t',s',h1,h2,h3⟩
  | goto l=>exact hq.elim
  | panic c=>exact hq.elim
  | outgrown=>exact hq.elim
 | cond c x y ihx ihy=>
  intro Q t s a w h hf hok;obtain⟨tv,h1,h2⟩:=hf.w.tvk h;cases tv with
  | bx _ _=>exact h2.elim
  | bs _ _=>exact h2.elim
  | v v=>
   simp only[TV.val,m9] at h1;cases v <;> try exact h2.elim
   rename_i b
   refine wp_cond h1.symm ?_;cases b with
   | true=>exact ihx Q t s a w h2 hf hok
   | false=>exact ihy Q t s a w h2 hf hok
 | block id c ih=>
  intro Q t s a w h hf hok;refine wp_block (wp_mono (ih _ t s a w h hf hok) λe a' w' hq=>?_);cases e with
  | normal=>obtain⟨t',s',h1,h2,h3⟩:=hq;exact⟨t',s',h1,h2,h3⟩
  | exit i=>
   obtain⟨t',s',h1,h2,h3⟩:=hq;simp only[Exit.inBlock];by_cases hi:i=id
   ·subst hi;rw[if_pos rfl];simp only[Nat.beq_refl] at h3;exact⟨t',s',h1,h2,h3⟩
   ·rw[if_neg hi];have:X3 i id=false:=by cases e:X3 i id with
     | false=>rfl
     | true=>exact absurd (J4 e) hi
    simp only[this] at h3;exact⟨t',s',h1,h2,h3⟩
  | ret=>obtain⟨t',s',h1,h2,h3⟩:=hq;exact⟨t',s',h1,h2,h3⟩
  | goto l=>exact hq.elim
  | panic c=>exact hq.elim
  | outgrown=>exact hq.elim
 | loop c ih=>
  intro Q t s a w h hf hok;obtain⟨G,I,S,R,m,g0,h0,e0,round⟩:=h;refine wp_loop_ghost (λk a w=>∃g,R g/\m g=k/\Ok w0 (S g) w/\Fr X.n (I g) (S g) a) (m g0) ⟨g0,h0,rfl,(e0 _ w0 w a hok hf).1,(e0 _ w0 w a hok hf).2⟩ ?_;rintro k a w ⟨g,hR,rfl,hok,hf⟩;refine wp_mono (ih _ _ _ a w (round g hR ⟨w0,w,hok⟩) hf hok) λe a' w' hq=>?_;cases e with
  | normal=>
   obtain⟨t',s',h1,h2,g',h3,h4,h5⟩:=hq;exact⟨m g',h4,g',h3,rfl,(h5 _ w0 w' a' h2 h1).1,(h5 _ w0 w' a' h2 h1).2⟩
  | exit i=>obtain⟨t',s',h1,h2,h3⟩:=hq;exact⟨t',s',h1,h2,h3⟩
  | ret=>obtain⟨t',s',h1,h2,h3⟩:=hq;exact⟨t',s',h1,h2,h3⟩
  | goto l=>exact hq.elim
  | panic c=>exact hq.elim
  | outgrown=>exact hq.elim
 | region id ops draw=>
  intro Q t s a w h hf hok;obtain⟨ops⟩:=ops;cases draw with
  | false=>
   refine wp_region_list ?_;exact DJ hX (λt s a w hf hok hq=>⟨t,s,hf,hok,hq⟩) ops t s a w h hf hok
  | true=>
   obtain⟨h⟩:=h;refine wp_region_any hX.1 ?_;exact h w0 w a _ hok hf (λt s a w hok hf hq=>⟨t,s,hf,hok,hq⟩) (λc a w hq=>hq)
def Gz (X:R5) (s:List Ch) (t:Tm):ResultVar->(Value->Prop)->Prop
 | .tmp i,q=>val s t (.tmp i) q
 | .cell i T,q=>tvk s t (.tmp i) λtv=>match tv with
  | .bx i off=>match m8 s i with
   | some (.box _ cs _)=>jQ X T cs off λtv=>match tv with | .v x=>q x | _=>False
   | _=>False
  | _=>False
def Dx (X:R5) (s:List Ch) (t:Tm):List ResultVar->(List Value->Prop)->Prop
 | [],q=>q []
 | r::rs,q=>Gz X s t r λv=>Dx X s t rs λvs=>q (v::vs)
def oY (X:R5) (s:List Ch) (t:Tm) (rs:List ResultVar) (q:Value->Prop):Prop:=Dx X s t rs λvs=>match vs with
 | [v]=>q v
 | []=>q (.tuple #[])
 | v::u::r=>q (.tuple (v::u::r).toArray)
def yH (tmps:Array Value):ResultVar->Sem Value
 | .tmp t=>pure (tmps.getD t undef)
 | .cell a t=>do loadVar t (<-asAddr (tmps.getD a undef))
theorem ZH {X:R5} (hX:X.Good) {t:Tm} {s:List Ch} {a:Act} {w:World} (hf:AX t s a) (hm:gN s w) {r:ResultVar} {q:Value->Prop} (h:Gz X s t r q) :
  ∃v,(yH a.tmps r).run X.P w=.ok v w/\q v:=by
 cases r with
 | tmp i=>exact⟨_,rfl,hf.val h⟩
 | cell i T=>
  obtain⟨tv,h1,h2⟩:=hf.tvk h;cases tv with
  | v _=>exact h2.elim
  | bs _ _=>exact h2.elim
  | bx j off=>
   obtain⟨b,cs,T',hs,hv⟩:=qR h1;simp only[hs] at h2;obtain⟨v,h3,h4⟩:=vJ hX hs h2;refine⟨v,?_,h3⟩;have hv':a.tmps.getD i undef=.pointer (some ⟨b,off,none⟩):=hv;simp only[yH,hv',asAddr,Sem.run_bind,Sem.run_pure,Result.andThen_ok];exact h4 w hm
theorem NO {X:R5} (hX:X.Good) {t:Tm} {s:List Ch} {a:Act} {w:World} (hf:AX t s a) (hm:gN s w) :∀{rs:List ResultVar} {q:List Value->Prop},Dx X s t rs q->
  ∃vs,(rs.mapM (yH a.tmps)).run X.P w=.ok vs w/\q vs
 | [],q,h=>⟨[],sQ,h⟩
 | r::rs,q,h=>by
  obtain⟨v,h1,h2⟩:=ZH hX hf hm h;obtain⟨vs,h3,h4⟩:=NO hX hf hm h2;exact⟨v::vs,by simp[List.mapM_cons,h1,h3],h4⟩
theorem nE {X:R5} (hX:X.Good) {t:Tm} {s:List Ch} {a:Act} {w:World} (hf:AX t s a) (hm:gN s w) {rs:List ResultVar} {q:Value->Prop} (h:oY X s t rs q) {fn:Func} (hr:fn.results=rs.toArray) :
  ∃v,(results fn a.tmps).run X.P w=.ok v w/\q v:=by
 obtain⟨vs,h1,h2⟩:=NO hX hf hm h;have e:results fn a.tmps=(do let vs<-fn.results.mapM (yH a.tmps);pure (if h:vs.size=1 then vs[0] else .tuple vs)):=by
  unfold results;have e2:(λr=>match r with | .tmp t=>pure (a.tmps.getD t undef) | .cell b t=>do loadVar t (<-asAddr (a.tmps.getD b undef)):ResultVar->Sem Value)=yH a.tmps:=by
   funext r
   cases r <;> rfl
  rw[<-e2];rfl
 rw[e,hr,Array.mapM_eq_mapM_toList];match vs,h1,h2 with
 | [],h1,h2=>exact⟨_,by simp[h1],h2⟩
 | [v],h1,h2=>exact⟨_,by simp[h1],h2⟩
 | v::u::r,h1,h2=>exact⟨_,by simp[h1],h2⟩
def pG:Nat->List Value->Tm
 | _,[]=>[]
 | i,v::r=>(i,.v v)::pG (i+1) r
theorem fA :∀(l:List Value) (k i:Nat) (tv:TV),dS (pG k l) i=some tv->∃v,tv=.v v/\k<=i/\l[i - k]?=some v
 | [],k,i,tv,h=>by cases h
 | v::r,k,i,tv,h=>by
  simp only[pG] at h;rw[jK] at h;split at h
  ·rename_i e;subst e;cases h;exact⟨v,rfl,k8 _,sQ⟩
  ·rename_i e
   obtain⟨u,h1,h2,h3⟩:=fA r (k+1) i tv h;refine⟨u,h1,om,?_⟩;rw[show i - k=(i - (k+1))+1 by omega];simpa using h3
theorem enter {X : R5} (hX : X.Good) {f : Nat} {fn : Func} {c : Code} {args : List Value} {w : World} {R : Value -> List Ch -> Prop} (rs : List ResultVar)
    (hf : X.P.funcs[f]? = some fn) (hb : fn.body = some c) (hn : (fn.name == "runtime.NumGoroutine") = false) (hr : fn.results = rs.toArray) (hm : fn.ntmps = X.n) (hl : R0 args.length X.n = true)
    (h : WP X c (λe t s => match e with
      | .exit _ => False
      | _ => oY X s t rs λv => ∃ cs, R v cs /\ ∀ w', Ok w s w' -> Ok w (.hp (Hp.whole w) :: cs) w') (pG 0 args) [.hp (Hp.whole w)]) :
    j6 X.P f args.toArray w (fD w R) := by
  have hl := E0 hl
  refine ⟨λw => ?_, calls_of_wp hf hb ?_⟩
  · have hn' : ¬ fn.name = "runtime.NumGoroutine" := by simpa using hn
    simp [callFunc, hf, hn', hb]
  · refine wp_mono (tF hX c _ _ _ _ w h ⟨by simp [hm];omega, rfl, λi tv hi => ?_⟩ (Ok.start w)) λe a w' hq => ?_
    · obtain ⟨v, rfl, _, h2⟩ := fA args 0 i tv hi
      refine ⟨v, rfl, ?_⟩
      have : i < args.length := (q9.1 (by simpa using h2)).1
      rw [Array.getElem?_append_left (by simpa using this)]
      simpa using h2
    · have fin : ∀ t s, Fr X.n t s a -> Ok w s w' -> (oY X s t rs λv => ∃ cs, R v cs /\ ∀ w', Ok w s w' -> Ok w (.hp (Hp.whole w) :: cs) w') ->
          a.defers = [] /\ ∃ v, (results fn a.tmps).run X.P w' = .ok v w' /\ fD w R (.returned v) w' := by
        intro t s hf' hok hk
        obtain ⟨v, h1, cs, h2, h3⟩ := nE hX hf'.w hok.mem hk hr
        exact ⟨hf'.2.1, v, h1, v, cs, rfl, h3 w' hok, h2⟩
      cases e with
      | normal => obtain ⟨t, s, h1, h2, h3⟩ := hq;exact fin t s h1 h2 h3
      | ret => obtain ⟨t, s, h1, h2, h3⟩ := hq;exact fin t s h1 h2 h3
      | exit i => obtain ⟨t, s, h1, h2, h3⟩ := hq;exact h3.elim
      | goto l => exact hq.elim
      | panic c => exact hq.elim
      | outgrown => exact hq.elim
theorem enterZ (X : R5) {f : Nat} {fn : Func} {c : Code} (args : List Value) {w : World} {R : Value -> List Ch -> Prop} (rs : List ResultVar) (hf : X.P.funcs[f]? = some fn) (h : WP X c (λe t s => match e with
      | .exit _ => False
      | _ => oY X s t rs λv => ∃ cs, R v cs /\ ∀ w', Ok w s w' -> Ok w (.hp (Hp.whole w) :: cs) w') (pG 0 args) [.hp (Hp.whole w)]) (hX : X.Good := by exact cxg _) (hb : fn.body = some c := by exact rfl) (hn : (fn.name == "runtime.NumGoroutine") = false := by exact rfl) (hr : fn.results = rs.toArray := by exact rfl) (hm : fn.ntmps = X.n := by exact rfl) (hl : R0 args.length X.n = true := by exact rfl) : j6 X.P f args.toArray w (fD w R) := enter hX  rs hf hb hn hr hm hl h
end Go.Dw
namespace Go.Dw
open Go Go.RowKit Go.Proofs
def tt:List (Nat×TI):=[
 (3,⟨.int .i64,1,8,[iQ 0]⟩),
 (4,⟨.bool,1,1,[.bool false]⟩),
 (9,⟨.str,1,16,[.string ⟨#[]⟩]⟩),
 (5,⟨.int .u8,1,1,[.int .u8 0]⟩),
 (1,⟨.other,1,8,[.nilFunc]⟩),
 (33,⟨.int .i64,1,8,[iQ 0]⟩),
 (2,⟨.int .i64,1,8,[iQ 0]⟩),
 (248,⟨.int .u64,1,8,[.int .u64 0]⟩),
 (247,⟨.int .u32,1,4,[.int .u32 0]⟩),
 (6,⟨.int .u8,1,1,[.int .u8 0]⟩),
 (21,⟨.int .i32,1,4,[.int .i32 0]⟩),
 (7,⟨.st [(0,2),(1,3),(2,4),(3,6)],4,24,[iQ 0,iQ 0,.bool false,.int .u8 0]⟩),
 (137,⟨.sl 247,1,24,[zl]⟩),
 (30,⟨.st [(0,9),(1,25),(3,26),(4,27),(5,28)],6,136,[.string ⟨#[]⟩,zl,zl,zl,zl,zl]⟩),
 (8,⟨.st [(0,2),(1,3),(2,4),(3,6)],4,24,[iQ 0,iQ 0,.bool false,.int .u8 0]⟩),
 (139,⟨.st [(0,4),(1,137)],2,32,[.bool false,zl]⟩),
 (38,⟨.str,1,16,[.string ⟨#[]⟩]⟩),
 (44,⟨.st [(0,3),(1,41),(3,38),(4,42)],5,88,[iQ 0,.string ⟨#[]⟩,zl,.string ⟨#[]⟩,zl]⟩),
 (151,⟨.other,1,8,[.pointer none]⟩),
 (68,⟨.sl 5,1,24,[zl]⟩),
 (69,⟨.sl 9,1,24,[zl]⟩),
 (74,⟨.st [(0,9),(1,44),(6,38),(7,38)],8,136,[.string ⟨#[]⟩,iQ 0,.string ⟨#[]⟩,zl,.string ⟨#[]⟩,zl,.string ⟨#[]⟩,.string ⟨#[]⟩]⟩),
 (10,⟨.str,1,16,[.string ⟨#[]⟩]⟩),
 (135,⟨.int .u64,1,8,[.int .u64 0]⟩),
 (26,⟨.sl 48,1,24,[zl]⟩),
 (83,⟨.st [(0,9),(1,3),(2,81)],3,48,[.string ⟨#[]⟩,iQ 0,zl]⟩),
 (141,⟨.st [(0,139),(2,139)],4,64,[.bool false,zl,.bool false,zl]⟩),
 (11,⟨.str,1,16,[.string ⟨#[]⟩]⟩),
 (368,⟨.other,1,8,[.pointer none]⟩),
 (41,⟨.st [(0,38),(1,39)],2,40,[.string ⟨#[]⟩,zl]⟩),
 (48,⟨.st [(0,9),(1,3),(2,3),(3,3)],4,40,[.string ⟨#[]⟩,iQ 0,iQ 0,iQ 0]⟩),
 (211,⟨.st [(0,3),(1,9),(2,3),(3,3)],4,40,[iQ 0,.string ⟨#[]⟩,iQ 0,iQ 0]⟩),
 (12,⟨.int .u64,1,8,[.int .u64 0]⟩),
 (25,⟨.st [(0,22),(1,23)],2,48,[zl,zl]⟩),
 (152,⟨.other,1,8,[.pointer none]⟩),
 (93,⟨.st [(0,9),(1,9),(2,91)],9,112,[.string ⟨#[]⟩,.string ⟨#[]⟩,iQ 0,iQ 0,iQ 0,iQ 0,.string ⟨#[]⟩,.string ⟨#[]⟩,.string ⟨#[]⟩]⟩),
 (196,⟨.other,1,16,[.nilIface]⟩),
 (62,⟨.int .u16,1,2,[.int .u16 0]⟩),
 (22,⟨.sl 83,1,24,[zl]⟩),
 (113,⟨.other,1,8,[.pointer none]⟩),
 (13,⟨.st [(0,9),(1,12)],2,24,[.string ⟨#[]⟩,.int .u64 0]⟩),
 (28,⟨.sl 74,1,24,[zl]⟩),
 (27,⟨.sl 96,1,24,[zl]⟩),
 (114,⟨.other,1,8,[.pointer none]⟩),
 (23,⟨.sl 93,1,24,[zl]⟩),
 (344,⟨.other,1,8,[.pointer none]⟩),
 (42,⟨.sl 44,1,24,[zl]⟩),
 (84,⟨.sl 122,1,24,[zl]⟩),
 (156,⟨.other,1,8,[.nilFunc]⟩),
 (39,⟨.sl 80,1,24,[zl]⟩),
 (96,⟨.st [(0,9),(1,41)],3,56,[.string ⟨#[]⟩,.string ⟨#[]⟩,zl]⟩),
 (14,⟨.st [(0,9),(1,12)],2,24,[.string ⟨#[]⟩,.int .u64 0]⟩),
 (110,⟨.other,1,8,[.nilFunc]⟩),
 (98,⟨.other,1,8,[.nilFunc]⟩),
 (80,⟨.st [(0,3),(1,38)],2,24,[iQ 0,.string ⟨#[]⟩]⟩),
 (81,⟨.sl 86,1,24,[zl]⟩),
 (86,⟨.st [(0,84)],1,24,[zl]⟩),
 (293,⟨.other,1,8,[.pointer none]⟩),
 (116,⟨.st [(0,114),(1,68)],2,32,[.pointer none,zl]⟩),
 (434,⟨.other,1,16,[.nilIface]⟩),
 (119,⟨.other,1,8,[.nilFunc]⟩),
 (389,⟨.other,1,8,[.pointer none]⟩),
 (61,⟨.st [(0,5),(1,55),(2,56),(3,57),(4,58),(5,59)],6,128,[.int .u8 0,zl,zl,zl,zl,zl]⟩),
 (120,⟨.other,1,8,[.nilFunc]⟩),
 (124,⟨.sl 3,1,24,[zl]⟩),
 (89,⟨.ar 3 38,3,48,[.string ⟨#[]⟩,.string ⟨#[]⟩,.string ⟨#[]⟩]⟩),
 (122,⟨.ar 3 3,3,24,[iQ 0,iQ 0,iQ 0]⟩),
 (133,⟨.int .i8,1,1,[.int .i8 0]⟩),
 (91,⟨.st [(0,87),(4,89)],7,80,[iQ 0,iQ 0,iQ 0,iQ 0,.string ⟨#[]⟩,.string ⟨#[]⟩,.string ⟨#[]⟩]⟩),
 (198,⟨.other,1,8,[.nilFunc]⟩),
 (364,⟨.other,1,8,[.pointer none]⟩),
 (205,⟨.other,1,8,[.nilFunc]⟩),
 (287,⟨.other,1,8,[.nilFunc]⟩),
 (31,⟨.other,1,8,[.nilFunc]⟩),
 (207,⟨.sl 211,1,24,[zl]⟩),
 (220,⟨.other,1,8,[.nilFunc]⟩),
 (236,⟨.other,1,8,[.pointer none]⟩),
 (15,⟨.other,1,8,[.pointer none]⟩),
 (19,⟨.st [(0,17)],1,8,[.pointer none]⟩),
 (106,⟨.other,1,8,[.nilFunc]⟩),
 (432,⟨.other,1,16,[.nilIface]⟩),
 (181,⟨.other,1,8,[.nilFunc]⟩),
 (206,⟨.other,1,8,[.nilFunc]⟩),
 (221,⟨.other,1,8,[.nilFunc]⟩),
 (398,⟨.sl 403,1,24,[zl]⟩),
 (413,⟨.other,1,8,[.pointer none]⟩),
 (145,⟨.other,1,8,[.nilFunc]⟩),
 (186,⟨.other,1,8,[.nilFunc]⟩),
 (226,⟨.other,1,8,[.nilFunc]⟩),
 (286,⟨.other,1,8,[.nilFunc]⟩),
 (352,⟨.other,1,8,[.pointer none]⟩),
 (356,⟨.int .i64,1,8,[iQ 0]⟩),
 (369,⟨.sl 368,1,24,[zl]⟩),
 (180,⟨.other,1,8,[.nilFunc]⟩),
 (357,⟨.other,1,8,[.nilFunc]⟩),
 (377,⟨.sl 379,1,24,[zl]⟩),
 (381,⟨.other,1,8,[.pointer none]⟩),
 (46,⟨.other,1,8,[.pointer none]⟩),
 (158,⟨.other,1,8,[.nilFunc]⟩),
 (193,⟨.other,1,8,[.nilFunc]⟩),
 (216,⟨.other,1,8,[.nilFunc]⟩),
 (342,⟨.other,1,8,[.pointer none]⟩),
 (399,⟨.sl 406,1,24,[zl]⟩),
 (403,⟨.st [(0,62),(1,62),(2,62)],3,6,[.int .u16 0,.int .u16 0,.int .u16 0]⟩),
 (429,⟨.sl 5,1,24,[zl]⟩),
 (17,⟨.other,1,8,[.pointer none]⟩),
 (290,⟨.st [(0,3),(1,287),(2,288)],3,24,[iQ 0,.nilFunc,.nilFunc]⟩),
 (291,⟨.sl 290,1,24,[zl]⟩),
 (340,⟨.other,1,8,[.pointer none]⟩),
 (358,⟨.other,1,8,[.pointer none]⟩),
 (384,⟨.st [(0,5),(1,5)],2,2,[.int .u8 0,.int .u8 0]⟩),
 (406,⟨.st [(0,247),(1,247),(2,247)],3,12,[.int .u32 0,.int .u32 0,.int .u32 0]⟩),
 (72,⟨.other,1,8,[.nilFunc]⟩),
 (87,⟨.ar 4 3,4,32,[iQ 0,iQ 0,iQ 0,iQ 0]⟩),
 (94,⟨.other,1,8,[.nilFunc]⟩),
 (148,⟨.ar 4 133,4,4,[.int .i8 0,.int .i8 0,.int .i8 0,.int .i8 0]⟩),
 (189,⟨.other,1,8,[.nilFunc]⟩),
 (215,⟨.other,1,8,[.nilFunc]⟩),
 (222,⟨.other,1,8,[.nilFunc]⟩),
 (302,⟨.other,1,8,[.nilFunc]⟩),
 (333,⟨.other,1,8,[.nilFunc]⟩),
 (349,⟨.ar 256 68,256,6144,p7 256 zl⟩),
 (351,⟨.st [(0,349),(256,69)],257,6168,p7 257 zl⟩),
 (18,⟨.st [(0,17)],1,8,[.pointer none]⟩),
 (131,⟨.other,1,8,[.nilFunc]⟩),
 (134,⟨.ar 5 133,5,5,[.int .i8 0,.int .i8 0,.int .i8 0,.int .i8 0,.int .i8 0]⟩),
 (146,⟨.ar 3 133,3,3,[.int .i8 0,.int .i8 0,.int .i8 0]⟩),
 (157,⟨.other,1,8,[.nilFunc]⟩),
 (169,⟨.other,1,8,[.nilFunc]⟩),
 (192,⟨.sl 141,1,24,[zl]⟩),
 (213,⟨.other,1,8,[.nilFunc]⟩),
 (219,⟨.st [(0,207),(1,3),(2,3),(3,33)],4,48,[zl,iQ 0,iQ 0,iQ 0]⟩),
 (249,⟨.other,1,8,[.nilFunc]⟩),
 (263,⟨.other,1,8,[.pointer none]⟩),
 (311,⟨.other,1,8,[.pointer none]⟩),
 (315,⟨.other,1,8,[.pointer none]⟩),
 (371,⟨.st [(0,9),(1,3),(2,9),(3,368),(4,369)],5,72,[.string ⟨#[]⟩,iQ 0,.string ⟨#[]⟩,.pointer none,zl]⟩),
 (391,⟨.other,1,8,[.pointer none]⟩),
 (34,⟨.other,1,8,[.nilFunc]⟩),
 (63,⟨.other,1,8,[.nilFunc]⟩),
 (105,⟨.other,1,8,[.nilFunc]⟩),
 (144,⟨.other,1,8,[.nilFunc]⟩),
 (171,⟨.other,1,8,[.nilFunc]⟩),
 (348,⟨.other,1,8,[.pointer none]⟩),
 (354,⟨.other,1,8,[.nilFunc]⟩),
 (414,⟨.other,1,8,[.pointer none]⟩),
 (430,⟨.other,1,8,[.pointer none]⟩),
 (20,⟨.other,1,16,[.nilIface]⟩),
 (36,⟨.other,1,8,[.nilFunc]⟩),
 (65,⟨.other,1,8,[.nilFunc]⟩),
 (70,⟨.other,1,8,[.nilFunc]⟩),
 (99,⟨.other,1,8,[.nilFunc]⟩),
 (109,⟨.other,1,8,[.nilFunc]⟩),
 (126,⟨.other,1,8,[.nilFunc]⟩),
 (132,⟨.other,1,8,[.nilFunc]⟩),
 (136,⟨.ar 6 133,6,6,[.int .i8 0,.int .i8 0,.int .i8 0,.int .i8 0,.int .i8 0,.int .i8 0]⟩),
 (172,⟨.other,1,8,[.nilFunc]⟩),
 (191,⟨.other,1,8,[.nilFunc]⟩),
 (235,⟨.other,1,8,[.nilFunc]⟩),
 (259,⟨.other,1,8,[.nilFunc]⟩),
 (374,⟨.other,1,8,[.nilFunc]⟩),
 (379,⟨.st [(0,3),(1,3)],2,16,[iQ 0,iQ 0]⟩),
 (45,⟨.other,1,8,[.nilFunc]⟩),
 (103,⟨.other,1,8,[.nilFunc]⟩),
 (203,⟨.other,1,8,[.map none]⟩),
 (223,⟨.other,1,8,[.nilFunc]⟩),
 (277,⟨.other,1,16,[.nilIface]⟩),
 (281,⟨.ar 24 5,24,24,p7 24 (.int .u8 0)⟩),
 (288,⟨.other,1,8,[.nilFunc]⟩),
 (375,⟨.ar 32 5,32,32,p7 32 (.int .u8 0)⟩),
 (387,⟨.st [(0,9),(1,9),(2,196)],3,48,[.string ⟨#[]⟩,.string ⟨#[]⟩,.nilIface]⟩),
 (435,⟨.other,1,8,[.nilFunc]⟩),
 (49,⟨.other,1,8,[.nilFunc]⟩),
 (50,⟨.other,1,8,[.nilFunc]⟩),
 (51,⟨.other,1,8,[.nilFunc]⟩),
 (66,⟨.other,1,8,[.nilFunc]⟩),
 (128,⟨.other,1,8,[.nilFunc]⟩),
 (165,⟨.other,1,8,[.nilFunc]⟩),
 (170,⟨.other,1,8,[.nilFunc]⟩),
 (176,⟨.other,1,8,[.nilFunc]⟩),
 (224,⟨.other,1,8,[.nilFunc]⟩),
 (234,⟨.other,1,8,[.nilFunc]⟩),
 (243,⟨.other,1,8,[.nilFunc]⟩),
 (244,⟨.other,1,8,[.nilFunc]⟩),
 (255,⟨.other,1,8,[.nilFunc]⟩),
 (262,⟨.other,1,8,[.nilFunc]⟩),
 (269,⟨.st [(0,267),(0,247)],1,4,[.int .u32 0]⟩),
 (282,⟨.other,1,8,[.nilFunc]⟩),
 (296,⟨.other,1,8,[.nilFunc]⟩),
 (298,⟨.other,1,8,[.nilFunc]⟩),
 (328,⟨.other,1,8,[.nilFunc]⟩),
 (335,⟨.other,1,8,[.nilFunc]⟩),
 (338,⟨.other,1,8,[.pointer none]⟩),
 (361,⟨.other,1,8,[.pointer none]⟩),
 (376,⟨.ar 64 5,64,64,p7 64 (.int .u8 0)⟩),
 (385,⟨.ar 16 384,32,32,p7 32 (.int .u8 0)⟩),
 (388,⟨.other,1,8,[.nilFunc]⟩),
 (390,⟨.other,1,8,[.nilFunc]⟩),
 (412,⟨.other,1,8,[.nilFunc]⟩),
 (16,⟨.other,1,8,[.pointer none]⟩),
 (53,⟨.other,1,8,[.nilFunc]⟩),
 (57,⟨.sl 146,1,24,[zl]⟩),
 (59,⟨.sl 68,1,24,[zl]⟩),
 (73,⟨.st [(0,9),(1,44),(6,38),(7,38)],8,136,[.string ⟨#[]⟩,iQ 0,.string ⟨#[]⟩,zl,.string ⟨#[]⟩,zl,.string ⟨#[]⟩,.string ⟨#[]⟩]⟩),
 (92,⟨.st [(0,9),(1,9),(2,91)],9,112,[.string ⟨#[]⟩,.string ⟨#[]⟩,iQ 0,iQ 0,iQ 0,iQ 0,.string ⟨#[]⟩,.string ⟨#[]⟩,.string ⟨#[]⟩]⟩),
 (97,⟨.other,1,8,[.nilFunc]⟩),
 (102,⟨.other,1,8,[.nilFunc]⟩),
 (104,⟨.other,1,8,[.nilFunc]⟩),
 (111,⟨.other,1,8,[.nilFunc]⟩),
 (118,⟨.st [(0,116),(2,26)],3,56,[.pointer none,zl,zl]⟩),
 (123,⟨.other,1,8,[.nilFunc]⟩),
 (129,⟨.other,1,8,[.nilFunc]⟩),
 (168,⟨.other,1,8,[.nilFunc]⟩),
 (179,⟨.other,1,8,[.nilFunc]⟩),
 (185,⟨.other,1,8,[.nilFunc]⟩),
 (187,⟨.sl 106,1,24,[zl]⟩),
 (194,⟨.other,1,8,[.nilFunc]⟩),
 (199,⟨.other,1,8,[.nilFunc]⟩),
 (202,⟨.other,1,8,[.nilFunc]⟩),
 (204,⟨.other,1,8,[.nilFunc]⟩),
 (212,⟨.other,1,8,[.nilFunc]⟩),
 (217,⟨.other,1,8,[.nilFunc]⟩),
 (225,⟨.other,1,8,[.nilFunc]⟩),
 (228,⟨.other,1,8,[.nilFunc]⟩),
 (237,⟨.other,1,8,[.nilFunc]⟩),
 (239,⟨.other,1,8,[.pointer none]⟩),
 (240,⟨.other,1,8,[.nilFunc]⟩),
 (251,⟨.other,1,8,[.nilFunc]⟩),
 (252,⟨.other,1,8,[.nilFunc]⟩),
 (256,⟨.other,1,8,[.nilFunc]⟩),
 (258,⟨.other,1,8,[.nilFunc]⟩),
 (261,⟨.other,1,8,[.nilFunc]⟩),
 (271,⟨.st [(0,21),(1,247)],2,8,[.int .i32 0,.int .u32 0]⟩),
 (275,⟨.st [(0,266),(0,269),(1,273)],3,12,[.int .u32 0,.int .i32 0,.int .u32 0]⟩),
 (280,⟨.other,1,8,[.nilFunc]⟩),
 (292,⟨.other,1,8,[.nilFunc]⟩),
 (297,⟨.other,1,8,[.nilFunc]⟩),
 (301,⟨.other,1,8,[.nilFunc]⟩),
 (305,⟨.other,1,8,[.nilFunc]⟩),
 (313,⟨.other,1,8,[.nilFunc]⟩),
 (317,⟨.other,1,8,[.nilFunc]⟩),
 (319,⟨.ar 20 248,20,160,p7 20 (.int .u64 0)⟩),
 (325,⟨.other,1,8,[.nilFunc]⟩),
 (326,⟨.other,1,8,[.nilFunc]⟩),
 (392,⟨.other,1,8,[.nilFunc]⟩),
 (408,⟨.other,1,8,[.pointer none]⟩),
 (428,⟨.other,1,8,[.nilFunc]⟩),
 (440,⟨.st [(0,432)],1,16,[.nilIface]⟩),
 (441,⟨.other,1,8,[.nilFunc]⟩),
 (32,⟨.other,1,8,[.nilFunc]⟩),
 (37,⟨.other,1,8,[.nilFunc]⟩),
 (40,⟨.st [(0,38),(1,39)],2,40,[.string ⟨#[]⟩,zl]⟩),
 (52,⟨.other,1,8,[.nilFunc]⟩),
 (55,⟨.sl 134,1,24,[zl]⟩),
 (56,⟨.sl 136,1,24,[zl]⟩),
 (58,⟨.sl 148,1,24,[zl]⟩),
 (77,⟨.other,1,8,[.nilFunc]⟩),
 (82,⟨.st [(0,9),(1,3),(2,81)],3,48,[.string ⟨#[]⟩,iQ 0,zl]⟩),
 (100,⟨.other,1,8,[.nilFunc]⟩),
 (112,⟨.other,1,8,[.nilFunc]⟩),
 (121,⟨.ar 3 3,3,24,[iQ 0,iQ 0,iQ 0]⟩),
 (125,⟨.other,1,8,[.nilFunc]⟩),
 (127,⟨.other,1,8,[.nilFunc]⟩),
 (130,⟨.other,1,8,[.nilFunc]⟩),
 (138,⟨.st [(0,4),(1,137)],2,32,[.bool false,zl]⟩),
 (143,⟨.other,1,8,[.nilFunc]⟩),
 (147,⟨.other,1,8,[.nilFunc]⟩),
 (150,⟨.other,1,8,[.nilFunc]⟩),
 (154,⟨.st [(0,152),(1,26),(2,3)],3,40,[.pointer none,zl,iQ 0]⟩),
 (155,⟨.st [(0,152),(1,26),(2,3)],3,40,[.pointer none,zl,iQ 0]⟩),
 (183,⟨.other,1,8,[.nilFunc]⟩),
 (188,⟨.other,1,8,[.nilFunc]⟩),
 (190,⟨.other,1,8,[.nilFunc]⟩),
 (200,⟨.other,1,8,[.nilFunc]⟩),
 (209,⟨.other,1,8,[.nilFunc]⟩),
 (227,⟨.other,1,8,[.nilFunc]⟩),
 (229,⟨.other,1,8,[.nilFunc]⟩),
 (230,⟨.other,1,8,[.nilFunc]⟩),
 (231,⟨.other,1,8,[.nilFunc]⟩),
 (238,⟨.other,1,8,[.nilFunc]⟩),
 (242,⟨.other,1,8,[.nilFunc]⟩),
 (246,⟨.other,1,8,[.nilFunc]⟩),
 (270,⟨.st [(0,21),(1,247)],2,8,[.int .i32 0,.int .u32 0]⟩),
 (273,⟨.st [(0,266),(0,271)],2,8,[.int .i32 0,.int .u32 0]⟩),
 (279,⟨.st [(0,275),(3,277),(4,69)],5,56,[.int .u32 0,.int .i32 0,.int .u32 0,.nilIface,zl]⟩),
 (310,⟨.other,1,8,[.nilFunc]⟩),
 (322,⟨.other,1,8,[.nilFunc]⟩),
 (324,⟨.other,1,8,[.nilFunc]⟩),
 (327,⟨.other,1,8,[.nilFunc]⟩),
 (332,⟨.other,1,8,[.nilFunc]⟩),
 (336,⟨.other,1,8,[.nilFunc]⟩),
 (339,⟨.other,1,8,[.nilFunc]⟩),
 (343,⟨.other,1,8,[.nilFunc]⟩),
 (345,⟨.other,1,8,[.nilFunc]⟩),
 (359,⟨.other,1,8,[.nilFunc]⟩),
 (360,⟨.other,1,8,[.nilFunc]⟩),
 (363,⟨.other,1,8,[.nilFunc]⟩),
 (393,⟨.other,1,8,[.nilFunc]⟩),
 (401,⟨.st [(0,398),(1,399),(2,3)],3,56,[zl,zl,iQ 0]⟩),
 (407,⟨.other,1,8,[.nilFunc]⟩),
 (411,⟨.other,1,8,[.nilFunc]⟩),
 (418,⟨.st [(0,417)],0,0,[]⟩),
 (419,⟨.st [(0,417)],0,0,[]⟩),
 (421,⟨.int .u8,1,1,[.int .u8 0]⟩),
 (426,⟨.st [(0,12),(1,12),(2,247),(3,420),(4,5),(5,5),(6,421),(7,422),(8,239),(9,423),(10,424)],11,48,[.int .u64 0,.int .u64 0,.int .u32 0,.int .u8 0,.int .u8 0,.int .u8 0,.int .u8 0,.nilFunc,.pointer none,.int .i32 0,.int .i32 0]⟩),
 (427,⟨.other,1,8,[.nilFunc]⟩),
 (43,⟨.st [(0,3),(1,41),(3,38),(4,42)],5,88,[iQ 0,.string ⟨#[]⟩,zl,.string ⟨#[]⟩,zl]⟩),
 (47,⟨.st [(0,9),(1,3),(2,3),(3,3)],4,40,[.string ⟨#[]⟩,iQ 0,iQ 0,iQ 0]⟩),
 (54,⟨.other,1,8,[.nilFunc]⟩),
 (60,⟨.st [(0,5),(1,55),(2,56),(3,57),(4,58),(5,59)],6,128,[.int .u8 0,zl,zl,zl,zl,zl]⟩),
 (67,⟨.other,1,8,[.nilFunc]⟩),
 (71,⟨.other,1,8,[.nilFunc]⟩),
 (78,⟨.other,1,8,[.nilFunc]⟩),
 (85,⟨.st [(0,84)],1,24,[zl]⟩),
 (88,⟨.ar 3 38,3,48,[.string ⟨#[]⟩,.string ⟨#[]⟩,.string ⟨#[]⟩]⟩),
 (95,⟨.st [(0,9),(1,41)],3,56,[.string ⟨#[]⟩,.string ⟨#[]⟩,zl]⟩),
 (101,⟨.other,1,8,[.nilFunc]⟩),
 (107,⟨.other,1,8,[.nilFunc]⟩),
 (108,⟨.other,1,8,[.nilFunc]⟩),
 (117,⟨.st [(0,116),(2,26)],3,56,[.pointer none,zl,zl]⟩),
 (153,⟨.other,1,8,[.nilFunc]⟩),
 (159,⟨.other,1,8,[.nilFunc]⟩),
 (160,⟨.other,1,8,[.nilFunc]⟩),
 (161,⟨.other,1,8,[.nilFunc]⟩),
 (162,⟨.other,1,8,[.nilFunc]⟩),
 (163,⟨.other,1,8,[.nilFunc]⟩),
 (166,⟨.other,1,8,[.nilFunc]⟩),
 (167,⟨.other,1,8,[.nilFunc]⟩),
 (173,⟨.other,1,8,[.nilFunc]⟩),
 (174,⟨.other,1,8,[.nilFunc]⟩),
 (175,⟨.other,1,8,[.nilFunc]⟩),
 (177,⟨.other,1,8,[.nilFunc]⟩),
 (178,⟨.other,1,8,[.nilFunc]⟩),
 (182,⟨.other,1,8,[.nilFunc]⟩),
 (184,⟨.other,1,8,[.nilFunc]⟩),
 (214,⟨.other,1,8,[.nilFunc]⟩),
 (232,⟨.other,1,8,[.nilFunc]⟩),
 (233,⟨.other,1,8,[.nilFunc]⟩),
 (241,⟨.other,1,8,[.nilFunc]⟩),
 (253,⟨.other,1,8,[.nilFunc]⟩),
 (264,⟨.other,1,8,[.nilFunc]⟩),
 (267,⟨.st [],0,0,[]⟩),
 (268,⟨.st [(0,267),(0,247)],1,4,[.int .u32 0]⟩),
 (274,⟨.st [(0,266),(0,269),(1,273)],3,12,[.int .u32 0,.int .i32 0,.int .u32 0]⟩),
 (276,⟨.other,1,16,[.nilIface]⟩),
 (278,⟨.st [(0,275),(3,277),(4,69)],5,56,[.int .u32 0,.int .i32 0,.int .u32 0,.nilIface,zl]⟩),
 (283,⟨.other,1,8,[.nilFunc]⟩),
 (285,⟨.other,1,8,[.nilFunc]⟩),
 (294,⟨.st [(0,9),(1,3),(2,3),(3,3)],4,40,[.string ⟨#[]⟩,iQ 0,iQ 0,iQ 0]⟩),
 (295,⟨.st [(0,9),(1,3),(2,3),(3,3)],4,40,[.string ⟨#[]⟩,iQ 0,iQ 0,iQ 0]⟩),
 (304,⟨.other,1,8,[.nilFunc]⟩),
 (309,⟨.other,1,8,[.nilFunc]⟩),
 (314,⟨.other,1,8,[.nilFunc]⟩),
 (316,⟨.other,1,8,[.nilFunc]⟩),
 (318,⟨.other,1,8,[.nilFunc]⟩),
 (321,⟨.other,1,8,[.nilFunc]⟩),
 (323,⟨.other,1,8,[.nilFunc]⟩),
 (330,⟨.other,1,8,[.nilFunc]⟩),
 (337,⟨.other,1,8,[.nilFunc]⟩),
 (341,⟨.other,1,8,[.nilFunc]⟩),
 (353,⟨.other,1,8,[.nilFunc]⟩),
 (355,⟨.other,1,8,[.nilFunc]⟩),
 (362,⟨.other,1,8,[.nilFunc]⟩),
 (365,⟨.other,1,8,[.nilFunc]⟩),
 (367,⟨.st [(0,364),(1,9)],2,24,[.pointer none,.string ⟨#[]⟩]⟩),
 (370,⟨.st [(0,9),(1,3),(2,9),(3,368),(4,369)],5,72,[.string ⟨#[]⟩,iQ 0,.string ⟨#[]⟩,.pointer none,zl]⟩),
 (380,⟨.other,1,8,[.nilFunc]⟩),
 (382,⟨.other,1,8,[.nilFunc]⟩),
 (394,⟨.other,1,8,[.nilFunc]⟩),
 (404,⟨.other,1,8,[.nilFunc]⟩),
 (405,⟨.st [(0,247),(1,247),(2,247)],3,12,[.int .u32 0,.int .u32 0,.int .u32 0]⟩),
 (410,⟨.st [(0,9)],1,16,[.string ⟨#[]⟩]⟩),
 (416,⟨.st [(0,17),(1,17),(2,17),(3,9)],4,40,[.pointer none,.pointer none,.pointer none,.string ⟨#[]⟩]⟩),
 (420,⟨.int .u8,1,1,[.int .u8 0]⟩),
 (423,⟨.int .i32,1,4,[.int .i32 0]⟩),
 (424,⟨.int .i32,1,4,[.int .i32 0]⟩),
 (433,⟨.other,1,16,[.nilIface]⟩),
 (437,⟨.other,1,8,[.nilFunc]⟩),
 (24,⟨.st [(0,22),(1,23)],2,48,[zl,zl]⟩),
 (29,⟨.st [(0,9),(1,25),(3,26),(4,27),(5,28)],6,136,[.string ⟨#[]⟩,zl,zl,zl,zl,zl]⟩),
 (75,⟨.other,1,8,[.nilFunc]⟩),
 (79,⟨.st [(0,3),(1,38)],2,24,[iQ 0,.string ⟨#[]⟩]⟩),
 (90,⟨.st [(0,87),(4,89)],7,80,[iQ 0,iQ 0,iQ 0,iQ 0,.string ⟨#[]⟩,.string ⟨#[]⟩,.string ⟨#[]⟩]⟩),
 (115,⟨.st [(0,114),(1,68)],2,32,[.pointer none,zl]⟩),
 (140,⟨.st [(0,139),(2,139)],4,64,[.bool false,zl,.bool false,zl]⟩),
 (195,⟨.other,1,16,[.nilIface]⟩),
 (210,⟨.st [(0,3),(1,9),(2,3),(3,3)],4,40,[iQ 0,.string ⟨#[]⟩,iQ 0,iQ 0]⟩),
 (218,⟨.st [(0,207),(1,3),(2,3),(3,33)],4,48,[zl,iQ 0,iQ 0,iQ 0]⟩),
 (265,⟨.st [],0,0,[]⟩),
 (266,⟨.st [],0,0,[]⟩),
 (272,⟨.st [(0,266),(0,271)],2,8,[.int .i32 0,.int .u32 0]⟩),
 (289,⟨.st [(0,3),(1,287),(2,288)],3,24,[iQ 0,.nilFunc,.nilFunc]⟩),
 (350,⟨.st [(0,349),(256,69)],257,6168,p7 257 zl⟩),
 (366,⟨.st [(0,364),(1,9)],2,24,[.pointer none,.string ⟨#[]⟩]⟩),
 (378,⟨.st [(0,3),(1,3)],2,16,[iQ 0,iQ 0]⟩),
 (383,⟨.st [(0,5),(1,5)],2,2,[.int .u8 0,.int .u8 0]⟩),
 (386,⟨.st [(0,9),(1,9),(2,196)],3,48,[.string ⟨#[]⟩,.string ⟨#[]⟩,.nilIface]⟩),
 (400,⟨.st [(0,398),(1,399),(2,3)],3,56,[zl,zl,iQ 0]⟩),
 (402,⟨.st [(0,62),(1,62),(2,62)],3,6,[.int .u16 0,.int .u16 0,.int .u16 0]⟩),
 (409,⟨.st [(0,9)],1,16,[.string ⟨#[]⟩]⟩),
 (415,⟨.st [(0,17),(1,17),(2,17),(3,9)],4,40,[.pointer none,.pointer none,.pointer none,.string ⟨#[]⟩]⟩),
 (417,⟨.ar 0 16,0,0,[]⟩),
 (422,⟨.other,1,8,[.nilFunc]⟩),
 (425,⟨.st [(0,12),(1,12),(2,247),(3,420),(4,5),(5,5),(6,421),(7,422),(8,239),(9,423),(10,424)],11,48,[.int .u64 0,.int .u64 0,.int .u32 0,.int .u8 0,.int .u8 0,.int .u8 0,.int .u8 0,.nilFunc,.pointer none,.int .i32 0,.int .i32 0]⟩),
 (431,⟨.other,1,16,[.nilIface]⟩),
 (439,⟨.st [(0,432)],1,16,[.nilIface]⟩)]
theorem gA {P:Program} {t s b:Nat} {k:TK} {z:List Value} (i:TypeInfo) (hk:XX P t k) (h1:P.info? t=some i:=by kernel_rfl) (h2:i.size=s:=by kernel_rfl) (h3:i.bytes=b:=by kernel_rfl) (h4:∃y,i.zero=some y/\y.cells=z.toArray/\z.length=s:=by exact⟨_,rfl,kr,kr⟩):gZ P t ⟨k,s,b,z⟩:=⟨⟨i,h1,h2,h3,h4⟩,hk⟩
theorem fc {p:Nat×TI->Prop} {a:Nat×TI} {l:List (Nat×TI)} (h:p a) (k:∀x∈l,p x):∀x∈a::l,p x:=List.forall_mem_cons.2 ⟨h,k⟩
theorem Jo :∀p∈tt,gZ Tryz.prog p.1 p.2:=by
 unfold tt;refine fc (gA Tryz.t3 Tryz.underlying3) ?_;refine fc (gA Tryz.t4 Tryz.underlying4) ?_;refine fc (gA Tryz.t9 Tryz.underlying9) ?_;refine fc (gA Tryz.t5 Tryz.underlying5) ?_;refine fc (gA Tryz.t1 ⟨_,Tryz.underlying1,rfl⟩) ?_;refine fc (gA Tryz.t33 Tryz.underlying33) ?_;refine fc (gA Tryz.t2 Tryz.underlying2) ?_;refine fc (gA Tryz.t248 Tryz.underlying248) ?_;refine fc (gA Tryz.t247 Tryz.underlying247) ?_;refine fc (gA Tryz.t6 Tryz.underlying6) ?_;refine fc (gA Tryz.t21 Tryz.underlying21) ?_;refine fc (gA Tryz.t7 ⟨_,Tryz.underlying7,rfl⟩) ?_;refine fc (gA Tryz.t137 Tryz.underlying137) ?_;refine fc (gA Tryz.t30 ⟨_,Tryz.underlying30,rfl⟩) ?_;refine fc (gA Tryz.t8 ⟨_,Tryz.underlying8,rfl⟩) ?_;refine fc (gA Tryz.t139 ⟨_,Tryz.underlying139,rfl⟩) ?_;refine fc (gA Tryz.t38 Tryz.underlying38) ?_;refine fc (gA Tryz.t44 ⟨_,Tryz.underlying44,rfl⟩) ?_;refine fc (gA Tryz.t151 ⟨_,Tryz.underlying151,rfl⟩) ?_;refine fc (gA Tryz.t68 Tryz.underlying68) ?_;refine fc (gA Tryz.t69 Tryz.underlying69) ?_;refine fc (gA Tryz.t74 ⟨_,Tryz.underlying74,rfl⟩) ?_;refine fc (gA Tryz.t10 Tryz.underlying10) ?_;refine fc (gA Tryz.t135 Tryz.underlying135) ?_;refine fc (gA Tryz.t26 Tryz.underlying26) ?_;refine fc (gA Tryz.t83 ⟨_,Tryz.underlying83,rfl⟩) ?_;refine fc (gA Tryz.t141 ⟨_,Tryz.underlying141,rfl⟩) ?_;refine fc (gA Tryz.t11 Tryz.underlying11) ?_;refine fc (gA Tryz.t368 ⟨_,Tryz.underlying368,rfl⟩) ?_;refine fc (gA Tryz.t41 ⟨_,Tryz.underlying41,rfl⟩) ?_;refine fc (gA Tryz.t48 ⟨_,Tryz.underlying48,rfl⟩) ?_;refine fc (gA Tryz.t211 ⟨_,Tryz.underlying211,rfl⟩) ?_;refine fc (gA Tryz.t12 Tryz.underlying12) ?_;refine fc (gA Tryz.t25 ⟨_,Tryz.underlying25,rfl⟩) ?_;refine fc (gA Tryz.t152 ⟨_,Tryz.underlying152,rfl⟩) ?_;refine fc (gA Tryz.t93 ⟨_,Tryz.underlying93,rfl⟩) ?_;refine fc (gA Tryz.t196 ⟨_,Tryz.underlying196,rfl⟩) ?_;refine fc (gA Tryz.t62 Tryz.underlying62) ?_;refine fc (gA Tryz.t22 Tryz.underlying22) ?_;refine fc (gA Tryz.t113 ⟨_,Tryz.underlying113,rfl⟩) ?_;refine fc (gA Tryz.t13 ⟨_,Tryz.underlying13,rfl⟩) ?_;refine fc (gA Tryz.t28 Tryz.underlying28) ?_;refine fc (gA Tryz.t27 Tryz.underlying27) ?_;refine fc (gA Tryz.t114 ⟨_,Tryz.underlying114,rfl⟩) ?_;refine fc (gA Tryz.t23 Tryz.underlying23) ?_;refine fc (gA Tryz.t344 ⟨_,Tryz.underlying344,rfl⟩) ?_;refine fc (gA Tryz.t42 Tryz.underlying42) ?_;refine fc (gA Tryz.t84 Tryz.underlying84) ?_;refine fc (gA Tryz.t156 ⟨_,Tryz.underlying156,rfl⟩) ?_;refine fc (gA Tryz.t39 Tryz.underlying39) ?_;refine fc (gA Tryz.t96 ⟨_,Tryz.underlying96,rfl⟩) ?_;refine fc (gA Tryz.t14 ⟨_,Tryz.underlying14,rfl⟩) ?_;refine fc (gA Tryz.t110 ⟨_,Tryz.underlying110,rfl⟩) ?_;refine fc (gA Tryz.t98 ⟨_,Tryz.underlying98,rfl⟩) ?_;refine fc (gA Tryz.t80 ⟨_,Tryz.underlying80,rfl⟩) ?_;refine fc (gA Tryz.t81 Tryz.underlying81) ?_;refine fc (gA Tryz.t86 ⟨_,Tryz.underlying86,rfl⟩) ?_;refine fc (gA Tryz.t293 ⟨_,Tryz.underlying293,rfl⟩) ?_;refine fc (gA Tryz.t116 ⟨_,Tryz.underlying116,rfl⟩) ?_;refine fc (gA Tryz.t434 ⟨_,Tryz.underlying434,rfl⟩) ?_;refine fc (gA Tryz.t119 ⟨_,Tryz.underlying119,rfl⟩) ?_;refine fc (gA Tryz.t389 ⟨_,Tryz.underlying389,rfl⟩) ?_;refine fc (gA Tryz.t61 ⟨_,Tryz.underlying61,rfl⟩) ?_;refine fc (gA Tryz.t120 ⟨_,Tryz.underlying120,rfl⟩) ?_;refine fc (gA Tryz.t124 Tryz.underlying124) ?_;refine fc (gA Tryz.t89 Tryz.underlying89) ?_;refine fc (gA Tryz.t122 Tryz.underlying122) ?_;refine fc (gA Tryz.t133 Tryz.underlying133) ?_;refine fc (gA Tryz.t91 ⟨_,Tryz.underlying91,rfl⟩) ?_;refine fc (gA Tryz.t198 ⟨_,Tryz.underlying198,rfl⟩) ?_;refine fc (gA Tryz.t364 ⟨_,Tryz.underlying364,rfl⟩) ?_;refine fc (gA Tryz.t205 ⟨_,Tryz.underlying205,rfl⟩) ?_;refine fc (gA Tryz.t287 ⟨_,Tryz.underlying287,rfl⟩) ?_;refine fc (gA Tryz.t31 ⟨_,Tryz.underlying31,rfl⟩) ?_;refine fc (gA Tryz.t207 Tryz.underlying207) ?_;refine fc (gA Tryz.t220 ⟨_,Tryz.underlying220,rfl⟩) ?_;refine fc (gA Tryz.t236 ⟨_,Tryz.underlying236,rfl⟩) ?_;refine fc (gA Tryz.t15 ⟨_,Tryz.underlying15,rfl⟩) ?_;refine fc (gA Tryz.t19 ⟨_,Tryz.underlying19,rfl⟩) ?_;refine fc (gA Tryz.t106 ⟨_,Tryz.underlying106,rfl⟩) ?_;refine fc (gA Tryz.t432 ⟨_,Tryz.underlying432,rfl⟩) ?_;refine fc (gA Tryz.t181 ⟨_,Tryz.underlying181,rfl⟩) ?_;refine fc (gA Tryz.t206 ⟨_,Tryz.underlying206,rfl⟩) ?_;refine fc (gA Tryz.t221 ⟨_,Tryz.underlying221,rfl⟩) ?_;refine fc (gA Tryz.t398 Tryz.underlying398) ?_;refine fc (gA Tryz.t413 ⟨_,Tryz.underlying413,rfl⟩) ?_;refine fc (gA Tryz.t145 ⟨_,Tryz.underlying145,rfl⟩) ?_;refine fc (gA Tryz.t186 ⟨_,Tryz.underlying186,rfl⟩) ?_;refine fc (gA Tryz.t226 ⟨_,Tryz.underlying226,rfl⟩) ?_;refine fc (gA Tryz.t286 ⟨_,Tryz.underlying286,rfl⟩) ?_;refine fc (gA Tryz.t352 ⟨_,Tryz.underlying352,rfl⟩) ?_;refine fc (gA Tryz.t356 Tryz.underlying356) ?_;refine fc (gA Tryz.t369 Tryz.underlying369) ?_;refine fc (gA Tryz.t180 ⟨_,Tryz.underlying180,rfl⟩) ?_;refine fc (gA Tryz.t357 ⟨_,Tryz.underlying357,rfl⟩) ?_;refine fc (gA Tryz.t377 Tryz.underlying377) ?_;refine fc (gA Tryz.t381 ⟨_,Tryz.underlying381,rfl⟩) ?_;refine fc (gA Tryz.t46 ⟨_,Tryz.underlying46,rfl⟩) ?_;refine fc (gA Tryz.t158 ⟨_,Tryz.underlying158,rfl⟩) ?_;refine fc (gA Tryz.t193 ⟨_,Tryz.underlying193,rfl⟩) ?_;refine fc (gA Tryz.t216 ⟨_,Tryz.underlying216,rfl⟩) ?_;refine fc (gA Tryz.t342 ⟨_,Tryz.underlying342,rfl⟩) ?_;refine fc (gA Tryz.t399 Tryz.underlying399) ?_;refine fc (gA Tryz.t403 ⟨_,Tryz.underlying403,rfl⟩) ?_;refine fc (gA Tryz.t429 Tryz.underlying429) ?_;refine fc (gA Tryz.t17 ⟨_,Tryz.underlying17,rfl⟩) ?_;refine fc (gA Tryz.t290 ⟨_,Tryz.underlying290,rfl⟩) ?_;refine fc (gA Tryz.t291 Tryz.underlying291) ?_;refine fc (gA Tryz.t340 ⟨_,Tryz.underlying340,rfl⟩) ?_;refine fc (gA Tryz.t358 ⟨_,Tryz.underlying358,rfl⟩) ?_;refine fc (gA Tryz.t384 ⟨_,Tryz.underlying384,rfl⟩) ?_;refine fc (gA Tryz.t406 ⟨_,Tryz.underlying406,rfl⟩) ?_;refine fc (gA Tryz.t72 ⟨_,Tryz.underlying72,rfl⟩) ?_;refine fc (gA Tryz.t87 Tryz.underlying87) ?_;refine fc (gA Tryz.t94 ⟨_,Tryz.underlying94,rfl⟩) ?_;refine fc (gA Tryz.t148 Tryz.underlying148) ?_;refine fc (gA Tryz.t189 ⟨_,Tryz.underlying189,rfl⟩) ?_;refine fc (gA Tryz.t215 ⟨_,Tryz.underlying215,rfl⟩) ?_;refine fc (gA Tryz.t222 ⟨_,Tryz.underlying222,rfl⟩) ?_;refine fc (gA Tryz.t302 ⟨_,Tryz.underlying302,rfl⟩) ?_;refine fc (gA Tryz.t333 ⟨_,Tryz.underlying333,rfl⟩) ?_;refine fc (gA Tryz.t349 Tryz.underlying349) ?_;refine fc (gA Tryz.t351 ⟨_,Tryz.underlying351,rfl⟩) ?_;refine fc (gA Tryz.t18 ⟨_,Tryz.underlying18,rfl⟩) ?_;refine fc (gA Tryz.t131 ⟨_,Tryz.underlying131,rfl⟩) ?_;refine fc (gA Tryz.t134 Tryz.underlying134) ?_;refine fc (gA Tryz.t146 Tryz.underlying146) ?_;refine fc (gA Tryz.t157 ⟨_,Tryz.underlying157,rfl⟩) ?_;refine fc (gA Tryz.t169 ⟨_,Tryz.underlying169,rfl⟩) ?_;refine fc (gA Tryz.t192 Tryz.underlying192) ?_;refine fc (gA Tryz.t213 ⟨_,Tryz.underlying213,rfl⟩) ?_;refine fc (gA Tryz.t219 ⟨_,Tryz.underlying219,rfl⟩) ?_;refine fc (gA Tryz.t249 ⟨_,Tryz.underlying249,rfl⟩) ?_;refine fc (gA Tryz.t263 ⟨_,Tryz.underlying263,rfl⟩) ?_;refine fc (gA Tryz.t311 ⟨_,Tryz.underlying311,rfl⟩) ?_;refine fc (gA Tryz.t315 ⟨_,Tryz.underlying315,rfl⟩) ?_;refine fc (gA Tryz.t371 ⟨_,Tryz.underlying371,rfl⟩) ?_;refine fc (gA Tryz.t391 ⟨_,Tryz.underlying391,rfl⟩) ?_;refine fc (gA Tryz.t34 ⟨_,Tryz.underlying34,rfl⟩) ?_;refine fc (gA Tryz.t63 ⟨_,Tryz.underlying63,rfl⟩) ?_;refine fc (gA Tryz.t105 ⟨_,Tryz.underlying105,rfl⟩) ?_;refine fc (gA Tryz.t144 ⟨_,Tryz.underlying144,rfl⟩) ?_;refine fc (gA Tryz.t171 ⟨_,Tryz.underlying171,rfl⟩) ?_;refine fc (gA Tryz.t348 ⟨_,Tryz.underlying348,rfl⟩) ?_;refine fc (gA Tryz.t354 ⟨_,Tryz.underlying354,rfl⟩) ?_;refine fc (gA Tryz.t414 ⟨_,Tryz.underlying414,rfl⟩) ?_;refine fc (gA Tryz.t430 ⟨_,Tryz.underlying430,rfl⟩) ?_;refine fc (gA Tryz.t20 ⟨_,Tryz.underlying20,rfl⟩) ?_;refine fc (gA Tryz.t36 ⟨_,Tryz.underlying36,rfl⟩) ?_;refine fc (gA Tryz.t65 ⟨_,Tryz.underlying65,rfl⟩) ?_;refine fc (gA Tryz.t70 ⟨_,Tryz.underlying70,rfl⟩) ?_;refine fc (gA Tryz.t99 ⟨_,Tryz.underlying99,rfl⟩) ?_;refine fc (gA Tryz.t109 ⟨_,Tryz.underlying109,rfl⟩) ?_;refine fc (gA Tryz.t126 ⟨_,Tryz.underlying126,rfl⟩) ?_;refine fc (gA Tryz.t132 ⟨_,Tryz.underlying132,rfl⟩) ?_;refine fc (gA Tryz.t136 Tryz.underlying136) ?_;refine fc (gA Tryz.t172 ⟨_,Tryz.underlying172,rfl⟩) ?_;refine fc (gA Tryz.t191 ⟨_,Tryz.underlying191,rfl⟩) ?_;refine fc (gA Tryz.t235 ⟨_,Tryz.underlying235,rfl⟩) ?_;refine fc (gA Tryz.t259 ⟨_,Tryz.underlying259,rfl⟩) ?_;refine fc (gA Tryz.t374 ⟨_,Tryz.underlying374,rfl⟩) ?_;refine fc (gA Tryz.t379 ⟨_,Tryz.underlying379,rfl⟩) ?_;refine fc (gA Tryz.t45 ⟨_,Tryz.underlying45,rfl⟩) ?_;refine fc (gA Tryz.t103 ⟨_,Tryz.underlying103,rfl⟩) ?_;refine fc (gA Tryz.t203 ⟨_,Tryz.underlying203,rfl⟩) ?_;refine fc (gA Tryz.t223 ⟨_,Tryz.underlying223,rfl⟩) ?_;refine fc (gA Tryz.t277 ⟨_,Tryz.underlying277,rfl⟩) ?_;refine fc (gA Tryz.t281 Tryz.underlying281) ?_;refine fc (gA Tryz.t288 ⟨_,Tryz.underlying288,rfl⟩) ?_;refine fc (gA Tryz.t375 Tryz.underlying375) ?_;refine fc (gA Tryz.t387 ⟨_,Tryz.underlying387,rfl⟩) ?_;refine fc (gA Tryz.t435 ⟨_,Tryz.underlying435,rfl⟩) ?_;refine fc (gA Tryz.t49 ⟨_,Tryz.underlying49,rfl⟩) ?_;refine fc (gA Tryz.t50 ⟨_,Tryz.underlying50,rfl⟩) ?_;refine fc (gA Tryz.t51 ⟨_,Tryz.underlying51,rfl⟩) ?_;refine fc (gA Tryz.t66 ⟨_,Tryz.underlying66,rfl⟩) ?_;refine fc (gA Tryz.t128 ⟨_,Tryz.underlying128,rfl⟩) ?_;refine fc (gA Tryz.t165 ⟨_,Tryz.underlying165,rfl⟩) ?_;refine fc (gA Tryz.t170 ⟨_,Tryz.underlying170,rfl⟩) ?_;refine fc (gA Tryz.t176 ⟨_,Tryz.underlying176,rfl⟩) ?_;refine fc (gA Tryz.t224 ⟨_,Tryz.underlying224,rfl⟩) ?_;refine fc (gA Tryz.t234 ⟨_,Tryz.underlying234,rfl⟩) ?_;refine fc (gA Tryz.t243 ⟨_,Tryz.underlying243,rfl⟩) ?_;refine fc (gA Tryz.t244 ⟨_,Tryz.underlying244,rfl⟩) ?_;refine fc (gA Tryz.t255 ⟨_,Tryz.underlying255,rfl⟩) ?_;refine fc (gA Tryz.t262 ⟨_,Tryz.underlying262,rfl⟩) ?_;refine fc (gA Tryz.t269 ⟨_,Tryz.underlying269,rfl⟩) ?_;refine fc (gA Tryz.t282 ⟨_,Tryz.underlying282,rfl⟩) ?_;refine fc (gA Tryz.t296 ⟨_,Tryz.underlying296,rfl⟩) ?_;refine fc (gA Tryz.t298 ⟨_,Tryz.underlying298,rfl⟩) ?_;refine fc (gA Tryz.t328 ⟨_,Tryz.underlying328,rfl⟩) ?_;refine fc (gA Tryz.t335 ⟨_,Tryz.underlying335,rfl⟩) ?_;refine fc (gA Tryz.t338 ⟨_,Tryz.underlying338,rfl⟩) ?_;refine fc (gA Tryz.t361 ⟨_,Tryz.underlying361,rfl⟩) ?_;refine fc (gA Tryz.t376 Tryz.underlying376) ?_;refine fc (gA Tryz.t385 Tryz.underlying385) ?_;refine fc (gA Tryz.t388 ⟨_,Tryz.underlying388,rfl⟩) ?_;refine fc (gA Tryz.t390 ⟨_,Tryz.underlying390,rfl⟩) ?_;refine fc (gA Tryz.t412 ⟨_,Tryz.underlying412,rfl⟩) ?_;refine fc (gA Tryz.t16 ⟨_,Tryz.underlying16,rfl⟩) ?_;refine fc (gA Tryz.t53 ⟨_,Tryz.underlying53,rfl⟩) ?_;refine fc (gA Tryz.t57 Tryz.underlying57) ?_;refine fc (gA Tryz.t59 Tryz.underlying59) ?_;refine fc (gA Tryz.t73 ⟨_,Tryz.underlying73,rfl⟩) ?_;refine fc (gA Tryz.t92 ⟨_,Tryz.underlying92,rfl⟩) ?_;refine fc (gA Tryz.t97 ⟨_,Tryz.underlying97,rfl⟩) ?_;refine fc (gA Tryz.t102 ⟨_,Tryz.underlying102,rfl⟩) ?_;refine fc (gA Tryz.t104 ⟨_,Tryz.underlying104,rfl⟩) ?_;refine fc (gA Tryz.t111 ⟨_,Tryz.underlying111,rfl⟩) ?_;refine fc (gA Tryz.t118 ⟨_,Tryz.underlying118,rfl⟩) ?_;refine fc (gA Tryz.t123 ⟨_,Tryz.underlying123,rfl⟩) ?_;refine fc (gA Tryz.t129 ⟨_,Tryz.underlying129,rfl⟩) ?_;refine fc (gA Tryz.t168 ⟨_,Tryz.underlying168,rfl⟩) ?_;refine fc (gA Tryz.t179 ⟨_,Tryz.underlying179,rfl⟩) ?_;refine fc (gA Tryz.t185 ⟨_,Tryz.underlying185,rfl⟩) ?_;refine fc (gA Tryz.t187 Tryz.underlying187) ?_;refine fc (gA Tryz.t194 ⟨_,Tryz.underlying194,rfl⟩) ?_;refine fc (gA Tryz.t199 ⟨_,Tryz.underlying199,rfl⟩) ?_;refine fc (gA Tryz.t202 ⟨_,Tryz.underlying202,rfl⟩) ?_;refine fc (gA Tryz.t204 ⟨_,Tryz.underlying204,rfl⟩) ?_;refine fc (gA Tryz.t212 ⟨_,Tryz.underlying212,rfl⟩) ?_;refine fc (gA Tryz.t217 ⟨_,Tryz.underlying217,rfl⟩) ?_;refine fc (gA Tryz.t225 ⟨_,Tryz.underlying225,rfl⟩) ?_;refine fc (gA Tryz.t228 ⟨_,Tryz.underlying228,rfl⟩) ?_;refine fc (gA Tryz.t237 ⟨_,Tryz.underlying237,rfl⟩) ?_;refine fc (gA Tryz.t239 ⟨_,Tryz.underlying239,rfl⟩) ?_;refine fc (gA Tryz.t240 ⟨_,Tryz.underlying240,rfl⟩) ?_;refine fc (gA Tryz.t251 ⟨_,Tryz.underlying251,rfl⟩) ?_;refine fc (gA Tryz.t252 ⟨_,Tryz.underlying252,rfl⟩) ?_;refine fc (gA Tryz.t256 ⟨_,Tryz.underlying256,rfl⟩) ?_;refine fc (gA Tryz.t258 ⟨_,Tryz.underlying258,rfl⟩) ?_;refine fc (gA Tryz.t261 ⟨_,Tryz.underlying261,rfl⟩) ?_;refine fc (gA Tryz.t271 ⟨_,Tryz.underlying271,rfl⟩) ?_;refine fc (gA Tryz.t275 ⟨_,Tryz.underlying275,rfl⟩) ?_;refine fc (gA Tryz.t280 ⟨_,Tryz.underlying280,rfl⟩) ?_;refine fc (gA Tryz.t292 ⟨_,Tryz.underlying292,rfl⟩) ?_;refine fc (gA Tryz.t297 ⟨_,Tryz.underlying297,rfl⟩) ?_;refine fc (gA Tryz.t301 ⟨_,Tryz.underlying301,rfl⟩) ?_;refine fc (gA Tryz.t305 ⟨_,Tryz.underlying305,rfl⟩) ?_;refine fc (gA Tryz.t313 ⟨_,Tryz.underlying313,rfl⟩) ?_;refine fc (gA Tryz.t317 ⟨_,Tryz.underlying317,rfl⟩) ?_;refine fc (gA Tryz.t319 Tryz.underlying319) ?_;refine fc (gA Tryz.t325 ⟨_,Tryz.underlying325,rfl⟩) ?_;refine fc (gA Tryz.t326 ⟨_,Tryz.underlying326,rfl⟩) ?_;refine fc (gA Tryz.t392 ⟨_,Tryz.underlying392,rfl⟩) ?_;refine fc (gA Tryz.t408 ⟨_,Tryz.underlying408,rfl⟩) ?_;refine fc (gA Tryz.t428 ⟨_,Tryz.underlying428,rfl⟩) ?_;refine fc (gA Tryz.t440 ⟨_,Tryz.underlying440,rfl⟩) ?_;refine fc (gA Tryz.t441 ⟨_,Tryz.underlying441,rfl⟩) ?_;refine fc (gA Tryz.t32 ⟨_,Tryz.underlying32,rfl⟩) ?_;refine fc (gA Tryz.t37 ⟨_,Tryz.underlying37,rfl⟩) ?_;refine fc (gA Tryz.t40 ⟨_,Tryz.underlying40,rfl⟩) ?_;refine fc (gA Tryz.t52 ⟨_,Tryz.underlying52,rfl⟩) ?_;refine fc (gA Tryz.t55 Tryz.underlying55) ?_;refine fc (gA Tryz.t56 Tryz.underlying56) ?_;refine fc (gA Tryz.t58 Tryz.underlying58) ?_;refine fc (gA Tryz.t77 ⟨_,Tryz.underlying77,rfl⟩) ?_;refine fc (gA Tryz.t82 ⟨_,Tryz.underlying82,rfl⟩) ?_;refine fc (gA Tryz.t100 ⟨_,Tryz.underlying100,rfl⟩) ?_;refine fc (gA Tryz.t112 ⟨_,Tryz.underlying112,rfl⟩) ?_;refine fc (gA Tryz.t121 Tryz.underlying121) ?_;refine fc (gA Tryz.t125 ⟨_,Tryz.underlying125,rfl⟩) ?_;refine fc (gA Tryz.t127 ⟨_,Tryz.underlying127,rfl⟩) ?_;refine fc (gA Tryz.t130 ⟨_,Tryz.underlying130,rfl⟩) ?_;refine fc (gA Tryz.t138 ⟨_,Tryz.underlying138,rfl⟩) ?_;refine fc (gA Tryz.t143 ⟨_,Tryz.underlying143,rfl⟩) ?_;refine fc (gA Tryz.t147 ⟨_,Tryz.underlying147,rfl⟩) ?_;refine fc (gA Tryz.t150 ⟨_,Tryz.underlying150,rfl⟩) ?_;refine fc (gA Tryz.t154 ⟨_,Tryz.underlying154,rfl⟩) ?_;refine fc (gA Tryz.t155 ⟨_,Tryz.underlying155,rfl⟩) ?_;refine fc (gA Tryz.t183 ⟨_,Tryz.underlying183,rfl⟩) ?_;refine fc (gA Tryz.t188 ⟨_,Tryz.underlying188,rfl⟩) ?_;refine fc (gA Tryz.t190 ⟨_,Tryz.underlying190,rfl⟩) ?_;refine fc (gA Tryz.t200 ⟨_,Tryz.underlying200,rfl⟩) ?_;refine fc (gA Tryz.t209 ⟨_,Tryz.underlying209,rfl⟩) ?_;refine fc (gA Tryz.t227 ⟨_,Tryz.underlying227,rfl⟩) ?_;refine fc (gA Tryz.t229 ⟨_,Tryz.underlying229,rfl⟩) ?_;refine fc (gA Tryz.t230 ⟨_,Tryz.underlying230,rfl⟩) ?_;refine fc (gA Tryz.t231 ⟨_,Tryz.underlying231,rfl⟩) ?_;refine fc (gA Tryz.t238 ⟨_,Tryz.underlying238,rfl⟩) ?_;refine fc (gA Tryz.t242 ⟨_,Tryz.underlying242,rfl⟩) ?_;refine fc (gA Tryz.t246 ⟨_,Tryz.underlying246,rfl⟩) ?_;refine fc (gA Tryz.t270 ⟨_,Tryz.underlying270,rfl⟩) ?_;refine fc (gA Tryz.t273 ⟨_,Tryz.underlying273,rfl⟩) ?_;refine fc (gA Tryz.t279 ⟨_,Tryz.underlying279,rfl⟩) ?_;refine fc (gA Tryz.t310 ⟨_,Tryz.underlying310,rfl⟩) ?_;refine fc (gA Tryz.t322 ⟨_,Tryz.underlying322,rfl⟩) ?_;refine fc (gA Tryz.t324 ⟨_,Tryz.underlying324,rfl⟩) ?_;refine fc (gA Tryz.t327 ⟨_,Tryz.underlying327,rfl⟩) ?_;refine fc (gA Tryz.t332 ⟨_,Tryz.underlying332,rfl⟩) ?_;refine fc (gA Tryz.t336 ⟨_,Tryz.underlying336,rfl⟩) ?_;refine fc (gA Tryz.t339 ⟨_,Tryz.underlying339,rfl⟩) ?_;refine fc (gA Tryz.t343 ⟨_,Tryz.underlying343,rfl⟩) ?_;refine fc (gA Tryz.t345 ⟨_,Tryz.underlying345,rfl⟩) ?_;refine fc (gA Tryz.t359 ⟨_,Tryz.underlying359,rfl⟩) ?_;refine fc (gA Tryz.t360 ⟨_,Tryz.underlying360,rfl⟩) ?_;refine fc (gA Tryz.t363 ⟨_,Tryz.underlying363,rfl⟩) ?_;refine fc (gA Tryz.t393 ⟨_,Tryz.underlying393,rfl⟩) ?_;refine fc (gA Tryz.t401 ⟨_,Tryz.underlying401,rfl⟩) ?_;refine fc (gA Tryz.t407 ⟨_,Tryz.underlying407,rfl⟩) ?_;refine fc (gA Tryz.t411 ⟨_,Tryz.underlying411,rfl⟩) ?_;refine fc (gA Tryz.t418 ⟨_,Tryz.underlying418,rfl⟩) ?_;refine fc (gA Tryz.t419 ⟨_,Tryz.underlying419,rfl⟩) ?_;refine fc (gA Tryz.t421 Tryz.underlying421) ?_;refine fc (gA Tryz.t426 ⟨_,Tryz.underlying426,rfl⟩) ?_;refine fc (gA Tryz.t427 ⟨_,Tryz.underlying427,rfl⟩) ?_;refine fc (gA Tryz.t43 ⟨_,Tryz.underlying43,rfl⟩) ?_;refine fc (gA Tryz.t47 ⟨_,Tryz.underlying47,rfl⟩) ?_;refine fc (gA Tryz.t54 ⟨_,Tryz.underlying54,rfl⟩) ?_;refine fc (gA Tryz.t60 ⟨_,Tryz.underlying60,rfl⟩) ?_;refine fc (gA Tryz.t67 ⟨_,Tryz.underlying67,rfl⟩) ?_;refine fc (gA Tryz.t71 ⟨_,Tryz.underlying71,rfl⟩) ?_;refine fc (gA Tryz.t78 ⟨_,Tryz.underlying78,rfl⟩) ?_;refine fc (gA Tryz.t85 ⟨_,Tryz.underlying85,rfl⟩) ?_;refine fc (gA Tryz.t88 Tryz.underlying88) ?_;refine fc (gA Tryz.t95 ⟨_,Tryz.underlying95,rfl⟩) ?_;refine fc (gA Tryz.t101 ⟨_,Tryz.underlying101,rfl⟩) ?_;refine fc (gA Tryz.t107 ⟨_,Tryz.underlying107,rfl⟩) ?_;refine fc (gA Tryz.t108 ⟨_,Tryz.underlying108,rfl⟩) ?_;refine fc (gA Tryz.t117 ⟨_,Tryz.underlying117,rfl⟩) ?_;refine fc (gA Tryz.t153 ⟨_,Tryz.underlying153,rfl⟩) ?_;refine fc (gA Tryz.t159 ⟨_,Tryz.underlying159,rfl⟩) ?_;refine fc (gA Tryz.t160 ⟨_,Tryz.underlying160,rfl⟩) ?_;refine fc (gA Tryz.t161 ⟨_,Tryz.underlying161,rfl⟩) ?_;refine fc (gA Tryz.t162 ⟨_,Tryz.underlying162,rfl⟩) ?_;refine fc (gA Tryz.t163 ⟨_,Tryz.underlying163,rfl⟩) ?_;refine fc (gA Tryz.t166 ⟨_,Tryz.underlying166,rfl⟩) ?_;refine fc (gA Tryz.t167 ⟨_,Tryz.underlying167,rfl⟩) ?_;refine fc (gA Tryz.t173 ⟨_,Tryz.underlying173,rfl⟩) ?_;refine fc (gA Tryz.t174 ⟨_,Tryz.underlying174,rfl⟩) ?_;refine fc (gA Tryz.t175 ⟨_,Tryz.underlying175,rfl⟩) ?_;refine fc (gA Tryz.t177 ⟨_,Tryz.underlying177,rfl⟩) ?_;refine fc (gA Tryz.t178 ⟨_,Tryz.underlying178,rfl⟩) ?_;refine fc (gA Tryz.t182 ⟨_,Tryz.underlying182,rfl⟩) ?_;refine fc (gA Tryz.t184 ⟨_,Tryz.underlying184,rfl⟩) ?_;refine fc (gA Tryz.t214 ⟨_,Tryz.underlying214,rfl⟩) ?_;refine fc (gA Tryz.t232 ⟨_,Tryz.underlying232,rfl⟩) ?_;refine fc (gA Tryz.t233 ⟨_,Tryz.underlying233,rfl⟩) ?_;refine fc (gA Tryz.t241 ⟨_,Tryz.underlying241,rfl⟩) ?_;refine fc (gA Tryz.t253 ⟨_,Tryz.underlying253,rfl⟩) ?_;refine fc (gA Tryz.t264 ⟨_,Tryz.underlying264,rfl⟩) ?_;refine fc (gA Tryz.t267 ⟨_,Tryz.underlying267,rfl⟩) ?_;refine fc (gA Tryz.t268 ⟨_,Tryz.underlying268,rfl⟩) ?_;refine fc (gA Tryz.t274 ⟨_,Tryz.underlying274,rfl⟩) ?_;refine fc (gA Tryz.t276 ⟨_,Tryz.underlying276,rfl⟩) ?_;refine fc (gA Tryz.t278 ⟨_,Tryz.underlying278,rfl⟩) ?_;refine fc (gA Tryz.t283 ⟨_,Tryz.underlying283,rfl⟩) ?_;refine fc (gA Tryz.t285 ⟨_,Tryz.underlying285,rfl⟩) ?_;refine fc (gA Tryz.t294 ⟨_,Tryz.underlying294,rfl⟩) ?_;refine fc (gA Tryz.t295 ⟨_,Tryz.underlying295,rfl⟩) ?_;refine fc (gA Tryz.t304 ⟨_,Tryz.underlying304,rfl⟩) ?_;refine fc (gA Tryz.t309 ⟨_,Tryz.underlying309,rfl⟩) ?_;refine fc (gA Tryz.t314 ⟨_,Tryz.underlying314,rfl⟩) ?_;refine fc (gA Tryz.t316 ⟨_,Tryz.underlying316,rfl⟩) ?_;refine fc (gA Tryz.t318 ⟨_,Tryz.underlying318,rfl⟩) ?_;refine fc (gA Tryz.t321 ⟨_,Tryz.underlying321,rfl⟩) ?_;refine fc (gA Tryz.t323 ⟨_,Tryz.underlying323,rfl⟩) ?_;refine fc (gA Tryz.t330 ⟨_,Tryz.underlying330,rfl⟩) ?_;refine fc (gA Tryz.t337 ⟨_,Tryz.underlying337,rfl⟩) ?_;refine fc (gA Tryz.t341 ⟨_,Tryz.underlying341,rfl⟩) ?_;refine fc (gA Tryz.t353 ⟨_,Tryz.underlying353,rfl⟩) ?_;refine fc (gA Tryz.t355 ⟨_,Tryz.underlying355,rfl⟩) ?_;refine fc (gA Tryz.t362 ⟨_,Tryz.underlying362,rfl⟩) ?_;refine fc (gA Tryz.t365 ⟨_,Tryz.underlying365,rfl⟩) ?_;refine fc (gA Tryz.t367 ⟨_,Tryz.underlying367,rfl⟩) ?_;refine fc (gA Tryz.t370 ⟨_,Tryz.underlying370,rfl⟩) ?_;refine fc (gA Tryz.t380 ⟨_,Tryz.underlying380,rfl⟩) ?_;refine fc (gA Tryz.t382 ⟨_,Tryz.underlying382,rfl⟩) ?_;refine fc (gA Tryz.t394 ⟨_,Tryz.underlying394,rfl⟩) ?_;refine fc (gA Tryz.t404 ⟨_,Tryz.underlying404,rfl⟩) ?_;refine fc (gA Tryz.t405 ⟨_,Tryz.underlying405,rfl⟩) ?_;refine fc (gA Tryz.t410 ⟨_,Tryz.underlying410,rfl⟩) ?_;refine fc (gA Tryz.t416 ⟨_,Tryz.underlying416,rfl⟩) ?_;refine fc (gA Tryz.t420 Tryz.underlying420) ?_;refine fc (gA Tryz.t423 Tryz.underlying423) ?_;refine fc (gA Tryz.t424 Tryz.underlying424) ?_;refine fc (gA Tryz.t433 ⟨_,Tryz.underlying433,rfl⟩) ?_;refine fc (gA Tryz.t437 ⟨_,Tryz.underlying437,rfl⟩) ?_;refine fc (gA Tryz.t24 ⟨_,Tryz.underlying24,rfl⟩) ?_;refine fc (gA Tryz.t29 ⟨_,Tryz.underlying29,rfl⟩) ?_;refine fc (gA Tryz.t75 ⟨_,Tryz.underlying75,rfl⟩) ?_;refine fc (gA Tryz.t79 ⟨_,Tryz.underlying79,rfl⟩) ?_;refine fc (gA Tryz.t90 ⟨_,Tryz.underlying90,rfl⟩) ?_;refine fc (gA Tryz.t115 ⟨_,Tryz.underlying115,rfl⟩) ?_;refine fc (gA Tryz.t140 ⟨_,Tryz.underlying140,rfl⟩) ?_;refine fc (gA Tryz.t195 ⟨_,Tryz.underlying195,rfl⟩) ?_;refine fc (gA Tryz.t210 ⟨_,Tryz.underlying210,rfl⟩) ?_;refine fc (gA Tryz.t218 ⟨_,Tryz.underlying218,rfl⟩) ?_;refine fc (gA Tryz.t265 ⟨_,Tryz.underlying265,rfl⟩) ?_;refine fc (gA Tryz.t266 ⟨_,Tryz.underlying266,rfl⟩) ?_;refine fc (gA Tryz.t272 ⟨_,Tryz.underlying272,rfl⟩) ?_;refine fc (gA Tryz.t289 ⟨_,Tryz.underlying289,rfl⟩) ?_;refine fc (gA Tryz.t350 ⟨_,Tryz.underlying350,rfl⟩) ?_;refine fc (gA Tryz.t366 ⟨_,Tryz.underlying366,rfl⟩) ?_;refine fc (gA Tryz.t378 ⟨_,Tryz.underlying378,rfl⟩) ?_;refine fc (gA Tryz.t383 ⟨_,Tryz.underlying383,rfl⟩) ?_;refine fc (gA Tryz.t386 ⟨_,Tryz.underlying386,rfl⟩) ?_;refine fc (gA Tryz.t400 ⟨_,Tryz.underlying400,rfl⟩) ?_;refine fc (gA Tryz.t402 ⟨_,Tryz.underlying402,rfl⟩) ?_;refine fc (gA Tryz.t409 ⟨_,Tryz.underlying409,rfl⟩) ?_;refine fc (gA Tryz.t415 ⟨_,Tryz.underlying415,rfl⟩) ?_;refine fc (gA Tryz.t417 Tryz.underlying417) ?_;refine fc (gA Tryz.t422 ⟨_,Tryz.underlying422,rfl⟩) ?_;refine fc (gA Tryz.t425 ⟨_,Tryz.underlying425,rfl⟩) ?_;refine fc (gA Tryz.t431 ⟨_,Tryz.underlying431,rfl⟩) ?_;refine fc (gA Tryz.t439 ⟨_,Tryz.underlying439,rfl⟩) ?_;exact λp hp=>by cases hp
theorem FW :∀(l:List (Nat×TI)) (t:Nat) (i:TI),I2 l t=some i->(t,i)∈l
 | [],_,_,h=>by cases h
 | (d,x)::r,t,i,h=>by
  simp only[I2] at h;cases e:X3 d t with
  | true=>rw[e] at h;cases h;rw[J4 e];exact bU
  | false=>rw[e] at h;exact A9 _ (FW r t i h)
noncomputable def cx (n:Nat):R5:=⟨Tryz.prog,n,tt⟩
theorem follows:Tryz.prog.follows .mixedOrders=true:=kr
theorem cxg (n:Nat):(cx n).Good:=by
 refine And.intro follows λt i h=>?_;exact Jo (t,i) (FW tt t i h)
theorem cQ {n:Nat}:(cx n).Good:=cxg n
end Go.Dw
namespace Go.Dw
open Go Go.RowKit
def pick (s:List Ch):List Nat->Option (List Ch)
 | []=>some []
 | i::r=>match m8 s i,pick s r with | some c,some cs=>some (c::cs) | _,_=>none
theorem rI :∀{s:List Ch} {is:List Nat} {s':List Ch},pick s is=some s'->∀k c,m8 s' k=some c->∃i,is[k]?=some i/\m8 s i=some c
 | s,[],s',h,k,c,hc=>by simp[pick] at h;subst h;cases hc
 | s,i::r,s',h,k,c,hc=>by
  simp only[pick] at h;cases h1:m8 s i with
  | none=>simp[h1] at h
  | some d=>
   cases h2:pick s r with
   | none=>simp[h1,h2] at h
   | some cs=>
    simp only[h1,h2,m9] at h;subst h;cases k with
    | zero=>simp[m8] at hc;subst hc;exact⟨i,rfl,h1⟩
    | succ k=>obtain⟨j,h3,h4⟩:=rI h2 k c hc;exact⟨j,by simpa using h3,h4⟩
def pD:List Nat->Bool
 | []=>true
 | i::r=>match r.all (λj=>!X3 i j) with | true=>pD r | false=>false
theorem vM :∀{l:List Nat},pD l=true->∀j k i:Nat,l[j]?=some i->l[k]?=some i->j=k
 | [],_,j,k,i,h,_=>by simp at h
 | x::r,h,j,k,i,h1,h2=>by
  simp only[pD] at h;cases ha:r.all (λj=>!X3 x j) with
  | false=>simp[ha] at h
  | true=>
   simp only[ha] at h;have ne :∀m:Nat,r[m]?=some x->False:=λm hm=>by
    have:=z6.1 ha x (MX hm);simp at this
   match j,k,h1,h2 with
   | 0,0,_,_=>rfl
   | 0,k+1,h1,h2=>simp at h1;subst h1;exact (ne k (by simpa using h2)).elim
   | j+1,0,h1,h2=>simp at h2;subst h2;exact (ne j (by simpa using h1)).elim
   | j+1,k+1,h1,h2=>rw[vM h j k i (by simpa using h1) (by simpa using h2)]
theorem Ok.pick {w0 w:World} {s s':List Ch} (is:List Nat) (h:Dw.pick s is=some s') (hn:pD is=true) (hok:Ok w0 s w):Ok w0 s' w:=by
 refine⟨hok.os,hok.tape,hok.output,hok.size,hok.drawn,λk c hc=>?_,λj k c d hjk h1 h2=>?_⟩
 ·obtain⟨i,_,h2⟩:=rI h k c hc;exact hok.mem i c h2
 ·obtain⟨i,h3,h4⟩:=rI h j c h1;obtain⟨i',h5,h6⟩:=rI h k d h2;refine hok.disj i i' c d (λe=>hjk ?_) h4 h6;subst e;exact vM hn j k i h3 h5
theorem pk {w0:World} {s s':List Ch} (is:List Nat) (h:Dw.pick s is=some s':=by rfl) (hn:pD is=true:=by rfl):∀w:World,Ok w0 s w->Ok w0 s' w:=λ_ k=>k.pick is h hn
theorem pj {s s':List Ch} (is:List Nat) (h:Dw.pick s is=some s':=by rfl) (hn:pD is=true:=by rfl):∀w0 w:World,Ok w0 s w->Ok w0 s' w:=λ_ _ k=>k.pick is h hn
theorem Ok.join {w0 w:World} {c d e:Ch} {s:List Ch} (hok:Ok w0 (c::d::e::s) w):Ok w0 (c::.hp (d.h.join e.h)::s) w:=by
 have hde:=hok.disj 1 2 d e om rfl rfl;have jn :∀b,(d.h.join e.h) b≠none->d.h b≠none\/e.h b≠none:=by
  intro b hb;unfold Hp.join at hb;cases h:d.h b with
  | some o=>left;simp
  | none=>right;simpa [h] using hb
 have out :∀x:Ch,x.h.dj d.h->x.h.dj e.h->x.h.dj (d.h.join e.h):=by
  intro x h1 h2 b;by_cases hx:x.h b=none
  ·exact .inl hx
  ·right
   have e1:=(h1 b).resolve_left hx;have e2:=(h2 b).resolve_left hx;simp[Hp.join,e1,e2]
 refine⟨hok.os,hok.tape,hok.output,hok.size,hok.drawn,λk x hx=>?_,λj k x y hjk h1 h2=>?_⟩
 ·match k,hx with
  | 0,hx=>exact hok.mem 0 x hx
  | 1,hx=>
   simp[m8] at hx;subst hx;intro b o hb;have hb:(match d.h b with | some o=>some o | none=>e.h b)=some o:=hb;cases hd:d.h b with
   | some o'=>rw[hd] at hb;cases hb;exact hok.mem 1 d rfl b o hd
   | none=>rw[hd] at hb;exact hok.mem 2 e rfl b o hb
  | k+2,hx=>exact hok.mem (k+3) x hx
 ·match j,k,h1,h2 with
  | 0,0,_,_=>exact absurd rfl hjk
  | 1,1,_,_=>exact absurd rfl hjk
  | 0,1,h1,h2=>
   simp[m8] at h1 h2;subst h1;subst h2;exact out _ (hok.disj 0 1 _ _ om rfl rfl) (hok.disj 0 2 _ _ om rfl rfl)
  | 1,0,h1,h2=>
   simp[m8] at h1 h2;subst h1;subst h2;exact (out _ (hok.disj 0 1 _ _ om rfl rfl) (hok.disj 0 2 _ _ om rfl rfl)).symm
  | 0,k+2,h1,h2=>exact hok.disj 0 (k+3) x y om h1 h2
  | j+2,0,h1,h2=>exact hok.disj (j+3) 0 x y om h1 h2
  | 1,k+2,h1,h2=>
   simp[m8] at h1;subst h1;exact (out _ (hok.disj (k+3) 1 _ _ om h2 rfl) (hok.disj (k+3) 2 _ _ om h2 rfl)).symm
  | j+2,1,h1,h2=>
   simp[m8] at h2;subst h2;exact out _ (hok.disj (j+3) 1 _ _ om h1 rfl) (hok.disj (j+3) 2 _ _ om h1 rfl)
  | j+2,k+2,h1,h2=>exact hok.disj (j+3) (k+3) x y om h1 h2
theorem Ok.emp {w0 w:World} {s:List Ch} (hok:Ok w0 s w):Ok w0 (s++[.hp Hp.emp]) w:=by
 refine⟨hok.os,hok.tape,hok.output,hok.size,hok.drawn,λk c hc=>?_,λj k c d hjk h1 h2=>?_⟩
 ·rw[H3] at hc;split at hc
  ·exact hok.mem k c hc
  ·match hk:k - s.length,hc with
   | 0,hc=>simp[m8] at hc;subst hc;exact Hp.emp_in w
 ·rw[H3] at h1 h2;split at h1 <;> split at h2
  ·exact hok.disj j k c d hjk h1 h2
  ·match hk:k - s.length,h2 with
   | 0,h2=>simp[m8] at h2;subst h2;exact λb=>.inr rfl
  ·match hk:j - s.length,h1 with
   | 0,h1=>simp[m8] at h1;subst h1;exact λb=>.inl rfl
  ·match hk:j - s.length,hk':k - s.length,h1,h2 with
   | 0,0,_,_=>omega
def VM (s:List Ch) (t:Tm):Tm->List (Option Value)
 | []=>[]
 | (i,_)::r=>(match dS t i with | some tv=>tv.val s | none=>none)::VM s t r
def want (s':List Ch):Tm->List (Option Value)
 | []=>[]
 | (_,tv)::r=>tv.val s'::want s' r
def nU:List (Option Value)->Bool
 | []=>true
 | none::_=>false
 | some _::r=>nU r
theorem tZ {s:List Ch} {t:Tm} {s':List Ch} :∀{t':Tm},VM s t t'=want s' t'->nU (want s' t')=true->∀i tv',dS t' i=some tv'->∃tv v,dS t i=some tv/\tv.val s=some v/\tv'.val s'=some v
 | [],_,_,i,tv',h=>by cases h
 | (j,x)::r,h1,h2,i,tv',h=>by
  simp only[VM,want,FK] at h1;cases hx:x.val s' with
  | none=>simp[want,hx,nU] at h2
  | some v=>
   rw[jK] at h;split at h
   ·rename_i e;subst e;cases h
    rw[hx] at h1;cases ha:dS t j with
    | none=>simp[ha] at h1
    | some tv=>simp only[ha] at h1;exact⟨tv,v,rfl,h1.1,hx⟩
   ·exact tZ h1.2 (by simpa [want,hx,nU] using h2) i tv' h
theorem v6.mk {t:Tm} {s:List Ch} {t':Tm} {s':List Ch} (hs :∀w0 w,Ok w0 s w->Ok w0 s' w) (h1:VM s t t'=want s' t') (h2:nU (want s' t')=true):v6 t s t' s':=by
 intro n w0 w a hok hf;refine⟨hs w0 w hok,hf.1,hf.2.1,λi tv' hi=>?_⟩;obtain⟨tv,v,h1,h2,h3⟩:=tZ h1 h2 i tv' hi;obtain⟨v',h4,h5⟩:=hf.2.2 i tv h1;rw[h2] at h4;cases h4;exact⟨v,h3,h5⟩
theorem nw {x:Int} {q:Int->Prop} (h1 : -9223372036854775808<=x) (h2:x<=9223372036854775807) (hq:q x):bR .i64 x q:=by
 refine⟨x,?_,hq⟩;rw[IntKind.wrap_i64];omega
theorem nwo {x:Int} {q:Int->Prop} (hq:q x) (h1 : -9223372036854775808<=x:=by omega) (h2:x<=9223372036854775807:=by omega):bR .i64 x q:=nw h1 h2 hq
theorem call {P:Program} {s:List Ch} {f:Nat} {args:List Value} {q:TV->List Ch->Prop} {R:Value->List Ch->Prop}
  (h :∀w,gN s w->j6 P f args.toArray w (fD w R)) (k :∀v cs,R v cs->q (.v v) (s++cs)):Q8 P s f args q:=by
 refine⟨λw0 w hok=>⟨(h w hok.mem).1,(h w hok.mem).2.mono λe w' he=>?_⟩⟩;obtain⟨v,cs,rfl,h1,h2⟩:=he;exact⟨v,s++cs,rfl,hok.call h1,J6.app s cs,k v cs h2⟩
theorem DB {P:Program} {s:List Ch} {f:Nat} {args:List Value} {q:TV->List Ch->Prop} {R:Value->List Ch->Prop}
  (h :∀w,gN s w->j6 P f args.toArray w (fD w R)) (k :∀v cs,R v cs->FF (s++cs)->q (.v v) (s++cs)):Q8 P s f args q:=by
 refine⟨λw0 w hok=>⟨(h w hok.mem).1,(h w hok.mem).2.mono λe w' he=>?_⟩⟩;obtain⟨v,cs,rfl,h1,h2⟩:=he;exact⟨v,s++cs,rfl,hok.call h1,J6.app s cs,k v cs h2 ⟨w0,w',hok.call h1⟩⟩
theorem FF.dj {s:List Ch} (h:FF s) (i j:Nat) {c d:Ch} (hi:m8 s i=some c) (hj:m8 s j=some d) (hij:i≠j):c.h.dj d.h:=let ⟨_,_,hok⟩:=h;hok.disj i j c d hij hi hj
abbrev uU (α:Type):=Hp->α->List Value->Prop
def B0 {α:Type} (f:α->List Value):uU α:=λ_ x cs=>cs=f x
structure Sl {α:Type} (R:uU α) (sz:Nat) (h:Hp) (a:Option Addr) (n c:Nat) (L:List α):Prop where
 len:n=L.length
 cap:n<=c
 cells :∀i (hi:i < L.length),∃b off cs,a=some ⟨b,off,none⟩/\cs.length=sz/\R h L[i] cs/\∀j v,cs[j]?=some v->h.cell? ⟨b,off+i*sz+j,none⟩=some v
def WQ {α:Type} (R:uU α) (sz:Nat):uU (List α):=λh L cs=>∃a n c,cs = [.slice a n c]/\Sl R sz h a n c L
def AQ {α:Type} (R:uU α):Prop:=∀h k x cs,Hp.le h k->R h x cs->R k x cs
theorem j7 {α:Type} (f:α->List Value):AQ (B0 f):=λ_ _ _ _ _ h=>h
theorem Sl.mono {α:Type} {R:uU α} (hR:AQ R) {sz:Nat} {h k:Hp} {a:Option Addr} {n c:Nat} {L:List α} (hl:h.le k) (hs:Sl R sz h a n c L):Sl R sz k a n c L:=
 ⟨hs.len,hs.cap,λi hi=>let ⟨b,off,cs,h1,h2,h3,h4⟩:=hs.cells i hi;⟨b,off,cs,h1,h2,hR _ _ _ _ hl h3,λj v hj=>hl.cell (h4 j v hj)⟩⟩
theorem CV {α:Type} {R:uU α} (hR:AQ R) (sz:Nat):AQ (WQ R sz):=λ_ _ _ _ hl ⟨a,n,c,h1,h2⟩=>⟨a,n,c,h1,h2.mono hR hl⟩
theorem Sl.nil {α:Type} (R:uU α) (sz:Nat) (h:Hp) (a:Option Addr) (c:Nat):Sl R sz h a 0 c []:=⟨rfl,f8 _,λi hi=>by cases hi⟩
def bM (X:R5) (T:Nat):Option (Nat×TI):=match I2 X.tt T with
 | some ⟨.sl e,_,_,_⟩=>(match I2 X.tt e with | some te=>some (e,te) | none=>none)
 | _=>none
theorem W6 {X:R5} (hX:X.Good) {T e:Nat} {te:TI} (h:bM X T=some (e,te)):X.P.underlying T=some (.slice e)/\gZ X.P e te:=by
 unfold bM at h;split at h
 ·rename_i e' _ _ _ hT
  split at h
  ·rename_i te' hte
   simp only[m9,Prod.mk.injEq] at h;obtain⟨rfl,rfl⟩:=h;exact⟨(Good.und hX hT).2,Good.und hX hte⟩
  ·cases h
 ·cases h
section
variable {X:R5} {s:List Ch} {q:TV->Prop}
theorem lP {T e:Nat} {te:TI} (hX:X.Good) (hT:bM X T=some (e,te)) {b off n c k:Nat} (hk:k < n) (w:World) :
  (Instr.indexAt T (.slice (some ⟨b,off,none⟩) n c) (iQ k)).run X.P w=.ok (.pointer (some ⟨b,off+k*te.size,none⟩)) w:=by
 obtain⟨h1,h2⟩:=W6 hX hT;have hu:(underlying T).run X.P w=.ok (.slice e) w:=by simp[underlying,h1]
 simp only[Instr.indexAt,asIntOf,Sem.run_bind,Sem.run_pure,Result.andThen_ok,hu];rw[if_pos ⟨S4 k,om⟩];simp[h2.size,Addr.add_mk]
theorem I1 (hX:X.Good) {α:Type} {R:uU α} {T e:Nat} {te:TI} (hT:bM X T=some (e,te)) {h:Hp} {a:Option Addr} {n c:Nat} {L:List α} (hs:Sl R te.size h a n c L) {x:Int} (k:Nat) (hx:x=k) (hk:k < L.length)
  (hq :∀b o cs,cs.length=te.size->R h L[k] cs->(∀j v,cs[j]?=some v->h.cell? ⟨b,o+j,none⟩=some v)->q (.v (.pointer (some ⟨b,o,none⟩)))) :
  B7 X.P s (Instr.indexAt T (.slice a n c) (iQ x)) q:=by
 subst hx;obtain⟨b,off,cs,rfl,h2,h3,h4⟩:=hs.cells k hk;exact⟨_,λw _=>lP hX hT (by rw[hs.len];exact hk) w,hq b (off+k*te.size) cs h2 h3 h4⟩
theorem Mc (hX:X.Good) {T:Nat} {i:Nat} {h:Hp} (hi:m8 s i=some (.hp h)) {b o:Nat} {v:Value} (hc:h.cell? ⟨b,o,none⟩=some v) (hT:(I2 X.tt T).map TI.agg=some false) (hq:q (.v v)) :
  B7 X.P s (Instr.loadAt T (.pointer (some ⟨b,o,none⟩))) q:=by
 refine⟨v,λw hm=>?_,hq⟩;cases ht:I2 X.tt T with
 | none=>simp[ht] at hT
 | some ti=>
  have ha:ti.agg=false:=by simpa [ht] using hT
  have:=(hm i _ hi).cell hc;simp[Instr.loadAt,Instr.sureAddr,loadVar,(Good.und hX ht).agg,ha,this]
theorem lQ {T:Nat} (i:Nat) {h:Hp} {b o:Nat} {v:Value} (hc:h.cell? ⟨b,o,none⟩=some v) (hq:q (.v v)) (hX:X.Good:=by exact cxg _) (hi:m8 s i=some (.hp h):=by exact rfl) (hT:(I2 X.tt T).map TI.agg=some false:=by exact rfl):B7 X.P s (Instr.loadAt T (.pointer (some ⟨b,o,none⟩))) q:=Mc hX hi hc hT hq
theorem T7 (hX:X.Good) {T:Nat} {i:Nat} {h:Hp} (hi:m8 s i=some (.hp h)) {b o:Nat} {cs:List Value} (hc :∀j v,cs[j]?=some v->h.cell? ⟨b,o+j,none⟩=some v)
  (hT:(I2 X.tt T).map (λt=>(t.agg,t.size))=some (true,cs.length)) (hq:q (.v (.agg cs.toArray))) :
  B7 X.P s (Instr.loadAt T (.pointer (some ⟨b,o,none⟩))) q:=by
 refine⟨_,λw hm=>?_,hq⟩;cases ht:I2 X.tt T with
 | none=>simp[ht] at hT
 | some ti=>
  have ha:ti.agg=true/\ti.size=cs.length:=by simpa [ht] using hT
  have:=run_loadCells_list (P:=X.P) w ⟨b,o,none⟩ cs (λj v hj=>by rw[Addr.add_mk];exact (hm i _ hi).cell (hc j v hj));simp[Instr.loadAt,Instr.sureAddr,loadVar,(Good.und hX ht).agg,(Good.und hX ht).size,ha,this]
end
end Go.Dw
namespace Go.Dw
open Go Go.RowKit
def iK (T sz:Nat) (h:Hp) (a:Option Addr) (n c:Nat) (xs:List Value):Prop:=
 xs.length=n*sz/\((n=0/\c=0)\/∃b arr,a=some ⟨b,0,none⟩/\h b=some (.cells arr T (0,0))/\n<=c/\c<=maxLen/\arr.size=c*sz/\arr.toList.take (n*sz)=xs)
theorem iK.nil (T sz:Nat) (h:Hp) (a:Option Addr):iK T sz h a 0 0 []:=⟨sQ,.inl ⟨rfl,rfl⟩⟩
theorem iK.cap {T sz:Nat} {h:Hp} {a:Option Addr} {n c:Nat} {xs:List Value} (ho:iK T sz h a n c xs):n<=c:=by
 rcases ho.2 with ⟨rfl,rfl⟩ | ⟨_,_,_,_,h1,_⟩
 ·exact k8 _
 ·exact h1
theorem iK.cell {T sz:Nat} {h:Hp} {a:Option Addr} {n c:Nat} {xs:List Value} (ho:iK T sz h a n c xs) {j:Nat} {v:Value} (hj:xs[j]?=some v) :
  ∃b arr,a=some ⟨b,0,none⟩/\h b=some (.cells arr T (0,0))/\arr[j]?=some v/\h.cell? ⟨b,j,none⟩=some v:=by
 rcases ho.2 with ⟨rfl,_⟩ | ⟨b,arr,h1,h2,_,_,_,h5⟩
 ·have:=ho.1;simp at this;subst this;simp at hj
 ·rw[<-h5,uT] at hj;split at hj
  ·have hj':arr[j]?=some v:=by simpa using hj
   exact⟨b,arr,h1,h2,hj',by rw[Hp.cell_block h2];exact hj'⟩
  ·cases hj
def AP {α:Type} (f:α->List Value) (T sz:Nat) (h:Hp) (a:Option Addr) (n c:Nat) (L:List α):Prop:=n=L.length/\iK T sz h a n c (L.flatMap f)
theorem AP.nil {α:Type} (f:α->List Value) (T sz:Nat) (h:Hp):AP f T sz h none 0 0 []:=⟨rfl,by simpa using iK.nil T sz h none⟩
theorem mN {α:Type} (f:α->List Value) {sz:Nat} (hf :∀x,(f x).length=sz) :∀(L:List α) (i j:Nat) (hi:i < L.length),j < sz->(L.flatMap f)[i*sz+j]?=(f L[i])[j]?
 | x::r,0,j,_,hj=>by simp[I6,oM,hf,hj]
 | x::r,i+1,j,hi,hj=>by
  have:(i+1)*sz+j=sz+(i*sz+j):=by rw[Z5];omega
  rw[I6,this,N0 (by rw[hf];omega),hf];simpa using mN f hf r i j (by simpa using hi) hj
theorem AP.sl {α:Type} {f:α->List Value} {T sz:Nat} (hf :∀x,(f x).length=sz) (h0:0 < sz) {h:Hp} {a:Option Addr} {n c:Nat} {L:List α} (ho:AP f T sz h a n c L):Sl (B0 f) sz h a n c L:=by
 obtain⟨rfl,ho⟩:=ho;refine⟨rfl,ho.cap,λi hi=>?_⟩;have get :∀j v,(f L[i])[j]?=some v->∃b arr,a=some ⟨b,0,none⟩/\h b=some (.cells arr T (0,0))/\arr[i*sz+j]?=some v/\h.cell? ⟨b,i*sz+j,none⟩=some v:=λj v hj=>by
  have:j < sz:=by rw[<-hf L[i]];exact (q9.1 hj).1
  exact ho.cell (by rw[mN f hf L i j hi this];exact hj)
 have h00:(f L[i])[0]?=some ((f L[i])[0]'(by rw[hf];exact h0)):=i6 (by rw[hf];exact h0);obtain⟨b,arr,rfl,_⟩:=get 0 _ h00;refine⟨b,0,f L[i],rfl,hf _,rfl,λj v hj=>?_⟩;obtain⟨b',arr',e,_,_,h4⟩:=get j v hj;cases e;simpa using h4
section
variable {X:R5} {s:List Ch}
theorem iK.row {w0 w:World} (hok:Ok w0 s w) {i:Nat} {h:Hp} (hi:m8 s i=some (.hp h)) {b T:Nat} {arr arr':Array Value} (hb:h b=some (.cells arr T (0,0))) :
  Ok w0 (x9 s i (.hp (h.upd b (.cells arr' T (0,0))))) (w.setRow b arr'):=by
 have hblk:=hok.mem i _ hi b _ hb;refine hok.upd hi _ rfl rfl rfl (by simp[World.setRow]) (k8 _) (λk _ hk=>?_) ?_ λk hk=>?_
 ·refine setRow_other w b k _ λe=>?_;subst e;rw[show (Ch.hp h).h=h from rfl,hb] at hk;cases hk
 ·intro k o hk;simp only[Ch.h,Hp.upd] at hk;split at hk
  ·rename_i e;subst e;cases hk;exact setRow_heap w k _ _ _ _ hblk
  ·rename_i e
   rw[setRow_other w b k _ e];exact hok.mem i _ hi k o hk
 ·left
  simp only[Ch.h,Hp.upd] at hk ⊢;split at hk
  ·rename_i e;subst e;rw[hb];simp
  ·exact hk
theorem iK.move {w0 w:World} (hok:Ok w0 s w) {i:Nat} {h:Hp} (hi:m8 s i=some (.hp h)) (o:Obj) :
  Ok w0 (x9 s i (.hp (Hp.one w.heap.size o))) (w.drew.alloc o):=by
 refine hok.upd hi _ rfl rfl rfl sQ (by first | exact Nat.le_succ _ | exact k8 _) (λk hk _=>_root_.Go.heap_alloc_old w.drew o hk) ?_ λk hk=>?_
 ·intro k o' hk;simp only[Ch.h,Hp.one] at hk;split at hk
  ·rename_i e;subst e;cases hk;exact _root_.Go.heap_alloc_new w.drew _
  ·cases hk
 ·right
  simp only[Ch.h,Hp.one] at hk;split at hk
  ·rename_i e;omega
  ·exact absurd rfl hk
theorem AM (hX:X.Good) {T e ty:Nat} {te:TI} (hT:bM X T=some (e,te)) {i:Nat} {h:Hp} (hi:m8 s i=some (.hp h)) {a:Option Addr} {n c:Nat} {xs:List Value}
  (ho:iK e te.size h a n c xs) {m:Nat} {news:List Value} (hl:news.length=m*te.size) (h1 :∀v∈news,v.oneCell'=true) (hby:(n+m)*te.bytes<=140737488355328) (hmx:n+m<=maxLen)
  {y:Value} (hy :∀w,gN s w->(∃c'',y=.slice none 0 c''/\m=0)\/∃ad c',y=.slice (some ad) m c'/\∀j u,news[j]?=some u->w.cell? (ad.add j)=some u) {q:TV->List Ch->Prop}
  (hq :∀a' c' h',iK e te.size h' a' (n+m) c' (xs++news)->(a'=none->n+m=0)->q (.v (.slice a' (n+m) c')) (x9 s i (.hp h'))) :
  I0 X.P s (Builtin.append_ #[T,T] ty #[.slice a n c,y]) q:=by
 obtain⟨hu,hg⟩:=W6 hX hT;obtain⟨⟨inf,hinf,hs1,hs2,z,hz,hzc,hzl⟩,_⟩:=hg;have hsm:n+m<=9223372036854775807:=by simp only[maxLen] at hmx;omega
 have hlen:(xs++news).length=(n+m)*te.size:=by rw[d6,ho.1,hl,D9]
 refine⟨λw0 w hok=>?_⟩;have keep :∀h',J6 s (x9 s i (.hp h')):=λh'=>J6.set hi (λb cs T e=>by cases e);rcases hy w hok.mem with ⟨c'',rfl,rfl⟩ | ⟨ad,c',rfl,hcells⟩
 ·have hn:news = []:=w9 (by simpa using hl);subst hn;simp only[G3,p8] at hq;have hcap:=ho.cap;refine⟨.v (.slice a n c),_,w,x9 s i (.hp h),?_,?_,keep h,rfl,hq a c h ho ?_⟩
  ·have hcap':n<=c:=hcap;cases a with
   | none=>simp[Builtin.append_,run_underlying hu,sizeOf,typeInfo,hinf,Builtin.lenOf,Builtin.firstCells,hcap']
   | some a=>simp[Builtin.append_,run_underlying hu,sizeOf,typeInfo,hinf,Builtin.lenOf,Builtin.firstCells,hcap',storeCells]
  ·have:x9 s i (.hp h)=s:=by
    rw[S9];rw[J7] at hi;exact O8 λj=>by
     rw[O7];split
     ·rename_i e;subst e;split
      ·exact hi.symm
      ·rename_i hh;rw[X4 om] at hi;cases hi
     ·rfl
   rw[this];exact hok
  ·intro ha;rcases ho.2 with ⟨h0,_⟩ | ⟨b,arr,h0,_⟩
   ·exact h0
   ·rw[ha] at h0;cases h0
 ·rcases ho.2 with ⟨rfl,rfl⟩ | ⟨b,arr,rfl,hb,hnc,hcm,hcs,htk⟩
  ·have hx:xs = []:=w9 (by simpa using ho.1);subst hx;have same:Ok w0 (x9 s i (.hp h)) w:=by
    have:x9 s i (.hp h)=s:=by
     rw[S9];rw[J7] at hi;exact O8 λj=>by
      rw[O7];split
      ·rename_i e;subst e;split
       ·exact hi.symm
       ·rename_i hh;rw[X4 om] at hi;cases hi
      ·rfl
    rw[this];exact hok
   by_cases hm:m=0
   ·subst hm;have hn:news = []:=w9 (by simpa using hl);subst hn;refine⟨.v (.slice a 0 0),_,w,x9 s i (.hp h),?_,same,keep h,rfl,hq a 0 h (iK.nil _ _ _ _) (λ_=>rfl)⟩;cases a with
    | none=>simp[Builtin.append_,run_underlying hu,sizeOf,typeInfo,hinf,Builtin.lenOf,Builtin.firstCells,loadCells,loadCellsFrom]
    | some a=>simp[Builtin.append_,run_underlying hu,sizeOf,typeInfo,hinf,Builtin.lenOf,Builtin.firstCells,loadCells,loadCellsFrom,storeCells]
   ·have hge:=grownCap_ge w m 0 e;have hcm:=grownCap_le_maxLen w m 0 e om;have hr:(Builtin.append_ #[T,T] ty #[.slice a 0 0,.slice (some ad) m c']).run X.P w =
      .ok (.slice (some ⟨w.heap.size,0,none⟩) m (grownCap w m 0 e)) (w.drew.alloc (.cells (news.toArray++Builtin.zeroCells z.cells (grownCap w m 0 e - m)) e)):=by
     cases a with
     | none=>exact run_append_nil (P:=X.P) w T ty e inf z hu hinf hz ad m c' news (by rw[hs1];exact hl) hcells om om (by rw[hs2];simp only[y8] at hby;omega)
     | some b=>
      have:=run_append_grow (P:=X.P) w T ty e inf z hu hinf hz b 0 0 [] sQ (λj v hj=>by simp at hj) ad m c' news (by rw[hs1];exact hl) hcells om om (growslice_fits om (by rw[hs2];exact hby));simpa using this
    refine⟨.v _,_,_,_,hr,iK.move hok hi _,keep _,rfl,?_⟩;have:=hq (some ⟨w.heap.size,0,none⟩) (grownCap w m 0 e) (Hp.one w.heap.size (.cells (news.toArray++Builtin.zeroCells z.cells (grownCap w m 0 e - m)) e))
     ⟨hlen,.inr ⟨_,_,rfl,Hp.one_self _ _,by simpa using hge,hcm,?_,?_⟩⟩ (λh=>by cases h)
    ·simpa using this
    ·simp only[Array.size_append,Z6,size_zeroCells,hzc,hzl,hl,<-D9];congr 1;omega
    ·simp only[Array.toList_append,N6,y8,<-hl];exact uS
  ·by_cases hroom:n+m<=c
   ·have hblk:=hok.mem i _ hi b _ hb;have hfit:n*inf.size+news.length<=arr.size:=by rw[hs1,hl,hcs,<-D9];exact y9 _ hroom
    have hr:=run_append_room (P:=X.P) w T ty e inf hu hinf b n c arr hblk ad m c' news (by rw[hs1];exact hl) hcells h1 hroom hfit;refine⟨.v _,_,_,_,hr,iK.row hok hi hb,keep _,rfl,hq _ _ _ ⟨hlen,.inr ⟨b,_,rfl,Hp.upd_self _ _ _,hroom,hcm,?_,?_⟩⟩ (λh=>by cases h)⟩
    ·simp only[Z6,d6,j8,k9,Array.length_toList];omega
    ·simp only[hs1];rw[htk,<-hlen];exact uS
   ·have holds :∀j u,xs[j]?=some u->w.cell? ((⟨b,0,none⟩:Addr).add j)=some u:=λj u hu=>by
     obtain⟨b',arr',e1,_,_,h4⟩:=ho.cell hu;cases e1;rw[Addr.add_mk,y8];exact (hok.mem i _ hi).cell h4
    have hr:=run_append_grow (P:=X.P) w T ty e inf z hu hinf hz ⟨b,0,none⟩ n c xs (by rw[hs1];exact ho.1) holds ad m c' news (by rw[hs1];exact hl) hcells om om (growslice_fits om (by rw[hs2];exact hby));have hge:=grownCap_ge w (n+m) c e;have hcm':=grownCap_le_maxLen w (n+m) c e hmx;refine⟨.v _,_,_,_,hr,iK.move hok hi _,keep _,rfl,hq _ _ _ ⟨hlen,.inr ⟨_,_,rfl,Hp.one_self _ _,hge,hcm',?_,?_⟩⟩ (λh=>by cases h)⟩
    ·simp only[Array.size_append,Z6,size_zeroCells,hzc,hzl,hl,ho.1,<-D9];congr 1;omega
    ·simp only[Array.toList_append,o6];rw[<-o6,<-hlen];exact uS
end
end Go.Dw
namespace Go.Dw
open Go Go.RowKit
section
variable {X:R5} {s:List Ch}
theorem Fo (hX:X.Good) {T e ty:Nat} {te:TI} (hT:bM X T=some (e,te)) {i:Nat} {h:Hp} (hi:m8 s i=some (.hp h)) {a:Option Addr} {n c:Nat} {xs:List Value}
  (ho:iK e te.size h a n c xs) {j m b e':Nat} {news:List Value} (hj:m8 s j=some (.box b news e')) (hl:news.length=m*te.size) (h1:aB news=true)
  (hby:(n+m)*te.bytes<=140737488355328) (hmx:n+m<=maxLen) {q:TV->List Ch->Prop}
  (hq :∀a' c' h',iK e te.size h' a' (n+m) c' (xs++news)->(a'=none->n+m=0)->q (.v (.slice a' (n+m) c')) (x9 s i (.hp h'))) :
  tH X.P s #[T,T] ty (.slice a n c) (.bs j m) q:=by
 refine⟨.slice (some ⟨b,0,none⟩) m m,by simp[TV.val,hj],AM hX hT hi ho hl (Z3 h1) hby hmx (λw hm=>.inr ⟨_,_,rfl,λk u hk=>?_⟩) hq⟩;rw[Addr.add_mk,y8];exact tE hm hj hk
theorem Lj {α:Type} {f:α->List Value} (hX:X.Good) {T e ty:Nat} {te:TI} (hT:bM X T=some (e,te)) {i:Nat} {h:Hp} (hi:m8 s i=some (.hp h)) {a:Option Addr} {n c:Nat} {L:List α}
  (ho:AP f e te.size h a n c L) {j b e':Nat} (x:α) (hj:m8 s j=some (.box b (f x) e')) (hf:(f x).length=te.size) (h1:aB (f x)=true)
  (hby:R0 te.bytes 140=true) (hn:L.length < 1000000000000) {q:TV->List Ch->Prop}
  (hq :∀a' c' h',AP f e te.size h' a' (n+1) c' (L++[x])->q (.v (.slice a' (n+1) c')) (x9 s i (.hp h'))) :
  tH X.P s #[T,T] ty (.slice a n c) (.bs j 1) q:=by
 obtain⟨rfl,ho⟩:=ho;have hb:=E0 hby;have hm:=Q9 (show L.length+1<=1000000000000 by omega) hb;exact Fo hX hT hi ho hj (by simpa using hf) h1 om (by simp only[maxLen];omega) λa' c' h' ho' _=>hq a' c' h' ⟨sQ,by simpa using ho'⟩
theorem Mv (hX:X.Good) {T e:Nat} {te:TI} (hT:bM X T=some (e,te)) (n:Nat) {l c:Int} (hl:l=n) (hc:c=n) (hby:te.bytes*n<=281474976710656) (hn:n<=9223372036854775807) {q:TV->List Ch->Prop}
  (hq :∀b h',iK e te.size h' (some ⟨b,0,none⟩) n n (lX n te.zero)->q (.v (.slice (some ⟨b,0,none⟩) n n)) (s++[.hp h'])) :
  I0 X.P s (Instr.makeSlice T (iQ l) (iQ c)) q:=by
 subst hl;subst hc;obtain⟨hu,hg⟩:=W6 hX hT;obtain⟨⟨inf,hinf,hs1,hs2,z,hz,hzc,hzl⟩,_⟩:=hg;refine⟨λw0 w hok=>?_⟩;have hr:=run_make (P:=X.P) w T e inf z hu hinf hz .i64 .i64 n n om (Int.le_refl _) (by rw[hs2];have:((te.bytes*n:Nat):Int)<=281474976710656:=om;simpa using this) om;simp only[Int.toNat_natCast,hs1,hzc] at hr;have hm:madeCells te.zero.toArray (n*te.size)=(lX n te.zero).toArray:=by
  have:=EE te.zero n;rw[hzl] at this;simpa [madeCells,hzl] using this
 rw[hm] at hr;refine⟨.v _,_,_,_,hr,hok.alloc (.hp (Hp.one w.heap.size _)) _ rfl,J6.app s _,rfl,hq w.heap.size _ ⟨?_,.inr ⟨_,_,rfl,Hp.one_self _ _,k8 _,by simp only[maxLen];omega,?_,?_⟩⟩⟩;all_goals
  have hlen:(lX n te.zero).length=n*te.size:=by
   clear hr hm hq hby hn;induction n with
   | zero=>simp[lX]
   | succ n ih=>simp[lX,hzl,ih,Z5,V9]
 ·exact hlen
 ·simpa using hlen
 ·rw[<-hlen];simp
theorem Ka (hX:X.Good) {T e:Nat} {te:TI} (hT:bM X T=some (e,te)) {h:Hp} {a:Option Addr} {n c:Nat} {xs:List Value} (ho:iK e te.size h a n c xs) {x:Int} (k:Nat) (hx:x=k) (hk:k < n) {q:TV->Prop}
  (hq :∀b,a=some ⟨b,0,none⟩->q (.v (.pointer (some ⟨b,0+k*te.size,none⟩)))):B7 X.P s (Instr.indexAt T (.slice a n c) (iQ x)) q:=by
 subst hx;rcases ho.2 with ⟨rfl,_⟩ | ⟨b,arr,rfl,_⟩
 ·omega
 ·exact⟨_,λw _=>lP hX hT hk w,hq b rfl⟩
theorem bG (hX:X.Good) {T e sz:Nat} {i:Nat} {h:Hp} (hi:m8 s i=some (.hp h)) {b c n j:Nat} {xs:List Value} (ho:iK e sz h (some ⟨b,0,none⟩) n c xs) {v:Value} (hj:xs[j]?=some v) (hT:(I2 X.tt T).map TI.agg=some false) {q:TV->Prop} (hq:q (.v v)) :
  B7 X.P s (Instr.loadAt T (.pointer (some ⟨b,0+j,none⟩))) q:=by
 obtain⟨b',arr,e1,_,_,h4⟩:=ho.cell hj;cases e1;rw[y8];exact Mc hX hi h4 hT hq
theorem SO (hX:X.Good) {T e sz:Nat} {i:Nat} {h:Hp} (hi:m8 s i=some (.hp h)) {b c n j:Nat} {xs:List Value} (ho:iK e sz h (some ⟨b,0,none⟩) n c xs) {v:Value} {ti:TI} (hT:I2 X.tt T=some ti)
  (hv:v.cells.size=ti.size) (h1:aB v.cells.toList=true) (hj:j+ti.size<=n*sz) (hps:PB 0 ti.size=true) {q:List Ch->Prop}
  (hq :∀h',iK e sz h' (some ⟨b,0,none⟩) n c (xs.take j++v.cells.toList++xs.drop (j+ti.size))->q (x9 s i (.hp h'))) :
  gX X.P s (Instr.storeAt T (.pointer (some ⟨b,0+j,none⟩)) v) q:=by
 refine⟨λw0 w hok=>?_⟩;rcases ho.2 with ⟨h0,_⟩ | ⟨b',arr,e1,hb,hnc,hcm,hcs,htk⟩
 ·subst h0;simp[Lp] at hps hj;omega
 ·cases e1;have hblk:=hok.mem i _ hi b _ hb;have hle:n*sz<=c*sz:=y9 _ hnc;have hst:=run_storeCells_at X.P b (0+j) e v.cells.toList 0 arr w hblk (by simp[hv,hcs];omega) (Z3 h1);simp only[G3,y8,Array.length_toList,hv] at hst;refine⟨_,_,?_,iK.row (arr':=(arr.toList.take j++v.cells.toList++arr.toList.drop (j+ti.size)).toArray) hok hi hb,J6.set hi (λb cs T e=>by cases e),hq _ ⟨?_,.inr ⟨b,_,rfl,Hp.upd_self _ _ _,hnc,hcm,?_,?_⟩⟩⟩
  ·simp[Instr.storeAt,Instr.sureAddr,storeVar,(Good.und hX hT).size,hv,hst]
  ·have:=ho.1;simp[hv];omega
  ·simp[hv];omega
  ·have hxl:=ho.1;subst htk;apply O8;intro k;simp only[uT,oM,d6,j8,Array.length_toList,bV,hv,hcs];have e1:min j (c*sz)=j:=om
   have e2:min j (min (n*sz) (c*sz))=j:=om
   rw[e1,e2];by_cases c1:k < n*sz
   ·rw[if_pos c1];by_cases c2:k < j+ti.size
    ·rw[if_pos c2,if_pos c2];by_cases c3:k < j
     ·simp[c3,c1]
     ·simp[c3]
    ·rw[if_neg c2,if_neg c2];have:j+ti.size+(k - (j+ti.size))=k:=om
     rw[this,if_pos c1]
   ·rw[if_neg c1,if_neg om];rw[if_neg om]
end
end Go.Dw
namespace Go.Dw
open Go Go.RowKit
structure Os where
 a:Option Addr
 n:Nat
 c:Nat
 h:Hp
def Os.v (o:Os):Value:=.slice o.a o.n o.c
def Os.nil:Os:=⟨none,0,0,Hp.emp⟩
def w8 {α:Type} (f:α->List Value) (T sz:Nat) (o:Os) (L:List α):Prop:=AP f T sz o.h o.a o.n o.c L
theorem w8.nil {α:Type} (f:α->List Value) (T sz:Nat):w8 f T sz Os.nil []:=AP.nil f T sz _
theorem w8.len {α:Type} {f:α->List Value} {T sz:Nat} {o:Os} {L:List α} (h:w8 f T sz o L):o.n=L.length:=h.1
theorem w8.sl {α:Type} {f:α->List Value} {T sz:Nat} (hf :∀x,(f x).length=sz) (h0:0 < sz) {o:Os} {L:List α} (ho:w8 f T sz o L):Sl (B0 f) sz o.h o.a o.n o.c L:=AP.sl hf h0 ho
section
variable {X:R5} {s:List Ch}
theorem gF {α:Type} {f:α->List Value} (hX:X.Good) {T e ty:Nat} {te:TI} (hT:bM X T=some (e,te)) {i:Nat} {o:Os} (hi:m8 s i=some (.hp o.h)) {L:List α}
  (ho:w8 f e te.size o L) {j b e':Nat} (x:α) (hj:m8 s j=some (.box b (f x) e')) (hf:(f x).length=te.size) (h1:aB (f x)=true)
  (hby:R0 te.bytes 140=true) (hn:L.length < 1000000000000) {q:TV->List Ch->Prop}
  (hq :∀o',w8 f e te.size o' (L++[x])->q (.v o'.v) (x9 s i (.hp o'.h))) :
  tH X.P s #[T,T] ty o.v (.bs j 1) q:=
 Lj hX hT hi ho x hj hf h1 hby hn λa' c' h' ho'=>hq ⟨a',o.n+1,c',h'⟩ ho'
theorem CD {α:Type} (f:α->List Value) (z:α) :∀n,lX n (f z)=(p7 n z).flatMap f
 | 0=>rfl
 | n+1=>by simp[lX,CD f z n,qF]
theorem Er {α:Type} {f:α->List Value} (hX:X.Good) {T e:Nat} {te:TI} (hT:bM X T=some (e,te)) (n:Nat) (z:α) (hz:te.zero=f z) {l c:Int} (hl:l=n) (hc:c=n) (hby:R0 te.bytes 140=true) (hn:n < 1000000000000) {q:TV->List Ch->Prop}
  (hq :∀o,o.n=n->w8 f e te.size o (p7 n z)->q (.v o.v) (s++[.hp o.h])) :
  I0 X.P s (Instr.makeSlice T (iQ l) (iQ c)) q:=by
 have hb:=E0 hby;have hm:=Q9 hb (show n<=1000000000000 by omega);refine Mv hX hT n hl hc om om λb h' ho=>hq ⟨_,n,n,h'⟩ rfl ⟨sQ,?_⟩;rw[hz,CD] at ho;exact ho
theorem aW {α:Type} {f:α->List Value} (hX:X.Good) {T e:Nat} {te:TI} (hT:bM X T=some (e,te)) (h1:te.size=1) {o:Os} {L:List α} (ho:w8 f e 1 o L) {x:Int} (k:Nat) (hx:x=k) (hk:k < L.length) {q:TV->Prop}
  (hq :∀b,o.a=some ⟨b,0,none⟩->q (.v (.pointer (some ⟨b,0+k,none⟩)))):B7 X.P s (Instr.indexAt T o.v (iQ x)) q:=by
 obtain⟨hl,ho⟩:=ho;refine Ka hX hT (by rw[h1];exact ho) k hx om λb hb=>?_;rw[h1,E3];exact hq b hb
theorem OO {α:Type} {f:α->List Value} {g:α->Value} (hf :∀x,f x = [g x]) :∀L:List α,L.flatMap f=L.map g
 | []=>rfl
 | x::r=>by simp[hf,OO hf r]
theorem rQ {α:Type} {f:α->List Value} {g:α->Value} (hf :∀x,f x = [g x]) (hX:X.Good) {T e:Nat} {i:Nat} {o:Os} (hi:m8 s i=some (.hp o.h)) {b k:Nat} (hb:o.a=some ⟨b,0,none⟩) {L:List α} (ho:w8 f e 1 o L) (hk:k < L.length)
  (hT:(I2 X.tt T).map TI.agg=some false) {q:TV->Prop} (hq:q (.v (g L[k]))):B7 X.P s (Instr.loadAt T (.pointer (some ⟨b,0+k,none⟩))) q:=by
 obtain⟨hl,ho⟩:=ho;rw[hb,OO hf] at ho;exact bG hX hi ho (by simp[hk]) hT hq
theorem kI {α:Type} {f:α->List Value} {g:α->Value} (hf :∀x,f x = [g x]) (hX:X.Good) {T e:Nat} {i:Nat} {o:Os} (hi:m8 s i=some (.hp o.h)) {b k:Nat} (hb:o.a=some ⟨b,0,none⟩) {L:List α} (ho:w8 f e 1 o L) (hk:k < L.length)
  {ti:TI} (hT:I2 X.tt T=some ti) (h1:ti.size=1) (x:α) {v:Value} (hv:v=g x) (hc:(g x).cells = #[g x]) (hone:(g x).oneCell'=true) {q:List Ch->Prop}
  (hq :∀o',o'.a=o.a->o'.n=o.n->o'.c=o.c->w8 f e 1 o' (L.set k x)->q (x9 s i (.hp o'.h))):gX X.P s (Instr.storeAt T (.pointer (some ⟨b,0+k,none⟩)) v) q:=by
 subst hv;obtain⟨hl,ho⟩:=ho;rw[hb,OO hf] at ho;refine SO hX hi ho hT (by rw[hc,h1];rfl) (by rw[hc];simp[aB,hone]) (by rw[h1,hl];omega) (by rw[h1];rfl) λh' ho'=>hq ⟨o.a,o.n,o.c,h'⟩ rfl rfl rfl ⟨by simpa using hl,?_⟩;rw[OO hf,hb];have:(L.map g).take k++(g x).cells.toList++(L.map g).drop (k+ti.size)=(L.set k x).map g:=by
  rw[hc,h1];apply O8;intro j;simp only[oM,uT,j8,l7,bV,G7,O7,d6,d7,d9];have e1:min k L.length=k:=om
  rw[e1];by_cases c1:j < k
  ·simp[c1,show j < k+1 by omega,show ¬ k=j by omega]
  ·by_cases c2:j=k
   ·subst c2;simp[hk]
   ·simp[show ¬ j < k+1 by omega,show ¬ k=j by omega,show k+1+(j - (k+1))=j by omega]
 rw[<-this];exact ho'
end
end Go.Dw
namespace Go.Proofs.YtpjhmeicbjkcdaaGreatDoor
open Go Go.RowKit Go.Dw
abbrev v7 (w:World) (v:Value):Ending->World->Prop:=fD w λu cs=>u=v/\cs = []
theorem k7 {P:Program} {s:List Ch} {f:Nat} {args:List Value} {q:TV->List Ch->Prop} (v:Value)
  (h :∀w,gN s w->j6 P f args.toArray w (v7 w v)) (k:q (.v v) s):Q8 P s f args q:=by
 refine call h ?_;rintro _ _ ⟨rfl,rfl⟩;rwa [p8]
end Go.Proofs.YtpjhmeicbjkcdaaGreatDoor
namespace Go.Proofs.YtpjhmeicbjkcdaaGreatDoor
open Go Go.RowKit Go.Dw
theorem J0 {α:Type} {L L':List α} {k:Nat} (h1:L.length<=k) (h2:L'.length<=k) (h:L.take k=L'.take k):L=L':=by
 rw[<-u7 h1,<-u7 h2,h]
theorem G5 {α:Type} {L L':List α} {k:Nat} (h1:k < L.length) (h2:k < L'.length) (h:L.take k=L'.take k) (e:L[k]=L'[k]):L.take (k+1)=L'.take (k+1):=by
 rw[L8 h1,L8 h2,h,e]
theorem aC {α:Type} {P:α->Prop} {L:List α} {k:Nat} (hk:k < L.length) (h :∀y∈L.take k,P y) (e:P L[k]) :∀y∈L.take (k+1),P y:=by
 intro y hy;rw[L8 hk] at hy;rcases G1.1 hy with hy | hy
 ·exact h y hy
 ·have:y=L[k]:=by simpa using hy
  rw[this];exact e
end Go.Proofs.YtpjhmeicbjkcdaaGreatDoor
namespace Go.Dw
open Go Go.RowKit
def Hp.minus (g h:Hp):Hp:=λb=>match h b with | some _=>none | none=>g b
theorem Hp.minus_le (g h:Hp):(g.minus h).le g:=λb o e=>by
 unfold Hp.minus at e;cases hb:h b with
 | some x=>simp[hb] at e
 | none=>simpa [hb] using e
theorem Hp.minus_dj (g h:Hp):(g.minus h).dj h:=λb=>by
 cases hb:h b with
 | some x=>left;simp[Hp.minus,hb]
 | none=>right;rfl
theorem Hp.le_minus {g h k:Hp} (l:k.le g) (d:k.dj h):k.le (g.minus h):=λb o e=>by
 have:h b=none:=(d b).resolve_left (by rw[e];simp);simp[Hp.minus,this,l b o e]
theorem Ok.start2 (w:World) {h:Hp} (hi:h.In w):Ok w [.hp ((Hp.whole w).minus h),.hp h] w:=by
 refine⟨rfl,rfl,rfl,k8 _,k8 _,λi c e=>?_,λi j c d hij e1 e2=>?_⟩
 ·match i,e with
  | 0,e=>simp[m8] at e;subst e;exact (Hp.whole_in w).le (Hp.minus_le _ _)
  | 1,e=>simp[m8] at e;subst e;exact hi
 ·match i,j,e1,e2 with
  | 0,0,_,_=>exact absurd rfl hij
  | 1,1,_,_=>exact absurd rfl hij
  | 0,1,e1,e2=>simp[m8] at e1 e2;subst e1;subst e2;exact Hp.minus_dj _ _
  | 1,0,e1,e2=>simp[m8] at e1 e2;subst e1;subst e2;exact (Hp.minus_dj _ _).symm
def O6 (w:World) (h:Hp) (R:Value->Hp->List Ch->Prop):Ending->World->Prop:=λe w'=>∃v h' cs,e=.returned v/\Ok w (.hp ((Hp.whole w).minus h)::.hp h'::cs) w'/\R v h' cs
theorem Ok.callM {w0 w w':World} {s cs:List Ch} {i:Nat} {h h':Hp} (hok:Ok w0 s w) (hi:m8 s i=some (.hp h)) (hc:Ok w (.hp ((Hp.whole w).minus h)::.hp h'::cs) w'):Ok w0 (x9 s i (.hp h')++cs) w':=by
 have hlen :∀j d,m8 (x9 s i (.hp h')) j=some d->∃d',m8 s j=some d'/\(j≠i->d'=d)/\(j=i->d=.hp h'):=by
  intro j d e;rw[F9] at e;split at e
  ·rename_i hij;subst hij;rw[hi] at e;simp at e;exact⟨_,hi,λh=>absurd rfl h,λ_=>e.symm⟩
  ·rename_i hij;exact⟨d,e,λ_=>rfl,λh=>absurd h.symm hij⟩
 have rQ :∀j d,j≠i->m8 s j=some d->d.h.le ((Hp.whole w).minus h):=λj d hj e=>Hp.le_minus (hok.mem j d e).whole (hok.disj j i d _ hj e hi);have oldIn :∀j d,j≠i->m8 s j=some d->d.h.In w':=λj d hj e=>(hc.mem 0 _ rfl).le (rQ j d hj e);have djl :∀{a b c:Hp},a.le b->b.dj c->a.dj c:=λl d b=>by
  rename_i a b' c
  rcases d b with h1 | h1
  ·left
   cases ha:a b with
   | none=>rfl
   | some o=>rw[l b o ha] at h1;cases h1
  ·exact .inr h1
 have hdj:(Ch.hp ((Hp.whole w).minus h)).h.dj h':=hc.disj 0 1 _ _ om rfl rfl;have cget :∀k d,m8 cs k=some d->m8 (.hp ((Hp.whole w).minus h)::.hp h'::cs) (k+2)=some d:=λk d e=>by simpa [m8] using e
 refine⟨hc.os.trans hok.os,hc.tape.trans hok.tape,hc.output.trans hok.output,v8 hok.size hc.size,v8 hok.drawn hc.drawn,λj d e=>?_,λj k d d' hjk e1 e2=>?_⟩
 ·rw[H3] at e;split at e
  ·obtain⟨d',h1,h2,h3⟩:=hlen j d e;by_cases hj:j=i
   ·rw[h3 hj];exact hc.mem 1 _ rfl
   ·rw[<-h2 hj];exact oldIn j d' hj h1
  ·exact hc.mem _ d (cget _ d e)
 ·have kk :∀j k d d',m8 (x9 s i (.hp h')) j=some d->m8 cs k=some d'->d.h.dj d'.h:=by
   intro j k d d' e1 e2;obtain⟨x,h1,h2,h3⟩:=hlen j d e1;by_cases hj:j=i
   ·rw[h3 hj];exact hc.disj 1 (k+2) _ _ om rfl (cget k d' e2)
   ·rw[<-h2 hj];exact djl (rQ j x hj h1) (hc.disj 0 (k+2) _ _ om rfl (cget k d' e2))
  rw[H3] at e1 e2;split at e1 <;> split at e2
  ·obtain⟨x,h1,h2,h3⟩:=hlen j d e1;obtain⟨x',h1',h2',h3'⟩:=hlen k d' e2;by_cases hj:j=i
   ·have hk:k≠i:=λe=>hjk (hj.trans e.symm);rw[h3 hj,<-h2' hk];exact (djl (rQ k x' hk h1') hdj).symm
   ·by_cases hk:k=i
    ·rw[h3' hk,<-h2 hj];exact djl (rQ j x hj h1) hdj
    ·rw[<-h2 hj,<-h2' hk];exact hok.disj j k x x' hjk h1 h1'
  ·exact kk _ _ _ _ e1 e2
  ·exact (kk _ _ _ _ e2 e1).symm
  ·exact hc.disj _ _ d d' om (cget _ d e1) (cget _ d' e2)
theorem callM {P:Program} {s:List Ch} {f:Nat} {args:List Value} {q:TV->List Ch->Prop} {i:Nat} {h:Hp} (hi:m8 s i=some (.hp h)) {R:Value->Hp->List Ch->Prop}
  (hc :∀w,gN s w->j6 P f args.toArray w (O6 w h R)) (k :∀v h' cs,R v h' cs->q (.v v) (x9 s i (.hp h')++cs)):Q8 P s f args q:=by
 refine⟨λw0 w hok=>⟨(hc w hok.mem).1,(hc w hok.mem).2.mono λe w' he=>?_⟩⟩;obtain⟨v,h',cs,rfl,h1,h2⟩:=he;exact⟨v,_,rfl,hok.callM hi h1,(J6.set hi (λb cs T e=>by cases e)).trans (J6.app _ cs),k v h' cs h2⟩
theorem Fb {X : R5} (hX : X.Good) {f : Nat} {fn : Func} {c : Code} {args : List Value} {w : World} {h : Hp} (hin : h.In w) {R : Value -> Hp -> List Ch -> Prop} (rs : List ResultVar)
    (hf : X.P.funcs[f]? = some fn) (hb : fn.body = some c) (hn : (fn.name == "runtime.NumGoroutine") = false) (hr : fn.results = rs.toArray) (hm : fn.ntmps = X.n) (hl : R0 args.length X.n = true)
    (hwp : WP X c (λe t s => match e with
      | .exit _ => False
      | _ => oY X s t rs λv => ∃ h' cs, R v h' cs /\ ∀ w', Ok w s w' -> Ok w (.hp ((Hp.whole w).minus h) :: .hp h' :: cs) w') (pG 0 args) [.hp ((Hp.whole w).minus h), .hp h]) :
    j6 X.P f args.toArray w (O6 w h R) := by
  have hl := E0 hl
  refine ⟨λw => ?_, calls_of_wp hf hb ?_⟩
  · have hn' : ¬ fn.name = "runtime.NumGoroutine" := by simpa using hn
    simp [callFunc, hf, hn', hb]
  · refine wp_mono (tF hX c _ _ _ _ w hwp ⟨by simp [hm];omega, rfl, λi tv hi => ?_⟩ (Ok.start2 w hin)) λe a w' hq => ?_
    · obtain ⟨v, rfl, _, h2⟩ := fA args 0 i tv hi
      refine ⟨v, rfl, ?_⟩
      have : i < args.length := (q9.1 (by simpa using h2)).1
      rw [Array.getElem?_append_left (by simpa using this)]
      simpa using h2
    · have fin : ∀ t s, Fr X.n t s a -> Ok w s w' -> (oY X s t rs λv => ∃ h' cs, R v h' cs /\ ∀ w', Ok w s w' -> Ok w (.hp ((Hp.whole w).minus h) :: .hp h' :: cs) w') ->
          a.defers = [] /\ ∃ v, (results fn a.tmps).run X.P w' = .ok v w' /\ O6 w h R (.returned v) w' := by
        intro t s hf' hok hk
        obtain ⟨v, h1, h', cs, h2, h3⟩ := nE hX hf'.w hok.mem hk hr
        exact ⟨hf'.2.1, v, h1, v, h', cs, rfl, h3 w' hok, h2⟩
      cases e with
      | normal => obtain ⟨t, s, h1, h2, h3⟩ := hq;exact fin t s h1 h2 h3
      | ret => obtain ⟨t, s, h1, h2, h3⟩ := hq;exact fin t s h1 h2 h3
      | exit i => obtain ⟨t, s, h1, h2, h3⟩ := hq;exact h3.elim
      | goto l => exact hq.elim
      | panic c => exact hq.elim
      | outgrown => exact hq.elim
theorem enterMZ (X : R5) {f : Nat} {fn : Func} {c : Code} (args : List Value) {w : World} {h : Hp} (hin : h.In w) {R : Value -> Hp -> List Ch -> Prop} (rs : List ResultVar) (hf : X.P.funcs[f]? = some fn) (hwp : WP X c (λe t s => match e with
      | .exit _ => False
      | _ => oY X s t rs λv => ∃ h' cs, R v h' cs /\ ∀ w', Ok w s w' -> Ok w (.hp ((Hp.whole w).minus h) :: .hp h' :: cs) w') (pG 0 args) [.hp ((Hp.whole w).minus h), .hp h]) (hX : X.Good := by exact cxg _) (hb : fn.body = some c := by exact rfl) (hn : (fn.name == "runtime.NumGoroutine") = false := by exact rfl) (hr : fn.results = rs.toArray := by exact rfl) (hm : fn.ntmps = X.n := by exact rfl) (hl : R0 args.length X.n = true := by exact rfl) : j6 X.P f args.toArray w (O6 w h R) := Fb hX hin rs hf hb hn hr hm hl hwp
theorem Sl.src {α:Type} {f:α->List Value} {sz:Nat} (hf :∀x,(f x).length=sz) {h:Hp} {a:Option Addr} {n c:Nat} {L:List α} (hs:Sl (B0 f) sz h a n c L) {w:World} (hin:h.In w) :
  (∃c'',Value.slice a n c=.slice none 0 c''/\n=0)\/∃ad c',Value.slice a n c=.slice (some ad) n c'/\∀j u,(L.flatMap f)[j]?=some u->w.cell? (ad.add j)=some u:=by
 cases a with
 | none=>
  left
  cases L with
  | nil=>have:=hs.len;simp at this;subst this;exact⟨c,rfl,rfl⟩
  | cons x r=>obtain⟨b,off,cs,h1,_⟩:=hs.cells 0 sQ;cases h1
 | some ad=>
  right
  refine⟨ad,c,rfl,λj u hj=>?_⟩;have hlen :∀L:List α,(L.flatMap f).length=L.length*sz:=λL=>by
   induction L with
   | nil=>simp
   | cons x r ih=>simp[I6,hf,ih,Z5,V9]
  have hjl:j < L.length*sz:=by rw[<-hlen];exact (q9.1 hj).1
  have hsz:0 < sz:=by rcases w6 sz with h0 | h0 <;> first | exact h0 | (rw[h0] at hjl;omega)
  have hi:j / sz < L.length:=Nat.div_lt_of_lt_mul (by rw[q8];exact hjl);obtain⟨b,off,cs,h1,h2,h3,h4⟩:=hs.cells (j / sz) hi;cases h1;have hr:j % sz < sz:=C8 _ hsz;have hjj:j / sz*sz+j % sz=j:=by rw[q8];exact qD j sz
  have e:=mN f hf L (j / sz) (j % sz) hi hr;rw[hjj] at e;rw[e] at hj;have:=h4 (j % sz) u (by rw[show cs=f L[j / sz] from h3];exact hj);rw[Addr.add_mk];rw[nX,hjj] at this;exact hin.cell this
theorem I0.emp {P:Program} {s:List Ch} {e:Sem Value} {q:TV->List Ch->Prop} (h:I0 P (s++[.hp Hp.emp]) e q):I0 P s e q:=by
 obtain⟨h⟩:=h;refine⟨λw0 w hok=>?_⟩;obtain⟨tv,v,w',s',h1,h2,h3,h4,h5⟩:=h w0 w hok.emp;exact⟨tv,v,w',s',h1,h2,(J6.app s _).trans h3,h4,h5⟩
section
variable {X:R5} {s:List Ch}
theorem Li {α:Type} {f:α->List Value} (hX:X.Good) {T e ty:Nat} {te:TI} (hT:bM X T=some (e,te)) (hf :∀x,(f x).length=te.size) (hone :∀x,aB (f x)=true) {i:Nat} {o:Os} (hi:m8 s i=some (.hp o.h)) {L:List α}
  (ho:w8 f e te.size o L) {a:Option Addr} {n c:Nat} {L':List α} {k:Nat} {h':Hp} (hk:m8 s k=some (.hp h')) (hs:Sl (B0 f) te.size h' a n c L')
  (hby:R0 te.bytes 140=true) (hn:L.length+L'.length < 1000000000000) {q:TV->List Ch->Prop}
  (hq :∀o',w8 f e te.size o' (L++L')->(o'.a=none->L++L' = [])->q (.v o'.v) (x9 s i (.hp o'.h))) :
  tH X.P s #[T,T] ty o.v (.v (.slice a n c)) q:=by
 obtain⟨hl,ho⟩:=ho;have hb:=E0 hby;have hm:=Q9 (show o.n+n<=1000000000000 by have:=hs.len;omega) hb;have hlen :∀L:List α,(L.flatMap f).length=L.length*te.size:=λL=>by
  induction L with
  | nil=>simp
  | cons x r ih=>simp[I6,hf,ih,Z5,V9]
 refine⟨.slice a n c,rfl,AM hX hT hi ho (m:=n) (news:=L'.flatMap f) (by rw[hlen,hs.len]) (λv hv=>?_) om (by have:=hs.len;simp only[maxLen];omega) (λw hm=>hs.src hf (hm k _ hk)) λa' c' h' ho' hnil=>hq ⟨a',o.n+n,c',h'⟩ ⟨?_,?_⟩ λha=>?_⟩
 ·obtain⟨x,_,hx⟩:=List.mem_flatMap.1 hv;exact Z3 (hone x) v hx
 ·simp[hl,hs.len]
 ·rw[V1];exact ho'
 ·have h0:=hnil ha;have h2:=hs.len;refine w9 ?_;rw[d6,<-hl,<-h2];exact h0
theorem Is {α:Type} {f:α->List Value} (hX:X.Good) {T e ty:Nat} {te:TI} (hT:bM X T=some (e,te)) (hf :∀x,(f x).length=te.size) (hone :∀x,aB (f x)=true) {a0:Option Addr}
  {a:Option Addr} {n c:Nat} {L':List α} {k:Nat} {h':Hp} (hk:m8 s k=some (.hp h')) (hs:Sl (B0 f) te.size h' a n c L')
  (hby:R0 te.bytes 140=true) (hn:L'.length < 1000000000000) {q:TV->List Ch->Prop}
  (hq :∀o',w8 f e te.size o' L'->q (.v o'.v) (s++[.hp o'.h])) :
  tH X.P s #[T,T] ty (.slice a0 0 0) (.v (.slice a n c)) q:=by
 have hk':m8 (s++[.hp Hp.emp]) k=some (.hp h'):=by
  rw[H3,if_pos]
  ·exact hk
  ·rw[J7] at hk;exact (q9.1 hk).1
 have hset :∀c:Ch,x9 (s++[.hp Hp.emp]) s.length c=s++[c]:=λc=>by rw[S9];simp
 obtain⟨yv,hy,h1⟩:=Li (s:=s++[.hp Hp.emp]) (ty:=ty) hX hT hf hone (i:=s.length) (o:=⟨a0,0,0,Hp.emp⟩) (eQ s _) (L:=[]) ⟨rfl,by simpa using iK.nil _ _ _ _⟩ hk' hs hby (by simpa using hn) (q:=q)
  (λo' ho' _=>by rw[hset];exact hq o' (by simpa using ho'))
 exact⟨yv,by simpa [TV.val] using hy,h1.emp⟩
end
end Go.Dw
namespace Go.Proofs.YtpjhmeicbjkcdaaGreatDoor
open Go Go.RowKit Go.Dw
theorem KN {T:Nat} {s:List Ch} {xo yo:Operand} {a:Option Addr} {n c:Nat} {q:TV->Prop} (hT:(bM (cx 0) T).isSome=true) (h:q (.v (.bool a.isNone))) :
  B7 Tryz.prog s (do eqGuard .eql T xo yo (.slice a n c) zl;binOp .eql T (.slice a n c) zl) q:=by
 obtain⟨⟨e,te⟩,hx⟩:=Mz.1 hT;have hu:=(W6 (cxg 0) hx).1;refine⟨_,λw _=>?_,h⟩;have hun:(underlying T).run Tryz.prog w=.ok (.slice e) w:=by simp[underlying,show Tryz.prog.underlying T=_ from hu]
 have hg:(eqGuard .eql T xo yo (.slice a n c) zl).run Tryz.prog w=.ok () w:=by simp[eqGuard]
 rw[Sem.run_bind,hg];simp only[Result.andThen_ok,binOp,Sem.run_bind];have:(Op.equal T (.slice a n c) zl).run Tryz.prog w=.ok a.isNone w:=by
  unfold Op.equal Op.maxDepth;rw[show (10000:Nat)=9999+1 from rfl];unfold Op.equalIn;simp only[Sem.run_bind,hun,Result.andThen_ok];cases a <;> simp
 rw[this];rfl
def Z8 {α:Type} (p:α->Bool):List α->Int
 | []=>-1
 | y::r=>if p y then 0 else (if Z8 p r < 0 then -1 else Z8 p r+1)
theorem rX {α:Type} (p:α->Bool) :∀L:List α,-1<=Z8 p L
 | []=>by simp[Z8]
 | y::r=>by have:=rX p r;simp only[Z8];split <;> (try split) <;> omega
theorem jA {α:Type} (p:α->Bool) :∀L:List α,decide (0<=Z8 p L)=L.any p
 | []=>by simp[Z8]
 | y::r=>by
  have ih:=jA p r;have hg:=rX p r;simp only[Z8,Nc,<-ih];split
  ·rename_i h;simp[h]
  ·rename_i h
   simp only[h,AV];split
   ·rename_i h2;simp;omega
   ·rename_i h2;simp;omega
theorem pK {α:Type} (p:α->Bool) :∀(L:List α) (k:Nat),(∀y∈L.take k,p y=false)->k<=L.length->Z8 p L=if Z8 p (L.drop k) < 0 then -1 else Z8 p (L.drop k)+k
 | L,0,_,_=>by
  have:=rX p L;simp;omega
 | [],k+1,_,h=>by simp at h
 | y::r,k+1,h,hk=>by
  have h1:p y=false:=h y sQ;have ih:=pK p r k (λz hz=>h z (by simp[hz])) (by simpa using hk);have hg:=rX p (r.drop k);simp only[Z8,h1,List.drop_succ_cons];rw[ih];simp;split <;> (try split) <;> omega
theorem nG {α:Type} (p:α->Bool) (L:List α) (k:Nat) (hk:k < L.length) (h :∀y∈L.take k,p y=false) (e:p L[k]=true):Z8 p L=k:=by
 rw[pK p L k h (kA hk),r5 hk];simp[Z8,e]
theorem jR {α:Type} (p:α->Bool) (L:List α) (k:Nat) (hk:L.length<=k) (h :∀y∈L.take k,p y=false):Z8 p L = -1:=by
 rw[pK p L L.length (by rw[u7 (k8 _)];rwa [u7 hk] at h) (k8 _)];simp[Z8]
end Go.Proofs.YtpjhmeicbjkcdaaGreatDoor
namespace Go.Proofs.YtpjhmeicbjkcdaaGreatDoor
open Go Go.RowKit Go.Dw
theorem ON {α:Type} {f:α->List Value} {sz:Nat} (hf :∀x,(f x).length=sz) :∀L:List α,(L.flatMap f).length=L.length*sz
 | []=>by simp
 | x::r=>by rw[I6,d6,hf,ON hf r,d7,Z5];omega
theorem Sl.box {α:Type} {f:α->List Value} {sz:Nat} (hf :∀x,(f x).length=sz) (h0:0 < sz) {b T:Nat} {cs:List Value} {w:World} (hh:(Ch.box b cs T).h.In w) (L:List α) {n:Nat} (hL:cs=L.flatMap f) (hn:n=L.length) (hl:L.length < 1000000) :
  Sl (B0 f) sz (Hp.whole w) (some ⟨b,0,none⟩) n n L:=by
 subst hL hn;have hl:=ON hf L;refine Sl.mono (j7 _) hh (AP.sl (T:=T) hf h0 ⟨rfl,hl,.inr ⟨b,_,rfl,Hp.one_self _ _,k8 _,by unfold maxLen;omega,by simpa using hl,?_⟩⟩);exact u7 (Nat.le_of_eq hl)
end Go.Proofs.YtpjhmeicbjkcdaaGreatDoor
namespace Go.Dw
open Go Go.RowKit Go.ChangeShapes Go.WideShapes Go.ChangeAt
section
variable {H:Type} {enc:TypeId×Value->H} {P:Program} {W:World} {sp:Nat->Bool} {held:Bool}
theorem DA {w:World} {a:Addr} {v:Value} (h:w.cell? a=some v) :∃b off,a=⟨b,off,none⟩:=by
 obtain⟨b,off,spot⟩:=a;cases spot with
 | none=>exact⟨b,off,rfl⟩
 | some k=>
  unfold World.cell? at h;split at h <;> simp at h
structure Lt (P:Program) (t e:TypeId) (F0 F1:Field):Prop where
 u:P.underlying t=some (.struct #[F0,F1])
 o0:F0.offset=0
 o1:F1.offset=1
 t0:F0.type=e
 t1:F1.type=e
 ui:P.underlying e=some (.int .i64)
 ct:P.cellsOf t=2
 ce:P.cellsOf e=1
theorem okWide_slice {t e:TypeId} {r:Reach} {base:Nat} {v:Value} (ht:P.underlying t=some (.slice e)) (h:Value.okWide P W r base t v) :∃a n c,v=.slice a n c:=by
 simp only[Value.okWide,ht,Cell.okWide] at h;cases v <;> simp_all [Cell.ok]
theorem oN (hl:laidOutB P=true) {W':World} {sp':Nat->Bool} :∀{ts:List TypeId} {vs:List Value} {ds:List (DataW H)} {ps:List MemPlace},ts.all (λt=>P.readableRec t && decide (t < P.types.size))=true->
  DataW.TrodAll enc P W 0 (λ_=>true) true ts vs ds ps->(∀p∈ps,W.sameAt W' p)->(∀p∈ps,sp' p.block=true)->DataW.TrodAll enc P W' 0 sp' true ts vs ds ps
 | [],_,_,_,_,h,_,_=>by
  obtain⟨rfl,rfl,rfl⟩:=trodAll_nil h;exact trodAll_mk0
 | t::ts,_,_,_,ht,h,hs,hp=>by
  obtain⟨v,vs',d,ds',p,q,rfl,rfl,rfl,h1,h2⟩:=trodAll_cons h;simp only[T6,k6,decide_eq_true_eq] at ht;exact⟨p,q,WideElems.Trod_stays hl ht.1.1 ht.1.2 h1 (λx hx=>hs x (List.mem_append_left _ hx)) (λx hx=>hp x (List.mem_append_left _ hx)),
   oN hl ht.2 h2 (λx hx=>hs x (List.mem_append_right _ hx)) (λx hx=>hp x (List.mem_append_right _ hx)),rfl⟩
theorem QI {f:Func} {s:ChangeSpec} {apart fresh handsOn again:Bool} {W':World} {args:Array Value} {ds:List (DataW H)} {before:List MemPlace} {tb:TypeId}
  (hl:laidOutB P=true) (hvars:s.vars = []) (hts:f.params.toList.all (λt=>P.readableRec t && decide (t < P.types.size))=true) (hr:f.resultTypes = #[tb]) (htb:P.underlying tb=some .bool)
  (hW:DataW.Whole enc P f.params.toList s.vars apart W args.toList ds [] before) (hb:Below W.heap.size W W')
  (hfn:(s.fn H (ds++[])).results = [.lit (.bool true)]) (hfa:(s.fn H (ds++[])).args=ds) (hfv:(s.fn H (ds++[])).vars = []) :
  s.post enc P f apart fresh handsOn again W args (.bool true) W':=by
 have hlt:=hW.lt;have hold :∀p∈before,(λb=>decide (b < W.heap.size)) p.block=true:=λp hp=>by simpa using hlt p hp
 have hW':=hW;rw[hvars] at hW';obtain⟨pa,pv,hA,hV,rfl,hz,hn⟩:=hW';obtain⟨_,rfl⟩:=trodVars_none hV;rw[p8] at *;have hok :∀(j:Nat) (t:TypeId) (r:Value),f.resultTypes[j]?=some t->((Value.bool true).resultList f.resultTypes.size)[j]?=some r->Value.okWide P W' .any 0 t r:=ok_one hr rfl (okWide_bool_mk htb true);have hres :∀(b:Nat) (sp:Nat->Bool) (hd:Bool),DataW.TrodAll enc P W' b sp hd f.resultTypes.toList ((Value.bool true).resultList f.resultTypes.size) (s.fn H ds).results []:=λb sp hd=>by
  rw[hfn,hr];exact trodAll_mk1 (shut_bool htb true)
 have hargs :∀sp:Nat->Bool,(∀p∈pa,sp p.block=true)->DataW.TrodAll enc P W' 0 sp true f.params.toList args.toList (s.fn H ds).args pa:=λsp h=>by
  rw[hfa];exact oN hl hts hA (λx hx=>hb.same (hlt x hx)) h
 have hvs :∀sp:Nat->Bool,DataW.TrodVars enc P W' sp s.vars (s.fn H ds).vars []:=λsp=>by rw[hvars,hfv];rfl
 refine⟨ds,[],pa,[],pa,[],hW,by rw[p8];exact hres _ _ _,by rw[p8];exact hargs _ hold,by rw[p8];exact hvs _,hb.frame _,λ_=>?_⟩;refine⟨hok,_,_,([]++pa)++[],⟨[]++pa,[],trodAll_append (hargs _ (λ_ _=>rfl)) (hres _ _ _),hvs _,rfl,?_,?_⟩,?_⟩
 ·intro b off hp;rw[hb.frozen (hlt _ (by simpa using hp))];exact hz b off (by simpa using hp)
 ·intro ha;simpa using hn ha
 ·intro p hp _;simpa using hp
end
end Go.Dw
namespace Go.Proofs.YtpjhmeicbjkcdaaGreatDoor
open Go Go.RowKit Go.Dw Go.ChangeShapes Go.WideShapes Go.ChangeAt
theorem own:ownKnob Tryz.prog.godebug=none:=kr
theorem Ag:laidOutB Tryz.prog=true:=kr
section
variable {H:Type} {enc:TypeId×Value->H} {W:World} {r:Reach} {b0:Nat} {v:Value} {d:DataW H} {ps:List MemPlace}
end
theorem IG {f:Func} {s:ChangeSpec} {H:Type} {enc:TypeId×Value->H} {F:Nat} {W:World} {args:Array Value} {ds gs:List (DataW H)} {before:List MemPlace}
  (hvars:s.vars = []) (hts:f.params.toList.all (λt=>Tryz.prog.readableRec t && decide (t < Tryz.prog.types.size))=true) (hr:f.resultTypes = #[4])
  (hW:DataW.Whole enc Tryz.prog f.params.toList s.vars false W args.toList ds gs before)
  (hfn:(s.fn H ds).results = [.lit (.bool true)]) (hfa:(s.fn H ds).args=ds) (hfv:(s.fn H ds).vars = [])
  (hc:j6 Tryz.prog F args W (v7 W (.bool true))) :
  Calls Tryz.prog F args W λe W'=>∃v,e=.returned v/\s.post enc Tryz.prog f false true false false W args v W':=by
 obtain rfl:gs = []:=by
  obtain⟨p,q,_,hV,_⟩:=hW;rw[hvars] at hV;exact (trodVars_none hV).1
 refine hc.2.mono λe W' h=>?_;obtain⟨v,cs,rfl,hok,rfl,rfl⟩:=h;exact⟨_,rfl,QI Ag hvars hts hr Tryz.underlying4 hW hok.below (by rw[p8];exact hfn) (by rw[p8];exact hfa) (by rw[p8];exact hfv)⟩
end Go.Proofs.YtpjhmeicbjkcdaaGreatDoor
namespace Go.Proofs.YtpjhmeicbjkcdaaGreatDoor
def Bs:Nat:=4294967296
def u9:List Nat->Nat
 | []=>0
 | d::m=>d+Bs*u9 m
def P3 (m:List Nat):Prop:=∀d∈m,d < Bs
theorem X7 :∀(a b:List Nat),u9 (a++b)=u9 a+Bs ^ a.length*u9 b
 | [],b=>by simp[u9]
 | d::a,b=>by
  show d+Bs*u9 (a++b)=d+Bs*u9 a+Bs ^ (a.length+1)*u9 b
  rw[X7 a b,B9,O3,q8 (Bs ^ a.length) Bs,A0];omega
theorem bD :∀{m:List Nat},P3 m->u9 m < Bs ^ m.length
 | [],_=>by simp[u9]
 | d::m,h=>by
  have ih:=bD (m:=m) λx hx=>h x (A9 _ hx);have hd:=h d sQ;show d+Bs*u9 m < Bs ^ (m.length+1)
  rw[O3,q8 (Bs ^ m.length) Bs];have:Bs*(u9 m+1)<=Bs*Bs ^ m.length:=B8 _ ih;rw[B9] at this;omega
theorem Hs {U V U3 V2 P q u' v':Nat} (hU:U=U3*P+u') (hu:u' < P) (hV:V=V2*P+v') (hv:v' < P) (hq:q*V2<=U3) (hqB:q < Bs) (hmax :∀x,x < Bs->x*V2<=U3->x<=q) (hlt:U < Bs*V) (hV1:Bs*P<=V) :
  q*V < U+V/\U < (q+1)*V:=by
 have hP:0 < P:=om
 have hPV:0 < V:=S3 (Nat.mul_pos dc hP) hV1;refine⟨?_,?_⟩
 ·rcases w6 q with h0 | h0
  ·subst h0;omega
  ·have e1:q*V=q*V2*P+q*v':=by rw[hV,B9,A0]
   have e2:q*V2*P<=U3*P:=y9 _ hq;have e3:q*v' < q*P:=Nat.mul_lt_mul_of_pos_left hv h0;have e4:q*P<=Bs*P:=y9 _ om;omega
 ·refine j9 λhn=>?_;have hn:(q+1)*V<=U:=om
  by_cases hc:q+1 < Bs
  ·have e1:(q+1)*V2*P<=(q+1)*V:=by
    rw[hV,B9,A0];omega
   have e2:(q+1)*V2*P < (U3+1)*P:=by
    rw[D9 U3 1 P,P9];omega
   have e3:(q+1)*V2 < U3+1:=Nat.lt_of_mul_lt_mul_right e2;have:=hmax (q+1) hc om;omega
  ·have e:q+1=Bs:=om
   rw[e] at hn;omega
def bJ (q:Nat):List Nat->List Nat->Nat->Nat->List Nat×Nat×Nat
 | u::us,v::vs,c,b=>
  let x:=(c+q*v) % Bs
  let r:=bJ q us vs ((c+q*v) / Bs) (if u < b+x then 1 else 0)
  ((u+2*Bs - b - x) % Bs::r.1,r.2)
 | us,[],c,b=>(us,c,b)
 | [],_::_,c,b=>([],c,b)
theorem yW {q:Nat} (hq:q < Bs) :∀(us vs:List Nat) (c b:Nat),us.length=vs.length->P3 us->P3 vs->c < Bs->b<=1->
  u9 (bJ q us vs c b).1+q*u9 vs+c+b=u9 us+Bs ^ us.length*((bJ q us vs c b).2.1+(bJ q us vs c b).2.2)/\(bJ q us vs c b).1.length=us.length/\P3 (bJ q us vs c b).1/\(bJ q us vs c b).2.1 < Bs/\(bJ q us vs c b).2.2<=1
 | [],[],c,b,_,_,_,hc,hb=>by
  refine⟨?_,rfl,nofun,hc,hb⟩;show u9 []+q*u9 []+c+b=u9 []+Bs ^ 0*(c+b)
  simp[u9]
 | u::us,v::vs,c,b,hl,hu,hv,hc,hb=>by
  have h1:=hu u sQ;have h2:=hv v sQ;have hqv:q*v<=(Bs - 1)*(Bs - 1):=Q9 om om;have hc2:(c+q*v) / Bs < Bs:=by
   rw[L7 dc];have:(Bs - 1)*(Bs - 1)+Bs<=Bs*Bs:=dc
   omega
  obtain⟨g1,g2,g3,g4,g5⟩:=yW hq us vs ((c+q*v) / Bs) (if u < b+(c+q*v) % Bs then 1 else 0) (by simpa using hl) (λx hx=>hu x (A9 _ hx)) (λx hx=>hv x (A9 _ hx)) hc2 (by split <;> omega);obtain⟨r,hr⟩ :∃r,r=bJ q us vs ((c+q*v) / Bs) (if u < b+(c+q*v) % Bs then 1 else 0):=⟨_,rfl⟩
  have e:bJ q (u::us) (v::vs) c b=((u+2*Bs - b - (c+q*v) % Bs) % Bs::r.1,r.2):=by rw[hr];rfl
  rw[<-hr] at g1 g2 g3 g4 g5;rw[e];dsimp only;refine⟨?_,by simp[g2],λx hx=>?_,g4,g5⟩
  ·show (u+2*Bs - b - (c+q*v) % Bs) % Bs+Bs*u9 r.1+q*(v+Bs*u9 vs)+c+b=u+Bs*u9 us+Bs ^ (us.length+1)*(r.2.1+r.2.2)
   have e0:q*(v+Bs*u9 vs)=q*v+Bs*(q*u9 vs):=by
    rw[B9,jZ]
   have e1:Bs ^ (us.length+1)*(r.2.1+r.2.2)=Bs*(Bs ^ us.length*(r.2.1+r.2.2)):=by
    rw[O3,q8 (Bs ^ us.length) Bs,A0]
   rw[e0,e1];generalize q*v=w at *;generalize q*u9 vs=y at *;generalize Bs ^ us.length*(r.2.1+r.2.2)=z at *;generalize u9 r.1=m at *;generalize u9 us=n at *;unfold Bs at *;split at g1 <;> omega
  ·rcases A8.1 hx with rfl | hx
   ·exact C8 _ dc
   ·exact g3 x hx
structure BQ (u0 u1 u2 v1 v2 q r:Nat):Prop where
 e:q*v1+r=u0*Bs+u1
 m :∀x,x < Bs->x*(v1*Bs+v2)<=(u0*Bs+u1)*Bs+u2->x<=q
theorem Ma {u0 u1 v1 v2 q r:Nat} (h:q*v1+r=u0*Bs+u1):q*(v1*Bs+v2)+r*Bs=(u0*Bs+u1)*Bs+q*v2:=by
 rw[<-h,D9,B9,A0];omega
theorem BQ.start {u0 u1 u2 v1 v2:Nat} (hv:0 < v1) (h2:u2 < Bs):BQ u0 u1 u2 v1 v2 ((u0*Bs+u1) / v1) ((u0*Bs+u1) % v1):=by
 refine⟨by rw[q8];exact qD _ _,λx _ h=>?_⟩;rw[Nat.le_div_iff_mul_le hv];have e1:x*v1*Bs<=x*(v1*Bs+v2):=by rw[B9,A0];omega
 have e2:x*v1*Bs < (u0*Bs+u1+1)*Bs:=by
  rw[D9 (u0*Bs+u1) 1 Bs,P9];omega
 have:=Nat.lt_of_mul_lt_mul_right e2;omega
theorem BQ.step {u0 u1 u2 v1 v2 q r:Nat} (h:BQ u0 u1 u2 v1 v2 q r) (hc:Bs<=q\/r*Bs+u2 < q*v2):0 < q/\BQ u0 u1 u2 v1 v2 (q - 1) (r+v1):=by
 have hq:0 < q:=by
  rcases w6 q with h0 | h0
  ·subst h0;rcases hc with g | g
   ·unfold Bs at g;omega
   ·rw[Z4] at g;omega
  ·exact h0
 refine⟨hq,?_,λx hx hle=>?_⟩
 ·have:=h.e;obtain⟨k,rfl⟩ :∃k,q=k+1:=⟨q - 1,om⟩
  rw[D9,P9] at this;rw[XV];omega
 ·have h1:=h.m x hx hle;have h2:x≠q:=λe=>by
   subst e;rcases hc with g | g
   ·omega
   ·have:=Ma (v2:=v2) h.e;omega
  omega
theorem BQ.done {u0 u1 u2 v1 v2 q r:Nat} (h:BQ u0 u1 u2 v1 v2 q r) (h1:u1 < Bs) (hv2:v2 < Bs) (hle:u0<=v1) (hc : ¬ (r < Bs/\(Bs<=q\/r*Bs+u2 < q*v2))):q < Bs/\q*(v1*Bs+v2)<=(u0*Bs+u1)*Bs+u2:=by
 have e:=Ma (v2:=v2) h.e;have he:=h.e;by_cases hr:r < Bs
 ·have h3 : ¬ Bs<=q:=λg=>hc ⟨hr,.inl g⟩;have h4 : ¬ r*Bs+u2 < q*v2:=λg=>hc ⟨hr,.inr g⟩;exact⟨om,om⟩
 ·have hq:q < Bs:=j9 λg=>by
   have g1:Bs*v1<=q*v1:=y9 _ om;have g2:u0*Bs<=v1*Bs:=y9 _ hle;rw[q8 Bs v1] at g1;omega
  refine⟨hq,?_⟩;have g1:q*v2<=Bs*Bs:=Q9 om om;have g2:Bs*Bs<=r*Bs:=y9 _ om;omega
def dI:List Nat->List Nat->Nat->List Nat×Nat
 | u::us,v::vs,c=>((c+u+v) % Bs::(dI us vs ((c+u+v) / Bs)).1,(dI us vs ((c+u+v) / Bs)).2)
 | us,[],c=>(us,c)
 | [],_::_,c=>([],c)
theorem yZ :∀(us vs:List Nat) (c:Nat),us.length=vs.length->P3 us->P3 vs->c<=1->
  u9 (dI us vs c).1+Bs ^ us.length*(dI us vs c).2=u9 us+u9 vs+c/\(dI us vs c).1.length=us.length/\P3 (dI us vs c).1/\(dI us vs c).2<=1
 | [],[],c,_,_,_,hc=>by
  refine⟨?_,rfl,nofun,hc⟩;show u9 []+Bs ^ 0*c=u9 []+u9 []+c
  simp[u9]
 | u::us,v::vs,c,hl,hu,hv,hc=>by
  have h1:=hu u sQ;have h2:=hv v sQ;obtain⟨g1,g2,g3,g4⟩:=yZ us vs ((c+u+v) / Bs) (by simpa using hl) (λx hx=>hu x (A9 _ hx)) (λx hx=>hv x (A9 _ hx)) (by
   have:(c+u+v) / Bs < 2:=by rw[L7 dc];omega
   omega)
  obtain⟨r,hr⟩ :∃r,r=dI us vs ((c+u+v) / Bs):=⟨_,rfl⟩
  have e:dI (u::us) (v::vs) c=((c+u+v) % Bs::r.1,r.2):=by rw[hr];rfl
  rw[<-hr] at g1 g2 g3 g4;rw[e];dsimp only;refine⟨?_,by simp[g2],λx hx=>?_,g4⟩
  ·show (c+u+v) % Bs+Bs*u9 r.1+Bs ^ (us.length+1)*r.2=u+Bs*u9 us+(v+Bs*u9 vs)+c
   have e1:Bs ^ (us.length+1)*r.2=Bs*(Bs ^ us.length*r.2):=by
    rw[O3,q8 (Bs ^ us.length) Bs,A0]
   rw[e1];generalize Bs ^ us.length*r.2=z at *;generalize u9 r.1=m at *;generalize u9 us=n at *;generalize u9 vs=k at *;unfold Bs at *;omega
  ·rcases A8.1 hx with rfl | hx
   ·exact C8 _ dc
   ·exact g3 x hx
theorem RR {q:Nat} {us vs:List Nat} {t:Nat} (hl:us.length=vs.length) (hu:P3 us) (hv:P3 vs) (hq:q < Bs) (h1:q*u9 vs < u9 us+Bs ^ us.length*t+u9 vs) (h2:u9 us+Bs ^ us.length*t < (q+1)*u9 vs) :
  let r:=bJ q us vs 0 0
  (r.2.1+r.2.2<=t->u9 r.1+Bs ^ us.length*(t - (r.2.1+r.2.2))+q*u9 vs=u9 us+Bs ^ us.length*t)/\
  (t < r.2.1+r.2.2->0 < q/\t+1=r.2.1+r.2.2/\(dI r.1 vs 0).2=1/\u9 (dI r.1 vs 0).1+(q - 1)*u9 vs=u9 us+Bs ^ us.length*t):=by
 intro r;obtain⟨g1,g2,g3,g4,g5⟩:=yW hq us vs 0 0 hl hu hv dc dc;have hr:r=bJ q us vs 0 0:=rfl;rw[<-hr] at g1 g2 g3 g4 g5;obtain⟨a1,a2,a3,a4⟩:=yZ r.1 vs 0 (by rw[g2,hl]) g3 hv dc;have hb:=bD g3;have hvb:=bD hv;rw[g2] at hb a1;rw[<-hl] at hvb;rw[D9,P9] at h2;refine⟨λh=>?_,λh=>?_⟩
 ·obtain⟨k,hk⟩ :∃k,t=r.2.1+r.2.2+k:=⟨t - (r.2.1+r.2.2),om⟩
  rw[hk,BS,B9];omega
 ·obtain⟨k,hk⟩ :∃k,r.2.1+r.2.2=t+(k+1):=⟨r.2.1+r.2.2 - t - 1,om⟩
  rw[hk,B9,B9,E3] at g1;have hk0:k=0:=by
   rcases w6 k with e | e
   ·exact e
   ·have:Bs ^ us.length*1<=Bs ^ us.length*k:=B8 _ e;omega
  subst hk0;rw[jY] at g1;have hq0:0 < q:=by
   rcases w6 q with e | e
   ·subst e;rw[Z4] at g1;omega
   ·exact e
  have hc:(dI r.1 vs 0).2=1:=by
   rcases (show (dI r.1 vs 0).2=0\/(dI r.1 vs 0).2=1 by omega) with e | e
   ·rw[e,jY] at a1;have:=bD a3;rw[a2,g2] at this;omega
   ·exact e
  rw[hc,E3] at a1;refine⟨hq0,om,hc,?_⟩;obtain⟨p,rfl⟩ :∃p,q=p+1:=⟨q - 1,om⟩
  rw[XV];rw[D9,P9] at g1;omega
end Go.Proofs.YtpjhmeicbjkcdaaGreatDoor
namespace Go.Proofs.YtpjhmeicbjkcdaaGreatDoor
def Tr (m:List Nat):Prop:=∀k,0 < m.length->k+1=m.length->m.getD k 0≠0
structure fG (m:List Nat) (n:Nat):Prop where
 l:P3 m
 t:Tr m
 v:u9 m=n
theorem fG.nil:fG [] 0:=⟨nofun,(λk h _=>by cases h),rfl⟩
theorem rA {m:List Nat} (h:0 < m.length) :∃a p,m=a++[p]/\a.length+1=m.length/\m.getD (m.length - 1) 0=p:=by
 refine⟨m.take (m.length - 1),m[m.length - 1]'om,?_,by rw[j8];omega,?_⟩
 ·have:=L8 (l:=m) (i:=m.length - 1) om;rw[<-this,show m.length - 1+1=m.length by omega,p9]
 ·rw[i7,i6 om];rfl
theorem Y8 (a:List Nat) (p:Nat):u9 (a++[p])=u9 a+Bs ^ a.length*p:=by
 rw[X7];simp[u9]
theorem fG.ge {m:List Nat} {n:Nat} (h:fG m n) (h0:0 < m.length):Bs ^ (m.length - 1)<=n:=by
 obtain⟨a,p,e,hl,hp⟩:=rA h0;have hp0:=h.t (m.length - 1) h0 om;rw[hp] at hp0;have hv:=h.v;rw[e,Y8] at hv;have:a.length=m.length - 1:=om
 rw[<-this,<-hv];have:Bs ^ a.length*1<=Bs ^ a.length*p:=B8 _ om;omega
theorem fG.lt {m:List Nat} {n:Nat} (h:fG m n):n < Bs ^ m.length:=by rw[<-h.v];exact bD h.l
theorem fG.zero {m:List Nat} {n:Nat} (h:fG m n):n=0↔m = []:=by
 constructor
 ·intro hn;rcases w6 m.length with g | g
  ·exact w9 g
  ·have:=h.ge g;have:0 < Bs ^ (m.length - 1):=MU dc;omega
 ·intro hm;have:=h.v;rw[hm] at this;exact this.symm
theorem fG.shorter {a b:List Nat} {x y:Nat} (ha:fG a x) (hb:fG b y) (h:a.length < b.length):x < y:=by
 have h1:=ha.lt;have h2:=hb.ge om;exact S3 h1 (v8 (I4 dc om) h2)
theorem Dj {a b t:List Nat} {p q:Nat} (hl:a.length=b.length) (ha:P3 a) (h:p < q):u9 (a++p::t) < u9 (b++q::t):=by
 rw[X7,X7,hl];have h1:=bD ha;rw[hl] at h1;show u9 a+Bs ^ b.length*(p+Bs*u9 t) < u9 b+Bs ^ b.length*(q+Bs*u9 t)
 have:Bs ^ b.length*(p+1+Bs*u9 t)<=Bs ^ b.length*(q+Bs*u9 t):=B8 _ om;have e:Bs ^ b.length*(p+1+Bs*u9 t)=Bs ^ b.length*(p+Bs*u9 t)+Bs ^ b.length:=by
  rw[show p+1+Bs*u9 t=(p+Bs*u9 t)+1 by omega,B9,E3]
 omega
theorem FS :∀{a b:List Nat},a.length=b.length->P3 a->P3 b->u9 a=u9 b->a=b
 | [],[],_,_,_,_=>rfl
 | x::a,y::b,hl,ha,hb,h=>by
  have h1:=ha x sQ;have h2:=hb y sQ;have h:x+Bs*u9 a=y+Bs*u9 b:=h;have e1:x=y:=by
   have this:(x+Bs*u9 a) % Bs=(y+Bs*u9 b) % Bs:=by rw[h]
   rw[wQ,wQ,C9 h1,C9 h2] at this;exact this
  subst e1;have e2:u9 a=u9 b:=Nat.eq_of_mul_eq_mul_left (show 0 < Bs by decide) om;rw[FS (by simpa using hl) (λz hz=>ha z (A9 _ hz)) (λz hz=>hb z (A9 _ hz)) e2]
theorem fG.uniq {a b:List Nat} {n:Nat} (ha:fG a n) (hb:fG b n):a=b:=by
 refine FS ?_ ha.l hb.l (ha.v.trans hb.v.symm);rcases Bp a.length b.length with h | h | h
 ·have:=ha.shorter hb h;omega
 ·exact h
 ·have:=hb.shorter ha h;omega
theorem drop_zero {a:List Nat} (h:P3 (a++[0])):P3 a/\u9 (a++[0])=u9 a:=by
 refine⟨λd hd=>h d (by simp[hd]),?_⟩;rw[Y8];simp
theorem PL {m:List Nat} (h:P3 m) (ht:m.length=0\/m.getD (m.length - 1) 0≠0):fG m (u9 m):=by
 refine⟨h,λk h0 hk=>?_,rfl⟩;rcases ht with g | g
 ·omega
 ·have:k=m.length - 1:=om
  rw[this];exact g
def V5 (by':Nat):List Nat->Nat->List Nat×Nat
 | [],c=>([],c)
 | d::m,c=>((c+d*by') % Bs::(V5 by' m ((c+d*by') / Bs)).1,(V5 by' m ((c+d*by') / Bs)).2)
theorem rE {by':Nat} (hb:by' < Bs) :∀(m:List Nat) (c:Nat),P3 m->c < Bs->u9 (V5 by' m c).1+Bs ^ m.length*(V5 by' m c).2=u9 m*by'+c/\(V5 by' m c).1.length=m.length/\P3 (V5 by' m c).1/\(V5 by' m c).2 < Bs
 | [],c,_,hc=>by
  refine⟨?_,rfl,nofun,hc⟩;show u9 []+Bs ^ 0*c=u9 []*by'+c
  simp[u9]
 | d::m,c,hm,hc=>by
  have h1:=hm d sQ;have hdb:d*by'<=(Bs - 1)*(Bs - 1):=Q9 om om
  have hc2:(c+d*by') / Bs < Bs:=by
   rw[L7 dc];have:(Bs - 1)*(Bs - 1)+Bs<=Bs*Bs:=dc
   omega
  obtain⟨g1,g2,g3,g4⟩:=rE hb m ((c+d*by') / Bs) (λx hx=>hm x (A9 _ hx)) hc2;obtain⟨r,hr⟩ :∃r,r=V5 by' m ((c+d*by') / Bs):=⟨_,rfl⟩
  have e:V5 by' (d::m) c=((c+d*by') % Bs::r.1,r.2):=by rw[hr];rfl
  rw[<-hr] at g1 g2 g3 g4;rw[e];dsimp only;refine⟨?_,by simp[g2],λx hx=>?_,g4⟩
  ·show (c+d*by') % Bs+Bs*u9 r.1+Bs ^ (m.length+1)*r.2=(d+Bs*u9 m)*by'+c
   have e1:Bs ^ (m.length+1)*r.2=Bs*(Bs ^ m.length*r.2):=by
    rw[O3,q8 (Bs ^ m.length) Bs,A0]
   rw[e1,D9,A0 Bs];generalize Bs ^ m.length*r.2=z at *;generalize u9 r.1=k at *;generalize u9 m*by'=n at *
   generalize d*by'=w at *
   unfold Bs at *;omega
  ·rcases A8.1 hx with rfl | hx
   ·exact C8 _ dc
   ·exact g3 x hx
def fK (by':Nat):List Nat->List Nat×Nat
 | []=>([],0)
 | d::m=>((((fK by' m).2*Bs+d) / by')::(fK by' m).1,((fK by' m).2*Bs+d) % by')
theorem yD {by':Nat} (h0:0 < by') (hb:by' < Bs) :∀(m:List Nat),P3 m->u9 (fK by' m).1*by'+(fK by' m).2=u9 m/\(fK by' m).1.length=m.length/\P3 (fK by' m).1/\(fK by' m).2 < by'
 | [],_=>⟨by show u9 []*by'+0=u9 [];simp[u9],rfl,nofun,h0⟩
 | d::m,hm=>by
  have h1:=hm d sQ;obtain⟨g1,g2,g3,g4⟩:=yD h0 hb m λx hx=>hm x (A9 _ hx);obtain⟨r,hr⟩ :∃r,r=fK by' m:=⟨_,rfl⟩
  have e:fK by' (d::m)=((r.2*Bs+d) / by'::r.1,(r.2*Bs+d) % by'):=by rw[hr];rfl
  rw[<-hr] at g1 g2 g3 g4;rw[e];dsimp only;have hq:(r.2*Bs+d) / by' < Bs:=by
   rw[L7 h0];have:(r.2+1)*Bs<=by'*Bs:=y9 _ om
   rw[D9,P9,q8 by' Bs] at this;omega
  refine⟨?_,by simp[g2],λx hx=>?_,C8 _ h0⟩
  ·show ((r.2*Bs+d) / by'+Bs*u9 r.1)*by'+(r.2*Bs+d) % by'=d+Bs*u9 m
   have e1:=qD (r.2*Bs+d) by'
   rw[q8] at e1;rw[D9,A0,<-g1,B9,q8 Bs r.2];omega
  ·rcases A8.1 hx with rfl | hx
   ·exact hq
   ·exact g3 x hx
end Go.Proofs.YtpjhmeicbjkcdaaGreatDoor
namespace Go.Proofs.YtpjhmeicbjkcdaaGreatDoor
theorem lH (u:List Nat) (i:Nat):u9 u=u9 (u.take i)+Bs ^ (u.take i).length*u9 (u.drop i):=by
 conv=>lhs;rw[<-E4 i u]
 rw[X7]
theorem Ds {d c p s:Nat} (hps:p*s=Bs) (hc:c < p):(c+d*p) % Bs=d*p % Bs+c/\(c+d*p) / Bs=d*p / Bs:=by
 have e:d*p % Bs=p*(d % s):=by rw[<-hps,q8 d p,MV]
 have hs:0 < s:=by
  rcases w6 s with h | h
  ·subst h;rw[jY] at hps;unfold Bs at hps;omega
  ·exact h
 have hlt:p*(d % s)+c < Bs:=by
  have h1:=C8 d hs;have h2:p*(d % s+1)<=p*s:=B8 _ h1;rw[B9,E3,hps] at h2;omega
 have h0:=qD (d*p) Bs;have e1:c+d*p=(p*(d % s)+c)+Bs*(d*p / Bs):=by rw[<-e];omega
 refine⟨?_,?_⟩
 ·rw[e1,wQ,C9 hlt,e]
 ·rw[e1,MW _ _ (show 0 < Bs by decide),Fu hlt];omega
def eE (p s:Nat):List Nat->List Nat
 | []=>[]
 | d::m=>(d / p+(m.getD 0 0*s) % Bs)::eE p s m
theorem zF (p s:Nat) :∀m:List Nat,(eE p s m).length=m.length
 | []=>rfl
 | _::m=>by show (eE p s m).length+1=m.length+1;rw[zF p s m]
theorem HJ {p s:Nat} (hps:p*s=Bs) (hp:0 < p) :∀(m:List Nat),P3 m->u9 (eE p s m)=u9 m / p
 | [],_=>by simp[eE,u9]
 | [d],_=>by
  show d / p+(0*s) % Bs+Bs*u9 []=(d+Bs*u9 []) / p
  simp[u9]
 | d::e::m,h=>by
  have ih:=HJ hps hp (e::m) λx hx=>h x (A9 _ hx);have he:=h e sQ;show d / p+(e*s) % Bs+Bs*u9 (eE p s (e::m))=(d+Bs*u9 (e::m)) / p
  rw[ih];have hs:0 < s:=by
   rcases w6 s with g | g
   ·subst g;rw[jY] at hps;unfold Bs at hps;omega
   ·exact g
  have hX:u9 (e::m)=e+Bs*u9 m:=rfl;generalize u9 m=Y at hX;rw[hX];have e1:(d+Bs*(e+Bs*Y)) / p=d / p+s*(e+Bs*Y):=by
   rw[<-hps,A0 p s,MW _ _ hp,hps]
  have e2:(e+Bs*Y) / p=e / p+s*Y:=by
   rw[<-hps,A0 p s,MW _ _ hp]
  have e3:e*s / Bs=e / p:=by rw[<-hps,Nat.mul_div_mul_right _ _ hs]
  have e4:=qD (e*s) Bs;rw[e3] at e4;have e5:s*(e+Bs*Y)=e*s+Bs*(s*Y):=by rw[B9,q8 s e,jZ]
  have e6:Bs*(e / p+s*Y)=Bs*(e / p)+Bs*(s*Y):=B9 _ _ _;rw[e1,e2,e5,e6];omega
structure BU (U V:Nat) (n:Nat) (u:List Nat) (i Q:Nat):Prop where
 l:P3 u
 e:u9 u+V*(Bs ^ i*Q)=U
 r:u9 (u.drop i) < V
theorem BU.next {U V n:Nat} {u u':List Nat} {i Q q:Nat} (h:BU U V n u (i+1) Q) (hi:i < u.length) (hl:P3 u') (hlen:u'.length=u.length) (htk:u'.take i=u.take i) (hq:u9 (u'.drop i)+q*V=u9 (u.drop i)) (hr:u9 (u'.drop i) < V):BU U V n u' i (q+Bs*Q):=by
 refine⟨hl,?_,hr⟩;have e1:=lH u i;have e2:=lH u' i;rw[htk] at e2;have hlt:(u.take i).length=i:=by rw[j8];omega
 rw[hlt] at e1 e2;have he:=h.e;rw[O3] at he;have e3:V*(Bs ^ i*(q+Bs*Q))=Bs ^ i*(q*V)+V*(Bs ^ i*Bs*Q):=by
  rw[B9,B9,jZ V (Bs ^ i) q,q8 V q,A0 (Bs ^ i) Bs Q]
 rw[e2,e3];have e4:Bs ^ i*u9 (u.drop i)=Bs ^ i*u9 (u'.drop i)+Bs ^ i*(q*V):=by rw[<-hq,B9]
 omega
theorem BU.window {U V n:Nat} {u:List Nat} {i Q:Nat} (h:BU U V n u (i+1) Q) (hi:i < u.length):u9 (u.drop i) < Bs*V:=by
 have e:u.drop i=u[i]::u.drop (i+1):=r5 hi;have h1:=h.l u[i] (j0 hi);rw[e];show u[i]+Bs*u9 (u.drop (i+1)) < Bs*V
 have h2:Bs*(u9 (u.drop (i+1))+1)<=Bs*V:=B8 _ h.r;rw[B9,E3] at h2;omega
theorem BU.fin {U V n:Nat} {u:List Nat} {Q:Nat} (h:BU U V n u 0 Q):Q=U / V/\u9 u=U % V:=by
 have hr:u9 u < V:=by have:=h.r;rwa [H6] at this
 have he:=h.e;rw[Nat.pow_zero,P9] at he;have hV:0 < V:=om
 refine⟨?_,?_⟩
 ·rw[<-he,MW _ _ hV,Fu hr,y8]
 ·rw[<-he,wQ,C9 hr]
theorem VZ (x y:Nat):I5 x y=I5 y (x % y):=by
 rw[Nat.gcd_comm x y,Nat.gcd_rec y x,Nat.gcd_comm]
end Go.Proofs.YtpjhmeicbjkcdaaGreatDoor
namespace Go.Proofs.YtpjhmeicbjkcdaaGreatDoor
theorem tU (b:Nat) :∀(a:List Nat) (d c:Nat),V5 b (a++[d]) c=((V5 b a c).1++[((V5 b a c).2+d*b) % Bs],((V5 b a c).2+d*b) / Bs)
 | [],d,c=>rfl
 | x::a,d,c=>by
  show ((c+x*b) % Bs::(V5 b (a++[d]) ((c+x*b) / Bs)).1,(V5 b (a++[d]) ((c+x*b) / Bs)).2)=_
  rw[tU b a d];rfl
theorem yF (b:Nat) :∀(a:List Nat) (c:Nat),(V5 b a c).1.length=a.length
 | [],_=>rfl
 | x::a,c=>by
  show (V5 b a ((c+x*b) / Bs)).1.length+1=a.length+1
  rw[yF b a]
theorem I8 {α:Type} (L:List α) (i:Nat) (h:i < L.length):L.take (i+1)=L.take i++[L[i]]:=L8 h
theorem DX {α:Type} (a:List α) (z x:α) (n:Nat) (b:List α):(a++(p7 (n+1) z++b)).set a.length x=(a++[x])++(p7 n z++b):=by
 rw[JF _ _ (k8 _),bS,qF];simp
theorem rD {α:Type} (a:List α) (z x:α) (b:List α):(a++z::b).set a.length x=(a++[x])++b:=by
 rw[JF _ _ (k8 _),bS];simp
theorem xB {α:Type} (a:List α) (z:α) (b:List α) (h:a.length < (a++z::b).length):(a++z::b)[a.length]=z:=by
 rw[List.getElem_append_right (k8 _)];simp
theorem CL (q:Nat) :∀(us vs:List Nat) (u v c b:Nat),us.length=vs.length->bJ q (us++[u]) (vs++[v]) c b =
  ((bJ q us vs c b).1++[(u+2*Bs - (bJ q us vs c b).2.2 - ((bJ q us vs c b).2.1+q*v) % Bs) % Bs],((bJ q us vs c b).2.1+q*v) / Bs,if u < (bJ q us vs c b).2.2+((bJ q us vs c b).2.1+q*v) % Bs then 1 else 0)
 | [],[],u,v,c,b,_=>rfl
 | [],_::_,_,_,_,_,h=>by simp at h
 | _::_,[],_,_,_,_,h=>by simp at h
 | x::us,y::vs,u,v,c,b,h=>by
  have ih:=CL q us vs u v ((c+q*y) / Bs) (if x < b+(c+q*y) % Bs then 1 else 0) (by simpa using h);show ((x+2*Bs - b - (c+q*y) % Bs) % Bs::(bJ q (us++[u]) (vs++[v]) _ _).1,(bJ q (us++[u]) (vs++[v]) _ _).2)=_
  rw[ih];rfl
theorem HF (q:Nat) :∀(us vs:List Nat) (c b:Nat),us.length=vs.length->(bJ q us vs c b).1.length=us.length
 | [],[],_,_,_=>rfl
 | [],_::_,_,_,h=>by simp at h
 | _::_,[],_,_,h=>by simp at h
 | x::us,y::vs,c,b,h=>by
  show (bJ q us vs _ _).1.length+1=us.length+1
  rw[HF q us vs _ _ (by simpa using h)]
theorem CM :∀(us vs:List Nat) (u v c:Nat),us.length=vs.length->dI (us++[u]) (vs++[v]) c=((dI us vs c).1++[((dI us vs c).2+u+v) % Bs],((dI us vs c).2+u+v) / Bs)
 | [],[],u,v,c,_=>rfl
 | [],_::_,_,_,_,h=>by simp at h
 | _::_,[],_,_,_,h=>by simp at h
 | x::us,y::vs,u,v,c,h=>by
  have ih:=CM us vs u v ((c+x+y) / Bs) (by simpa using h);show ((c+x+y) % Bs::(dI (us++[u]) (vs++[v]) _).1,(dI (us++[u]) (vs++[v]) _).2)=_
  rw[ih];rfl
theorem HH :∀(us vs:List Nat) (c:Nat),us.length=vs.length->(dI us vs c).1.length=us.length
 | [],[],_,_=>rfl
 | [],_::_,_,h=>by simp at h
 | _::_,[],_,h=>by simp at h
 | x::us,y::vs,c,h=>by
  show (dI us vs _).1.length+1=us.length+1
  rw[HH us vs _ (by simpa using h)]
theorem GB (b:Nat) :∀m:List Nat,(fK b m).1.length=m.length
 | []=>rfl
 | x::m=>by show (fK b m).1.length+1=m.length+1;rw[GB b m]
theorem PS (b:Nat) (m:List Nat) (i:Nat) (h:i < m.length):fK b (m.drop i)=((((fK b (m.drop (i+1))).2*Bs+m[i]) / b)::(fK b (m.drop (i+1))).1,((fK b (m.drop (i+1))).2*Bs+m[i]) % b):=by
 rw[r5 h];rfl
def gI (p:Nat) (m:List Nat):List Nat:=(V5 p m 0).1++[(V5 p m 0).2]
theorem yK {p:Nat} (hp:p < Bs) {m:List Nat} (hm:P3 m):u9 (gI p m)=u9 m*p/\P3 (gI p m)/\(gI p m).length=m.length+1:=by
 obtain⟨h1,h2,h3,h4⟩:=rE hp m 0 hm dc;refine⟨?_,λd hd=>?_,by unfold gI;rw[d6,h2];rfl⟩
 ·unfold gI;rw[Y8,h2];omega
 ·rcases G1.1 hd with g | g
  ·exact h3 d g
  ·rw[E2] at g;rw[g];exact h4
theorem yG {p s:Nat} (hps:p*s=Bs) :∀(m:List Nat) (c:Nat),P3 m->c < p->(V5 p m c).2 < p
 | [],c,_,h=>h
 | d::m,c,hm,h=>by
  refine yG hps m _ (λx hx=>hm x (A9 _ hx)) ?_;have hd:=hm d sQ;rw[L7 dc];have:(d+1)*p<=Bs*p:=y9 _ hd;rw[D9,P9,q8 Bs p] at this;omega
theorem EL {p k x y:Nat} (hp:p=2 ^ k) (hx:x < p):(p*y) ||| x=p*y+x:=by
 subst hp;rw[Nat.two_pow_add_eq_or_of_lt hx]
theorem EK {p k x y:Nat} (hp:p=2 ^ k) (hx:x < p):x ||| (p*y)=x+p*y:=by
 rw[Nat.or_comm,EL hp hx,V9]
theorem PU {p s k c d:Nat} (hp:p=2 ^ k) (hps:p*s=Bs) (hc:c < p):c ||| (d*p % Bs)=(c+d*p) % Bs/\d*p / Bs=(c+d*p) / Bs:=by
 obtain⟨h1,h2⟩:=Ds (d:=d) hps hc;refine⟨?_,h2.symm⟩;have e:d*p % Bs=p*(d % s):=by rw[<-hps,q8 d p,MV]
 rw[h1,e,EK hp hc,V9]
theorem PQ {p s k d e:Nat} (hs:s=2 ^ k) (hps:p*s=Bs) (hp:0 < p) (hd:d < Bs):(d / p) ||| (e*s % Bs)=d / p+e*s % Bs:=by
 have e1:e*s % Bs=s*(e % p):=by rw[<-hps,q8 p s,q8 e s,MV]
 have hlt:d / p < s:=by
  rw[L7 hp,q8,hps];exact hd
 rw[e1,EK hs hlt]
theorem VL {p s:Nat} {m:List Nat} {i:Nat} (h:i < m.length) (h2:i < (eE p s m).length):(eE p s m)[i]=m[i] / p+(m.getD (i+1) 0*s) % Bs:=by
 induction m generalizing i with
 | nil=>cases h
 | cons d m ih=>
  cases i with
  | zero=>rfl
  | succ i=>
   have:=ih (i:=i) (by simpa using h) (by rw[zF];simpa using h);simpa [eE] using this
theorem HK {p s:Nat} (hps:p*s=Bs) (hp:0 < p) :∀{m:List Nat},P3 m->P3 (eE p s m)
 | [],_=>nofun
 | d::m,h=>by
  intro x hx;rcases A8.1 hx with rfl | hx
  ·have hd:=h d sQ;have e1:m.getD 0 0*s % Bs=s*(m.getD 0 0 % p):=by rw[<-hps,q8 p s,q8 _ s,MV]
   have hlt:d / p < s:=by
    rw[L7 hp,q8,hps];exact hd
   have h2:=C8 (m.getD 0 0) hp;have h3:s*(m.getD 0 0 % p+1)<=s*p:=B8 _ h2;rw[B9,E3,q8 s p,hps] at h3;rw[e1];omega
  ·exact HK hps hp (m:=m) (λy hy=>h y (A9 _ hy)) x hx
theorem NX {a b:List Nat} (hl:a.length=b.length) (ha:P3 a) {i:Nat} (hi:i < a.length) (hi2:i < b.length) (h:a.drop (i+1)=b.drop (i+1)) (hlt:a[i] < b[i]):u9 a < u9 b:=by
 have e1:a=a.take i++a[i]::a.drop (i+1):=by rw[<-r5 hi,E4]
 have e2:b=b.take i++b[i]::a.drop (i+1):=by rw[h,<-r5 hi2,E4]
 rw[e1,e2];have t1:(a.take i).length=(b.take i).length:=by rw[j8,j8,hl]
 have:=Dj (t:=a.drop (i+1)) t1 (λd hd=>ha d (C6 hd)) hlt;simpa using this
def BM (x y:Nat):Int:=if x < y then -1 else if y < x then 1 else 0
def iC (x y:Int):Int:=if x < y then -1 else if y < x then 1 else 0
end Go.Proofs.YtpjhmeicbjkcdaaGreatDoor
namespace Go.Dw
open Go Go.RowKit
def F0 (r:Option Nat):Fence:={ Fence.wide with round:=r }
def wd (a:Act) (ds:List Deferred):Act:={ tmps:=a.tmps,defers:=ds }
def eG (ds:List Nat):List Deferred:=ds.map λD=>{ target:=.collected D,args:=#[] }
theorem qM (a:Act) (ds:List Deferred):(wd a ds).eval=a.eval:=by funext x;cases x <;> rfl
theorem lF (a:Act) (ds:List Deferred) (dst:Option Nat) (v:Value):(wd a ds).put dst v=wd (a.put dst v) ds:=by cases dst <;> rfl
theorem put_defers (a:Act) (dst:Option Nat) (v:Value):(a.put dst v).defers=a.defers:=by cases dst <;> rfl
theorem Hg {r:Option Nat} {ds:List Deferred} {P:Program} {o:Oper} {a:Act} {w:World} {K:Act->World->Prop} {Q':Exit->Act->World->Prop}
  (h:o.wp P a w (λa' w'=>a'.defers = []/\K (wd a' ds) w') (λ_ _ _=>False)):o.wpIn (F0 r) 0 P (wd a ds) w K Q':=by
 refine⟨λ_ _=>trivial,?_⟩;unfold Oper.wp at h;by_cases hd :∃c,o.op=.defer c
 ·obtain⟨c,hc⟩:=hd;exfalso
  simp only[execOp,hc,Sem.run_bind] at h;cases hr:(resolve a.eval c o.type).run P w with
  | ok d w'=>
   simp only[hr,Result.andThen_ok,Sem.run_pure,Oper.upon_defer] at h;have h1:=h.1;rw[put_defers] at h1;cases h1
  | halt x w'=>
   simp only[hr] at h;cases x <;> exact h
 ·have hs:o.semAt (F0 r).round (wd a ds).eval=execOp a.eval o:=by
   rw[qM];exact Oper.semAt_eq _ _ _ λc hc=>hd ⟨c,hc⟩
  rw[hs];generalize (execOp a.eval o).run P w=res at *;cases res with
  | ok x w'=>
   cases x <;> (try exact h.elim)
   case value v=>rw[Oper.uponIn_value,lF];exact h.2
   case skip=>rw[Oper.uponIn_skip,lF];exact h.2
   case enter f args=>
    refine⟨nofun,CallsIn.mono (F:=F0 r) (callsIn_wide.2 h) λe w'' he=>?_⟩;cases e with
    | returned v=>dsimp only at he ⊢;rw[lF];exact he.2
    | panicked chain=>exact he.elim
    | outgrown=>obtain⟨_,_,hh⟩:=he;exact hh.elim
   case row row args=>
    refine⟨nofun,λc cs _=>?_⟩;obtain⟨v,w'',h1,h2⟩:=h c cs;exact⟨v,w'',by dsimp only;rw[lF];exact h1.2,stepsIn_wide.2 h2⟩
   case defer d=>have h1:=h.1;rw[put_defers] at h1;cases h1
  | halt x w'=>cases x <;> exact h.elim
inductive Cu (P:Program) (s:List Ch) (l:Nat) (args:List Value) (q:TV->List Ch->Prop):Prop
 | mk (h :∀w0 w,Ok w0 s w->YieldAt Fence.wide 0 P l args.toArray w λe w'=>∃v s',e=.returned v/\Ok w0 s' w'/\J6 s s'/\q (.v v) s')
def YL (X:R5) (s:List Ch) (t:Tm) (o:Oper) (q:TV->List Ch->Prop):Prop:=match o.op with
 | .call ⟨.value f,⟨args⟩,_⟩=>(match YA t f with
  | some (.v (.func (.yield l) ⟨[]⟩ ⟨[]⟩))=>vals s t args λargs=>Cu X.P s l args q
  | _=>FO X s t o q)
 | .makeMap T none=>I0 X.P s (Instr.makeMap T none) q
 | .mapUpdate T m k x=>val s t m λm=>val s t k λk=>val s t x λx=>gX X.P s (Instr.mapUpdate T m k x) λs'=>q (.v undef) s'
 | .lookup T m k ok=>val s t m λm=>val s t k λk=>I0 X.P s (Instr.lookup T m k ok) q
 | .convert S T x=>(match I2 X.tt T with
  | some ⟨.sl _,_,_,_⟩=>val s t x λv=>I0 X.P s (convert S T v) q
  | _=>FO X s t o q)
 | _=>FO X s t o q
def ND (X:R5) (all:List Oper):List Oper->(Tm->List Ch->Prop)->Tm->List Ch->Prop
 | [],q,t,s=>q t s
 | o::r,q,t,s=>aI all o t
   (λt=>YL X s t o λtv s'=>putk X.n t o.dst tv λt'=>ND X all r q t' s')
   (λt=>putk X.n t o.dst (.v undef) λt'=>ND X all r q t' s)
section
variable {X:R5} {w0:World} {r:Option Nat} {ds:List Deferred}
theorem NE (hX:X.Good) {t:Tm} {s:List Ch} {a:Act} {o:Oper} {q:TV->List Ch->Prop} (hf:Fr X.n t s a) (h:YL X s t o q) {w:World} (hok:Ok w0 s w) {K:Act->World->Prop} {Q':Exit->Act->World->Prop}
  (hK :∀tv v s' w',Ok w0 s' w'->J6 s s'->tv.val s'=some v->q tv s'->K (wd (a.put o.dst v) ds) w'):o.wpIn (F0 r) 0 X.P (wd a ds) w K Q':=by
 have eok:YE X.P s o a q->o.wpIn (F0 r) 0 X.P (wd a ds) w K Q':=λh=>
  Hg (h w0 w hok _ _ λtv v s' w' h1 h2 h3 h4=>⟨by rw[put_defers];exact hf.2.1,hK tv v s' w' h1 h2 h3 h4⟩)
 have plain:FO X s t o q->o.wpIn (F0 r) 0 X.P (wd a ds) w K Q':=λh=>eok (DK hX hf h);unfold YL at h;split at h
 ·rename_i f args tys ho
  split at h
  ·rename_i l hv
   obtain⟨tv,h1,h2⟩:=hf.w.tvk (x:=f) (q:=λtv=>tv=.v (.func (.yield l) ⟨[]⟩ ⟨[]⟩)) (by unfold tvk;rw[hv];exact rfl);subst h2;simp only[TV.val,m9] at h1;have h3:=hf.w.vals h;obtain⟨h4⟩:=h3;obtain⟨fn,tmps,assign,body,h5,h6⟩:=h4 w0 w hok;refine⟨λ_ _=>trivial,?_⟩;have hs:o.semAt (F0 r).round (wd a ds).eval=execOp a.eval o:=by
    rw[qM];exact Oper.semAt_eq _ _ _ λc hc=>by rw[ho] at hc;cases hc
   have e:(execOp a.eval o).run X.P w=.ok (.round l fn tmps assign body) w:=by
    have:(execOp a.eval o).run X.P w=(Instr.yield l (args.map a.eval).toArray).run X.P w:=by
     simp[execOp,ho,resolve,Deferred.ofValue,invoke,<-h1]
    rw[this,h5]
   rw[hs,e];refine⟨nofun,RoundIn.mono (F:=F0 r) h6 λe w' he=>?_⟩;obtain⟨v,s',rfl,h7,h8,h9⟩:=he;dsimp only;rw[lF];exact hK (.v v) v s' w' h7 h8 rfl h9
  ·exact plain h
 ·rename_i T ho
  exact eok (I0.ok h λw=>by simp only[execOp,ho];rfl)
 ·rename_i T m k x ho
  exact eok (gX.ok (hf.w.val (hf.w.val (hf.w.val h))) λw=>by simp only[execOp,ho])
 ·rename_i T m k ok ho
  exact eok (I0.ok (hf.w.val (hf.w.val h)) λw=>by simp only[execOp,ho])
 ·rename_i S T x ho
  split at h
  ·exact eok (I0.ok (hf.w.val h) λw=>by simp only[execOp,ho])
  ·exact plain h
 ·exact plain h
theorem xK (hX:X.Good) {all:List Oper} {Q:Exit->Act->World->Prop} {q:Tm->List Ch->Prop} (hQ :∀t s a w,Fr X.n t s a->Ok w0 s w->q t s->Q .normal (wd a ds) w) :
  ∀(ops:List Oper) (t:Tm) (s:List Ch) (a:Act) (w:World),ND X all ops q t s->Fr X.n t s a->Ok w0 s w->wpListIn (F0 r) 0 X.P all.toArray Q ops (wd a ds) w
 | [],t,s,a,w,h,hf,hok=>wpListIn_nil (hQ t s a w hf hok h)
 | o::rest,t,s,a,w,h,hf,hok=>by
  refine wpListIn_step λK hK=>?_;rcases S8 hf h with ⟨hw,t',hf',hy⟩ | ⟨hw,t',hf',hn⟩
  ·rw[if_pos (show Region.wanted o (yielded all.toArray (wd a ds).tmps)=true from hw)];refine NE hX hf' hy hok λtv v s' w' hok' hk hv hp=>?_;obtain⟨t'',h1,h2⟩:=(hf'.keep hk).putk hv hp;exact hK _ _ (xK hX hQ rest t'' s' _ w' h1 h2 hok')
  ·rw[if_neg (show ¬ Region.wanted o (yielded all.toArray (wd a ds).tmps)=true by rw[show (wd a ds).tmps=a.tmps from rfl,hw];simp)];obtain⟨t'',h1,h2⟩:=hf'.putk (tv:=.v undef) rfl hn;refine⟨λ_ _=>trivial,?_⟩;rw[lF];exact hK _ _ (xK hX hQ rest t'' s _ w h1 h2 hok)
end
abbrev QD:=Ex->Tm->List Ch->List Nat->Prop
def XE (n:Nat) (w0:World) (Q:QD):Exit->Act->World->Prop
 | .normal,a,w=>∃t s ds a0,a=wd a0 (eG ds)/\Fr n t s a0/\Ok w0 s w/\Q .normal t s ds
 | .exit i,a,w=>∃t s ds a0,a=wd a0 (eG ds)/\Fr n t s a0/\Ok w0 s w/\Q (.exit i) t s ds
 | .ret,a,w=>∃t s ds a0,a=wd a0 (eG ds)/\Fr n t s a0/\Ok w0 s w/\Q .ret t s ds
 | _,_,_=>False
inductive qC (X:R5) (ops:List Oper) (Q:Tm->List Ch->Prop) (t:Tm) (s:List Ch):Prop
 | mk (h :∀(r:Option Nat) ds w0 w a (Q':Exit->Act->World->Prop),Ok w0 s w->Fr X.n t s a->(∀t s a w,Ok w0 s w->Fr X.n t s a->Q t s->Q' .normal (wd a ds) w)->
   (∀c a w,¬ Q' (.panic c) a w)->wpAnyIn (F0 r) 0 X.P .any ops.toArray Q' ops.toArray.size (Array.replicate ops.toArray.size false) (wd a ds) { w with drawn:=w.drawn+1 })
def Kg:Option TV->Bool
 | some (.v (.func (.yield _) _ _))=>true
 | _=>false
def VJ (t:Tm) (f:Nat):List Oper->Bool
 | []=>false
 | o::r=>(match o.dst,o.op with | some d,.move (.tmp j)=>(match X3 d f with | true=>Kg (dS t j) | false=>false) | _,_=>false) || VJ t f r
def Lx (t:Tm) (all:List Oper):List Oper->Bool
 | []=>false
 | o::r=>(match o.op with | .call ⟨.value (.tmp f),_,_⟩=>VJ t f all | _=>false) || Lx t all r
inductive uR (X:R5) (g:Operand) (ps:Array Nat) (assign body:Code) (Q:QD) (t:Tm) (s:List Ch) (ds:List Nat):Prop
 | mk (h :∀w0 w a,Fr X.n t s a->Ok w0 s w->(Code.rangeFunc g ps assign body).wpIn Fence.wide 0 X.P (XE X.n w0 Q) (wd a (eG ds)) w)
def KC (ds' ds:List Nat) (p:Prop):Prop:=match ds',ds with | [],[]=>p | ds',ds=>ds'=ds/\p
theorem lO {ds' ds:List Nat} {p:Prop} (h:KC ds' ds p):ds'=ds/\p:=by
 unfold KC at h;split at h
 ·exact⟨rfl,h⟩
 ·exact h
def SH (X:R5) (rd:Bool):Code->QD->Tm->List Ch->List Nat->Prop
 | .skip,Q,t,s,ds=>Q .normal t s ds
 | .label _,Q,t,s,ds=>Q .normal t s ds
 | .seq a b,Q,t,s,ds=>SH X rd a (λe t s ds=>match e with | .normal=>SH X rd b Q t s ds | .exit i=>Q (.exit i) t s ds | .ret=>Q .ret t s ds) t s ds
 | .cond c x y,Q,t,s,ds=>tvk s t c λtv=>match tv with
  | .v (.bool b)=>Cn (SH X rd x Q t s ds) (SH X rd y Q t s ds) b
  | _=>False
 | .block id c,Q,t,s,ds=>SH X rd c (λe t s ds=>match e with
  | .exit j=>match X3 j id with | true=>Q .normal t s ds | false=>Q (.exit j) t s ds
  | .normal=>Q .normal t s ds
  | .ret=>Q .ret t s ds) t s ds
 | .loop c,Q,t,s,ds=>u6 (λQ t s=>SH X rd c (λe t' s' ds'=>KC ds' ds (Q e t' s')) t s ds) (λe t s=>Q e t s ds) t s
 | .exit id,Q,t,s,ds=>Q (.exit id) t s ds
 | .ret,Q,t,s,ds=>Q .ret t s ds
 | .region _ ⟨ops⟩ false,Q,t,s,ds=>ND X ops ops (λt s=>Q .normal t s ds) t s
 | .region _ ⟨ops⟩ true,Q,t,s,ds=>match rd,ds with
  | false,[]=>(match Lx t ops ops with | true=>qC X ops (λt s=>Q .normal t s []) t s | false=>s6 X ops (λt s=>Q .normal t s []) t s)
  | _,_=>qC X ops (λt s=>Q .normal t s ds) t s
 | .rangeFunc g ps x b,Q,t,s,ds=>match rd with | false=>uR X g ps x b Q t s ds | true=>False
 | _,_,_,_,_=>False
theorem uP {X:R5} (hX:X.Good) {w0:World} {r:Option Nat} {rd:Bool} (hrd:rd=false->r=none) :∀(c:Code) (Q:QD) (t:Tm) (s:List Ch) (ds:List Nat) (a:Act) (w:World),
  SH X rd c Q t s ds->Fr X.n t s a->Ok w0 s w->c.wpIn (F0 r) 0 X.P (XE X.n w0 Q) (wd a (eG ds)) w:=by
 intro c;induction c with
 | skip=>intro Q t s ds a w h hf hok;exact wpIn_skip ⟨t,s,ds,a,rfl,hf,hok,h⟩
 | label l=>intro Q t s ds a w h hf hok;exact wpIn_label ⟨t,s,ds,a,rfl,hf,hok,h⟩
 | exit id=>intro Q t s ds a w h hf hok;exact wpIn_exit ⟨t,s,ds,a,rfl,hf,hok,h⟩
 | ret=>intro Q t s ds a w h hf hok;exact wpIn_ret ⟨t,s,ds,a,rfl,hf,hok,h⟩
 | refuse why=>intro Q t s ds a w h hf hok;exact h.elim
 | goto l=>intro Q t s ds a w h hf hok;exact h.elim
 | scope b ih=>intro Q t s ds a w h hf hok;exact h.elim
 | rangeFunc f ps x b ih1 ih2=>
  intro Q t s ds a w h hf hok;cases rd with
  | true=>exact h.elim
  | false=>
   cases hrd rfl;obtain⟨h⟩:=h;exact h w0 w a hf hok
 | seq x y ihx ihy=>
  intro Q t s ds a w h hf hok;refine wpIn_seq (wpIn_mono (ihx _ t s ds a w h hf hok) λe a' w' hq=>?_);cases e with
  | normal=>obtain⟨t',s',ds',a0,rfl,h1,h2,h3⟩:=hq;exact ihy Q t' s' ds' a0 w' h3 h1 h2
  | exit i=>obtain⟨t',s',ds',a0,rfl,h1,h2,h3⟩:=hq;exact⟨t',s',ds',a0,rfl,h1,h2,h3⟩
  | ret=>obtain⟨t',s',ds',a0,rfl,h1,h2,h3⟩:=hq;exact⟨t',s',ds',a0,rfl,h1,h2,h3⟩
  | goto l=>exact hq.elim
  | panic c=>exact hq.elim
  | outgrown=>exact hq.elim
 | cond c x y ihx ihy=>
  intro Q t s ds a w h hf hok;obtain⟨tv,h1,h2⟩:=hf.w.tvk h;cases tv with
  | bx _ _=>exact h2.elim
  | bs _ _=>exact h2.elim
  | v v=>
   simp only[TV.val,m9] at h1;cases v <;> try exact h2.elim
   rename_i b
   refine wpIn_cond (t:=b) (by rw[qM];exact h1.symm) ?_;cases b with
   | true=>exact ihx Q t s ds a w h2 hf hok
   | false=>exact ihy Q t s ds a w h2 hf hok
 | block id c ih=>
  intro Q t s ds a w h hf hok;refine wpIn_block (wpIn_mono (ih _ t s ds a w h hf hok) λe a' w' hq=>?_);cases e with
  | normal=>obtain⟨t',s',ds',a0,rfl,h1,h2,h3⟩:=hq;exact⟨t',s',ds',a0,rfl,h1,h2,h3⟩
  | exit i=>
   obtain⟨t',s',ds',a0,rfl,h1,h2,h3⟩:=hq;simp only[Exit.inBlock];by_cases hi:i=id
   ·subst hi;rw[if_pos rfl];simp only[Nat.beq_refl] at h3;exact⟨t',s',ds',a0,rfl,h1,h2,h3⟩
   ·rw[if_neg hi];have:X3 i id=false:=by cases e:X3 i id with
     | false=>rfl
     | true=>exact absurd (J4 e) hi
    simp only[this] at h3;exact⟨t',s',ds',a0,rfl,h1,h2,h3⟩
  | ret=>obtain⟨t',s',ds',a0,rfl,h1,h2,h3⟩:=hq;exact⟨t',s',ds',a0,rfl,h1,h2,h3⟩
  | goto l=>exact hq.elim
  | panic c=>exact hq.elim
  | outgrown=>exact hq.elim
 | loop c ih=>
  intro Q t s ds a w h hf hok;obtain⟨G,I,S,R,m,g0,h0,e0,round⟩:=h;refine wpIn_loop (λa w=>∃n,∃g a0,a=wd a0 (eG ds)/\R g/\m g=n/\Ok w0 (S g) w/\Fr X.n (I g) (S g) a0) (λa w=>leastOf λn=>∃g a0,a=wd a0 (eG ds)/\R g/\m g=n/\Ok w0 (S g) w/\Fr X.n (I g) (S g) a0)
   ⟨m g0,g0,a,rfl,h0,rfl,(e0 _ w0 w a hok hf).1,(e0 _ w0 w a hok hf).2⟩ ?_
  intro a w hI;obtain⟨g,a0,rfl,hR,hm,hok,hf⟩:=(leastOf_spec hI).1;refine wpIn_mono (ih _ _ _ _ a0 w (round g hR ⟨w0,w,hok⟩) hf hok) λe a' w' hq=>?_;cases e with
  | normal=>
   obtain⟨t',s',ds',a1,rfl,h1,h2,hs⟩:=hq;obtain⟨rfl,g',h3,h4,h5⟩:=lO hs;have key :∃g a0,wd a1 (eG ds')=wd a0 (eG ds')/\R g/\m g=m g'/\Ok w0 (S g) w'/\Fr X.n (I g) (S g) a0:=⟨g',a1,rfl,h3,rfl,(h5 _ w0 w' a1 h2 h1).1,(h5 _ w0 w' a1 h2 h1).2⟩
   exact⟨⟨_,key⟩,s7 ((leastOf_spec (p:=λn=>∃g a0,wd a1 (eG ds')=wd a0 (eG ds')/\R g/\m g=n/\Ok w0 (S g) w'/\Fr X.n (I g) (S g) a0) ⟨_,key⟩).2 _ key) (by rw[<-hm];exact h4)⟩
  | exit i=>obtain⟨t',s',ds',a1,rfl,h1,h2,hs⟩:=hq;obtain⟨rfl,h3⟩:=lO hs;exact⟨t',s',ds',a1,rfl,h1,h2,h3⟩
  | ret=>obtain⟨t',s',ds',a1,rfl,h1,h2,hs⟩:=hq;obtain⟨rfl,h3⟩:=lO hs;exact⟨t',s',ds',a1,rfl,h1,h2,h3⟩
  | goto l=>exact hq.elim
  | panic c=>exact hq.elim
  | outgrown=>exact hq.elim
 | region id ops draw=>
  intro Q t s ds a w h hf hok;obtain⟨ops⟩:=ops;cases draw with
  | false=>
   refine wpIn_region_list ?_;exact xK hX (λt s a w hf hok hq=>⟨t,s,ds,a,rfl,hf,hok,hq⟩) ops t s a w h hf hok
  | true=>
   have main:qC X ops (λt s=>Q .normal t s ds) t s->(Code.region id ⟨ops⟩ true).wpIn (F0 r) 0 X.P (XE X.n w0 Q) (wd a (eG ds)) w:=λ⟨h⟩=>
    wpIn_region_any (F:=F0 r) hX.1 (h r (eG ds) w0 w a _ hok hf (λt s a w hok hf hq=>⟨t,s,ds,a,rfl,hf,hok,hq⟩) (λc a w hq=>hq))
   cases rd with
   | true=>exact main h
   | false=>
    cases ds with
    | cons _ _=>exact main h
    | nil=>
     cases hrd rfl;unfold SH at h;dsimp only at h;split at h
     ·exact main h
     have ha:wd a (eG [])=a:=by
      have:=hf.2.1;cases a;simp only[wd,eG,List.map_nil] at this ⊢;rw[this]
     rw[ha];obtain⟨h⟩:=h;refine wpIn_wide.2 (wp_region_any hX.1 ?_);exact h w0 w a _ hok hf (λt s a w hok hf hq=>⟨t,s,[],a,by
      have:=hf.2.1;cases a;simp only[wd,eG,List.map_nil] at this ⊢;rw[this],hf,hok,hq⟩) (λc a w hq=>hq)
end Go.Dw
namespace Go.Dw
open Go Go.RowKit
def joinL:List Ch->Hp
 | []=>Hp.emp
 | c::r=>c.h.join (joinL r)
def PC (l:List Ch):Prop:=∀i j c d,i≠j->m8 l i=some c->m8 l j=some d->c.h.dj d.h
theorem cJ :∀{l:List Ch} {b:Nat} {o:Obj},joinL l b=some o->∃i d,m8 l i=some d/\d.h b=some o
 | [],b,o,h=>by cases h
 | c::r,b,o,h=>by
  have h:(match c.h b with | some o=>some o | none=>joinL r b)=some o:=h;cases hc:c.h b with
  | some o'=>rw[hc] at h;cases h;exact⟨0,c,rfl,hc⟩
  | none=>rw[hc] at h;obtain⟨i,d,h1,h2⟩:=cJ h;exact⟨i+1,d,h1,h2⟩
theorem PC.tail {c:Ch} {l:List Ch} (h:PC (c::l)):PC l:=λi j a b hij h1 h2=>h (i+1) (j+1) a b om h1 h2
theorem I3 :∀{l:List Ch},PC l->∀{i:Nat} {d:Ch},m8 l i=some d->d.h.le (joinL l)
 | [],_,i,d,h=>by cases h
 | c::r,hd,0,d,h=>by simp only[m8,m9] at h;subst h;exact Hp.le_join_l _ _
 | c::r,hd,i+1,d,h=>by
  refine (I3 hd.tail (show m8 r i=some d from h)).trans (Hp.le_join_r λb=>?_);cases hj:joinL r b with
  | none=>exact .inr rfl
  | some o=>
   left
   obtain⟨k,e,h1,h2⟩:=cJ hj;exact (hd 0 (k+1) c e om rfl h1 b).resolve_right (by rw[h2];simp)
theorem Ok.joinL {w0 w:World} {c:Ch} {l:List Ch} (h:Ok w0 (c::l) w):Ok w0 [c,.hp (Dw.joinL l)] w:=by
 have hcd:c.h.dj (Dw.joinL l):=λb=>by
  cases hj:Dw.joinL l b with
  | none=>exact .inr rfl
  | some o=>
   left
   obtain⟨k,e,h1,h2⟩:=cJ hj;exact (h.disj 0 (k+1) c e om rfl h1 b).resolve_right (by rw[h2];simp)
 refine⟨h.os,h.tape,h.output,h.size,h.drawn,λi d e=>?_,λi j d d' hij e1 e2=>?_⟩
 ·match i,e with
  | 0,e=>exact h.mem 0 d e
  | 1,e=>
   simp only[m8,m9] at e;subst e;intro b o hb;obtain⟨k,d,h1,h2⟩:=cJ hb;exact h.mem (k+1) d h1 b o h2
 ·match i,j,e1,e2 with
  | 0,0,_,_=>exact absurd rfl hij
  | 1,1,_,_=>exact absurd rfl hij
  | 0,1,e1,e2=>simp only[m8,m9] at e1 e2;subst e1;subst e2;exact hcd
  | 1,0,e1,e2=>simp only[m8,m9] at e1 e2;subst e1;subst e2;exact hcd.symm
theorem Ok.djL {w0 w:World} {c:Ch} {l:List Ch} (h:Ok w0 (c::l) w):PC l:=λi j a b hij h1 h2=>h.disj (i+1) (j+1) a b om h1 h2
theorem Hp.djLe {a b k:Hp} (d:a.dj b) (l:k.le b):a.dj k:=λx=>by
 rcases d x with h | h
 ·exact .inl h
 ·right
  cases hk:k x with
  | none=>rfl
  | some o=>rw[l _ _ hk] at h;cases h
theorem Ok.splitL {w0 w:World} {c:Ch} {l:List Ch} (h:Ok w0 [c,.hp (Dw.joinL l)] w) (hd:PC l):Ok w0 (c::l) w:=by
 have key :∀{i d},m8 l i=some d->c.h.dj d.h:=λe=>Hp.djLe (h.disj 0 1 _ _ om rfl rfl) (I3 hd e);refine⟨h.os,h.tape,h.output,h.size,h.drawn,λi d e=>?_,λi j d d' hij e1 e2=>?_⟩
 ·match i,e with
  | 0,e=>exact h.mem 0 d e
  | i+1,e=>exact (h.mem 1 _ rfl).le (I3 hd e)
 ·match i,j,e1,e2 with
  | 0,0,_,_=>exact absurd rfl hij
  | 0,j+1,e1,e2=>simp only[m8,m9] at e1;subst e1;exact key e2
  | i+1,0,e1,e2=>simp only[m8,m9] at e2;subst e2;exact (key e1).symm
  | i+1,j+1,e1,e2=>exact hd i j d d' om e1 e2
theorem Ok.less {w0 w:World} {h k:Hp} {l:List Ch} (hok:Ok w0 (.hp h::l) w) (hl:k.le h):Ok w0 (.hp k::l) w:=by
 have dl :∀{x:Hp},h.dj x->k.dj x:=λd=>(Hp.djLe d.symm hl).symm;refine⟨hok.os,hok.tape,hok.output,hok.size,hok.drawn,λi d e=>?_,λi j d d' hij e1 e2=>?_⟩
 ·match i,e with
  | 0,e=>simp only[m8,m9] at e;subst e;exact (hok.mem 0 _ rfl).le hl
  | i+1,e=>exact hok.mem (i+1) d e
 ·match i,j,e1,e2 with
  | 0,0,_,_=>exact absurd rfl hij
  | 0,j+1,e1,e2=>simp only[m8,m9] at e1;subst e1;exact dl (hok.disj 0 (j+1) _ _ om rfl e2)
  | i+1,0,e1,e2=>simp only[m8,m9] at e2;subst e2;exact (dl (hok.disj 0 (i+1) _ _ om rfl e1)).symm
  | i+1,j+1,e1,e2=>exact hok.disj (i+1) (j+1) d d' om e1 e2
theorem Ok.putObj {w0 w:World} {s:List Ch} (hok:Ok w0 s w) {i:Nat} {h:Hp} (hi:m8 s i=some (.hp h)) {b:Nat} {o:Obj} (hb:h b=some o) (o':Obj) :
  Ok w0 (x9 s i (.hp (h.upd b o'))) (w.putObj b o'):=by
 have hlt:b < w.heap.size:=hok.lt hi hb;refine hok.upd hi _ rfl rfl rfl sQ (k8 _) (λk _ hk=>?_) ?_ λk hk=>?_
 ·exact World.putObj_heap_other (λe=>by subst e;rw[show (Ch.hp h).h k=h k from rfl,hb] at hk;cases hk)
 ·intro k x hk;simp only[Ch.h,Hp.upd] at hk;split at hk
  ·rename_i e;subst e;cases hk;exact World.putObj_heap_same hlt
  ·rename_i e;rw[World.putObj_heap_other e];exact hok.mem i _ hi k x hk
 ·left
  simp only[Ch.h,Hp.upd] at hk ⊢;split at hk
  ·rename_i e;subst e;rw[hb];simp
  ·exact hk
def Cw (P : Program) (gf : Nat) (lb : List Value) {α : Type} (encs : α -> List Value) (xs : List α) (Rd : Hp -> Prop) (C : Prop) : Prop :=
  ∀ (w : World) (h : Hp) (l : Nat) (J Jx : List α -> Hp -> Prop), h.In w -> Rd ((Hp.whole w).minus h) -> J [] h ->
   (∀ (w1 : World) (h1 : Hp) (pre : List α) (x : α) (post : List α), xs = pre ++ x :: post -> J pre h1 -> h1.In w1 -> ((Hp.whole w).minus h).In w1 -> ((Hp.whole w).minus h).dj h1 ->
      YieldAt Fence.wide 0 P l (encs x).toArray w1 (O6 w1 h1 λv h2 cs => cs = [] /\ ((v = .bool true /\ J (pre ++ [x]) h2) \/ (v = .bool false /\ Jx (pre ++ [x]) h2)))) ->
   (¬ C -> ∀ h, ¬ J xs h) ->
   j6 P gf (.func (.yield l) #[] #[] :: lb).toArray w (O6 w h λ_ h' cs => cs = [] /\ (J xs h' \/ ∃ pre, pre <+: xs /\ Jx pre h'))
theorem JN {P:Program} {s:List Ch} {l:Nat} {args:List Value} {q:TV->List Ch->Prop} {c h1:Hp} (h0:m8 s 0=some (.hp c)) (hi:m8 s 1=some (.hp h1)) {R:Value->Hp->Prop}
  (hc :∀w,h1.In w->c.In w->c.dj h1->YieldAt Fence.wide 0 P l args.toArray w (O6 w h1 λv h2 cs=>cs = []/\R v h2))
  (k :∀v h2,R v h2->q (.v v) (x9 s 1 (.hp h2))):Cu P s l args q:=by
 refine⟨λw0 w hok=>?_⟩;obtain⟨fn,tmps,assign,body,h3,h4⟩:=hc w (hok.mem 1 _ hi) (hok.mem 0 _ h0) (hok.disj 0 1 _ _ om h0 hi);refine⟨fn,tmps,assign,body,h3,h4.mono λe w' he=>?_⟩;obtain⟨v,h2,cs,rfl,h5,rfl,h6⟩:=he;have:=hok.callM hi h5;rw[p8] at this;exact⟨v,_,rfl,this,J6.set hi (λb cs T e=>by cases e),k v h2 h6⟩
def LH (D l:Nat) (r:Loop):Hp:=λk=>if k=D then some (.deferred (some [])) else if k=l then some (.loop r) else none
theorem MZ {D l:Nat} (h:D≠l) (r:Loop):LH D l r l=some (.loop r):=by unfold LH;rw[if_neg (Ne.symm h),if_pos rfl]
theorem MY {D l:Nat} (h:D≠l) (r r':Loop):(LH D l r).upd l (.loop r')=LH D l r':=by
 funext k
 unfold Hp.upd LH;by_cases hl:k=l
 ·subst hl;rw[if_pos rfl,if_neg (Ne.symm h),if_pos rfl]
 ·rw[if_neg hl,if_neg hl,if_neg hl]
theorem Ls (D l:Nat) (r:Loop):(Hp.one D (.deferred (some []))).le (LH D l r):=λb o hb=>by
 unfold Hp.one at hb;split at hb
 ·rename_i e;subst e;cases hb;unfold LH;rw[if_pos rfl]
 ·cases hb
def JM:List Nat->List Value->Tm->Tm
 | p::ps,v::vs,t=>JM ps vs ((p,.v v)::t)
 | _,_,t=>t
theorem NB {n:Nat} {s:List Ch} :∀(ps:List Nat) (vs:List Value) (t:Tm) (a:Act),Fr n t s a->(∀p∈ps,p < n)->Fr n (JM ps vs t) s { tmps:=(ps.zip vs).foldl (λt (p,v)=>t.setIfInBounds p v) a.tmps,defers:=[] }
 | [],vs,t,a,h,_=>by
  have:=h.2.1;cases a;simp only at this;subst this;simpa [JM] using h
 | p::ps,[],t,a,h,_=>by
  have:=h.2.1;cases a;simp only at this;subst this;simpa [JM] using h
 | p::ps,v::vs,t,a,h,hp=>by
  have:=NB ps vs ((p,.v v)::t) (a.put (some p) v) (h.put rfl (hp p sQ)) λq hq=>hp q (by simp[hq]);simpa [JM,Act.put] using this
def OH:Ex->Code
 | .normal=>.skip
 | .exit i=>.exit i
 | .ret=>.ret
theorem Gk {c c' hl hl':Hp} {s:List Ch} (tv:TV):tv.val (.hp c::.hp hl::s)=tv.val (.hp c'::.hp hl'::s):=by
 cases tv with
 | v x=>rfl
 | bx i off=>match i with | 0=>rfl | 1=>rfl | i+2=>rfl
 | bs i off=>match i with | 0=>rfl | 1=>rfl | i+2=>rfl
theorem Fr.hl {n:Nat} {t:Tm} {c c' hl hl':Hp} {s:List Ch} {a:Act} (h:Fr n t (.hp c::.hp hl::s) a):Fr n t (.hp c'::.hp hl'::s) a:=
 ⟨h.1,h.2.1,λi tv hi=>let ⟨v,h1,h2⟩:=h.2.2 i tv hi;⟨v,by rw[Gk (c':=c) (hl':=hl)];exact h1,h2⟩⟩
theorem FQ {s s':List Ch} :∀{t:Tm},want s t=want s' t->∀{i:Nat} {tv:TV},dS t i=some tv->tv.val s=tv.val s'
 | [],_,i,tv,h=>by cases h
 | (j,x)::r,h,i,tv,hi=>by
  simp only[want,FK] at h;rw[jK] at hi;split at hi
  ·cases hi;exact h.1
  ·exact FQ h.2 hi
theorem Fr.want {n:Nat} {t:Tm} {s s':List Ch} {a:Act} (h:Fr n t s a) (hw:want s t=want s' t):Fr n t s' a:=
 ⟨h.1,h.2.1,λi tv hi=>let ⟨v,h1,h2⟩:=h.2.2 i tv hi;⟨v,by rw[<-FQ hw hi];exact h1,h2⟩⟩
def Jp {G α:Type} (mu:G->List Ch) (R:G->List α->Prop) (Rj:Ex->G->List α->Prop) (c hl:Hp) (xs:List α) (e:Ex) (s:List Ch):Prop:=match e with
 | .normal=>∃g',R g' xs/\∀w0 w,Ok w0 s w->Ok w0 (.hp c::.hp hl::mu g') w
 | e=>∃g',Rj e g' xs/\∀w0 w,Ok w0 s w->Ok w0 (.hp c::.hp hl::mu g') w
theorem ZK {X:R5} (hX:X.Good) {g:Operand} {ps:List Nat} {assign body:Code} {Q:QD} {t:Tm} {s:List Ch} {ds:List Nat} {gf:Nat} {lb:List Value}
  (hg:YA t g=some (.v (.func (.func gf) ⟨[]⟩ ⟨lb⟩))) {α:Type} {encs:α->List Value} {xs:List α} {Rd:Hp->Prop} {C:Prop} (it:Cw X.P gf lb encs xs Rd C)
  (hps :∀x,(encs x).length=ps.length) (hpn :∀p∈ps,p < X.n) (hRdm :∀h k:Hp,Rd h->h.le k->Rd k)
  (c0:Hp) (t':Tm) (G:Type) (mu:G->List Ch) (R:G->List α->Prop) (Rj:Ex->G->List α->Prop) (Rb:Hp->Prop)
  (hRd:Rd c0) (hRb:Rb c0) (hRbm :∀h k:Hp,Rb h->h.le k->Rb k) (g0:G) (h0:R g0 [])
  (hC : ¬ C->∀g,¬ R g xs)
  (hent :∀w0 w,Ok w0 s w->Ok w0 (.hp c0::mu g0) w)
  (ht:VM s t t'=want (.hp Hp.emp::.hp Hp.emp::mu g0) t') (hts:nU (want (.hp Hp.emp::.hp Hp.emp::mu g0) t')=true)
  (htg :∀g,want (.hp Hp.emp::.hp Hp.emp::mu g) t'=want (.hp Hp.emp::.hp Hp.emp::mu g0) t')
  (round :∀g pre x post c1 hl,xs=pre++x::post->R g pre->Rb c1->
   SH X true assign (λe t1 s1 ds1=>match e with
    | .normal=>∃t2 s2,v6 t1 s1 t2 (.hp c1::.hp hl::s2)/\∀hl',SH X true body (λe _ s3 _=>Jp mu R Rj c1 hl' (pre++[x]) e s3) t2 (.hp c1::.hp hl'::s2) ds1
    | _=>False) (JM ps (encs x) t') (.hp c1::.hp hl::mu g) [])
  (done :∀g D,R g xs->Q .normal t' (.hp c0::.hp (Hp.one D (.deferred (some [])))::mu g) (D::ds))
  (stop :∀e g D pre,pre <+: xs->Rj e g pre->Q e t' (.hp c0::.hp (Hp.one D (.deferred (some [])))::mu g) (D::ds)) :
  uR X g ps.toArray assign body Q t s ds:=by
 refine⟨λw0 w a hf hok=>?_⟩;have hge:(wd a (eG ds)).eval g=.func (.func gf) ⟨[]⟩ ⟨lb⟩:=by
  rw[qM];obtain⟨tv,h1,h2⟩:=hf.w.tvk (x:=g) (q:=λtv=>tv=.v (.func (.func gf) ⟨[]⟩ ⟨lb⟩)) (by unfold tvk;rw[hg];exact rfl);subst h2;simp only[TV.val,m9] at h1;exact h1.symm
 have hft :∀c hl g,Fr X.n t' (.hp c::.hp hl::mu g) a:=λc hl g=>by
  have e0:Fr X.n t' (.hp Hp.emp::.hp Hp.emp::mu g0) a:=⟨hf.1,hf.2.1,λi tv' hi=>by
   obtain⟨tv,v,h1,h2,h3⟩:=tZ ht hts i tv' hi;obtain⟨v',h4,h5⟩:=hf.2.2 i tv h1;rw[h2] at h4;cases h4;exact⟨v,h3,h5⟩⟩
  exact (e0.want (htg g).symm).hl
 have hok0:=hent w0 w hok;refine wpIn_rangeFunc ?_;intro fn hfn;obtain⟨D,hD⟩ :∃D,D=w.heap.size:=⟨_,rfl⟩
 obtain⟨l,hl⟩ :∃l,l=D+1:=⟨_,rfl⟩
 have hDl:D≠l:=om
 obtain⟨rec,hrec⟩ :∃rec:LoopState->Option Code->Loop,rec=λst pe=>{ state:=st,pending:=pe,fn,tmps:=a.tmps,params:=ps.toArray,assign,body,defers:=D }:=⟨_,rfl⟩
 obtain⟨W1,hW1⟩ :∃W1,(w.alloc (.deferred (some []))).alloc (.loop (rec .ready none))=W1:=⟨_,rfl⟩
 have hok1:Ok w0 (.hp c0::.hp (LH D l (rec .ready none))::mu g0) W1:=by
  have h1:=(hok0.alloc (.hp (Hp.one w.heap.size (.deferred (some [])))) _ rfl).alloc (.hp (Hp.one (w.alloc (.deferred (some []))).heap.size (.loop (rec .ready none)))) _ rfl;rw[hW1,World.size_alloc,<-hD,<-hl] at h1;refine⟨h1.os,h1.tape,h1.output,h1.size,h1.drawn,λi d e=>?_,λi j d d' hij e1 e2=>?_⟩;all_goals
   have hlast :∀{b o},LH D l (rec .ready none) b=some o->(b=D/\o=.deferred (some []))\/(b=l/\o=.loop (rec .ready none)):=λ{b o} hb=>by
    unfold LH at hb;split at hb
    ·exact .inl ⟨by assumption,by cases hb;rfl⟩
    ·split at hb
     ·exact .inr ⟨by assumption,by cases hb;rfl⟩
     ·cases hb
   have n1:m8 ((.hp c0::mu g0)++[.hp (Hp.one D (.deferred (some [])))]++[.hp (Hp.one l (.loop (rec .ready none)))]) ((mu g0).length+1)=some (.hp (Hp.one D (.deferred (some [])))):=by
    rw[J7];simp
   have n2:m8 ((.hp c0::mu g0)++[.hp (Hp.one D (.deferred (some [])))]++[.hp (Hp.one l (.loop (rec .ready none)))]) ((mu g0).length+2)=some (.hp (Hp.one l (.loop (rec .ready none)))):=by
    rw[J7];simp
   have rQ :∀{i d},m8 (.hp c0::mu g0) i=some d->i < (mu g0).length+1/\m8 ((.hp c0::mu g0)++[.hp (Hp.one D (.deferred (some [])))]++[.hp (Hp.one l (.loop (rec .ready none)))]) i=some d:=λ{i d} e=>by
    rw[J7] at e;have hlt:=(q9.1 e).1;simp only[d7] at hlt;refine⟨hlt,?_⟩;rw[J7,o6,Y0 (by simpa using hlt)];exact e
   have djn :∀{i d},m8 (.hp c0::mu g0) i=some d->d.h.dj (LH D l (rec .ready none)):=λ{i d} e b=>by
    obtain⟨hlt,e'⟩:=rQ e;cases hb:LH D l (rec .ready none) b with
    | none=>exact .inr rfl
    | some o=>
     left
     rcases hlast hb with ⟨rfl,rfl⟩ | ⟨rfl,rfl⟩
     ·exact (h1.disj i _ d _ om e' n1 b).resolve_right (by simp[Ch.h,Hp.one])
     ·exact (h1.disj i _ d _ om e' n2 b).resolve_right (by simp[Ch.h,Hp.one])
  ·match i,e with
   | 0,e=>exact h1.mem 0 d (rQ (i:=0) e).2
   | 1,e=>
    simp only[m8,m9] at e;subst e;intro b o hb;rcases hlast hb with ⟨rfl,rfl⟩ | ⟨rfl,rfl⟩
    ·exact h1.mem _ _ n1 _ _ (Hp.one_self _ _)
    ·exact h1.mem _ _ n2 _ _ (Hp.one_self _ _)
   | i+2,e=>exact h1.mem (i+1) d (rQ (i:=i+1) e).2
  ·match i,j,e1,e2 with
   | 0,0,_,_=>exact absurd rfl hij
   | 1,1,_,_=>exact absurd rfl hij
   | 0,1,e1,e2=>simp only[m8,m9] at e2;subst e2;exact djn (i:=0) e1
   | 1,0,e1,e2=>simp only[m8,m9] at e1;subst e1;exact (djn (i:=0) e2).symm
   | 0,j+2,e1,e2=>exact hok0.disj 0 (j+1) d d' om e1 e2
   | i+2,0,e1,e2=>exact hok0.disj (i+1) 0 d d' om e1 e2
   | 1,j+2,e1,e2=>simp only[m8,m9] at e1;subst e1;exact (djn (i:=j+1) e2).symm
   | i+2,1,e1,e2=>simp only[m8,m9] at e2;subst e2;exact djn (i:=i+1) e1
   | i+2,j+2,e1,e2=>exact hok0.disj (i+1) (j+1) d d' om e1 e2
 obtain⟨H,hH⟩ :∃H:G->LoopState->Option Code->List Ch,H=λg st pe=>.hp (LH D l (rec st pe))::mu g:=⟨_,rfl⟩
 have hok2:=hok1.joinL;have hin:(joinL (H g0 .ready none)).In W1:=by rw[hH];exact hok2.mem 1 _ rfl
 have hc0:c0.le ((Hp.whole W1).minus (joinL (H g0 .ready none))):=by
  rw[hH];exact Hp.le_minus (hok2.mem 0 _ rfl).whole (hok2.disj 0 1 _ _ om rfl rfl)
 obtain⟨J,hJ⟩ :∃J:List α->Hp->Prop,J=λpre h=>∃g,R g pre/\h=joinL (H g .ready none)/\PC (H g .ready none):=⟨_,rfl⟩
 obtain⟨Jx,hJx⟩ :∃J:List α->Hp->Prop,J=λpre h=>∃g e,Rj e g pre/\e≠.normal/\h=joinL (H g .done (some (OH e)))/\PC (H g .done (some (OH e))):=⟨_,rfl⟩
 have hcall:=it W1 (joinL (H g0 .ready none)) l J Jx hin (hRdm _ _ hRd hc0) (by rw[hJ];exact⟨g0,h0,rfl,by rw[hH];exact hok1.djL⟩) (by
  intro w1 h1 pre x post hx hJ1 hi1 hro hrd;rw[hJ] at hJ1;obtain⟨g,hR,rfl,hdj⟩:=hJ1;obtain⟨c1,hc1⟩ :∃c1,c1=(Hp.whole w1).minus (joinL (H g .ready none)):=⟨_,rfl⟩
  have hokr:Ok w1 (.hp c1::H g .ready none) w1:=by rw[hc1];exact (Ok.start2 w1 hi1).splitL hdj
  have hb1:Rb c1:=hRbm _ _ hRb (hc0.trans (by rw[hc1];exact Hp.le_minus hro.whole hrd));have hlr:w1.heap[l]?=some (.loop (rec .ready none)):=by
   have:=hokr.mem 1 (.hp (LH D l (rec .ready none))) (by rw[hH];rfl);exact this _ _ (MZ hDl _)
  have hy:=run_yield (P:=X.P) (args:=(encs x).toArray) hlr (by rw[hrec];simp[hps x]);refine⟨fn,_,assign,body,by rw[hrec] at hy;exact hy,roundIn_of_wpIn (F:=Fence.wide) trivial ?_⟩;rw[hH] at hokr;have hfr:Fr X.n (JM ps (encs x) t') (.hp c1::.hp (LH D l (rec .ready none))::mu g) { tmps:=(ps.zip (encs x)).foldl (λt (p,v)=>t.setIfInBounds p v) a.tmps,defers:=[] }:=NB ps (encs x) t' a (hft _ _ _) hpn;have hwp:=uP (r:=some l) (rd:=true) hX nofun assign _ _ _ _ _ _ (round g pre x post c1 (LH D l (rec .ready none)) hx hR hb1) hfr hokr;have ea:(wd { tmps:=(ps.zip (encs x)).foldl (λt (p,v)=>t.setIfInBounds p v) a.tmps,defers:=[] } (eG [])) = { tmps:=(ps.toArray.zip (encs x).toArray).foldl (λt (p,v)=>t.setIfInBounds p v) a.tmps,defers:=[] }:=by
   simp[wd,eG]
  rw[ea] at hwp;refine wpIn_mono (F:=F0 (some l)) hwp λe a1 w2 hq=>?_;cases e with
  | normal=>
   obtain⟨t1,s1,ds1,a2,rfl,hf1,hok3,t2,s2,hE,hbody⟩:=hq;obtain⟨hok4,hf4⟩:=hE _ _ _ _ hok3 hf1;have hl2:w2.heap[l]?=some (.loop (rec .ready none)):=hok4.mem 1 _ rfl _ _ (MZ hDl _);refine⟨_,run_beginRound hl2 (by rw[hrec]),?_⟩;have hok5:=hok4.putObj (i:=1) rfl (MZ hDl _) (.loop { rec .ready none with state:=.busy });rw[MY hDl] at hok5;have hwb:=uP (r:=some l) (rd:=true) hX nofun body _ _ _ _ _ _ (hbody (LH D l { rec .ready none with state:=.busy })) hf4.hl hok5;have fin :∀(jump:Option Code) (g':G) (w3:World),Ok w1 (.hp c1::.hp (LH D l { rec .ready none with state:=.busy })::mu g') w3->
     ∃w4,(Instr.endRound l jump).run X.P w3=.ok (.bool jump.isNone) w4/\Ok w1 (.hp c1::H g' (if jump.isNone then .ready else .done) jump) w4:=λjump g' w3 hok6=>by
    have hl3:w3.heap[l]?=some (.loop { rec .ready none with state:=.busy }):=hok6.mem 1 _ rfl _ _ (MZ hDl _);refine⟨_,run_endRound jump hl3,?_⟩;have hok7:=hok6.putObj (i:=1) rfl (MZ hDl _) (.loop { rec .ready none with state:=if jump.isNone then .ready else .done,pending:=jump });rw[MY hDl] at hok7;rw[hH];have er:{ rec .ready none with state:=if jump.isNone then .ready else .done,pending:=jump }=rec (if jump.isNone then .ready else .done) jump:=by rw[hrec]
    dsimp only;rw[<-er];exact hok7
   refine wpIn_mono (F:=F0 (some l)) hwb λe a3 w3 hq3=>?_;cases e with
   | normal=>
    obtain⟨t3,s3,ds3,a4,rfl,hf5,hok6,g',hR',hE'⟩:=hq3;obtain⟨w4,hr4,hok7⟩:=fin none g' w3 (hE' _ _ hok6);refine⟨_,w4,hr4,.bool true,joinL (H g' .ready none),[],rfl,?_,rfl,.inl ⟨rfl,?_⟩⟩
    ·rw[<-hc1];exact hok7.joinL
    ·rw[hJ];exact⟨g',hR',rfl,hok7.djL⟩
   | exit i=>
    obtain⟨t3,s3,ds3,a4,rfl,hf5,hok6,g',hR',hE'⟩:=hq3;obtain⟨w4,hr4,hok7⟩:=fin (some (.exit i)) g' w3 (hE' _ _ hok6);refine⟨_,w4,hr4,.bool false,joinL (H g' .done (some (.exit i))),[],rfl,?_,rfl,.inr ⟨rfl,?_⟩⟩
    ·rw[<-hc1];exact hok7.joinL
    ·rw[hJx];exact⟨g',.exit i,hR',nofun,rfl,hok7.djL⟩
   | ret=>
    obtain⟨t3,s3,ds3,a4,rfl,hf5,hok6,g',hR',hE'⟩:=hq3;obtain⟨w4,hr4,hok7⟩:=fin (some .ret) g' w3 (hE' _ _ hok6);refine⟨_,w4,hr4,.bool false,joinL (H g' .done (some .ret)),[],rfl,?_,rfl,.inr ⟨rfl,?_⟩⟩
    ·rw[<-hc1];exact hok7.joinL
    ·rw[hJx];exact⟨g',.ret,hR',nofun,rfl,hok7.djL⟩
   | goto i=>exact hq3.elim
   | panic c=>exact hq3.elim
   | outgrown=>exact hq3.elim
  | exit i=>obtain⟨_,_,_,_,_,_,_,h⟩:=hq;exact h.elim
  | ret=>obtain⟨_,_,_,_,_,_,_,h⟩:=hq;exact h.elim
  | goto i=>exact hq.elim
  | panic c=>exact hq.elim
  | outgrown=>exact hq.elim) (λhc h hj=>by rw[hJ] at hj;obtain⟨g,hR,_⟩:=hj;exact hC hc g hR)
 refine⟨l,[{ target:=.collected D,args:=#[] }],W1,{ target:=.fn (.func gf) ⟨lb⟩,args:=#[.func (.yield l) #[] #[]] },W1,gf,(.func (.yield l) #[] #[]::lb).toArray,W1,?_,?_,λ_ _=>trivial,?_,nofun,?_⟩
 ·have:=run_enterLoop_outer (P:=X.P) (w:=w) fn a.tmps ps.toArray assign body;rw[<-hD,<-hl] at this;rw[<-hW1,hrec];exact this
 ·simp only[resolve,hge];simp[go_sem]
 ·have:=hcall.1 W1;simp only[invoke];simpa using this
 ·refine callsIn_wide.2 (hcall.2.mono λe w3 he=>?_);obtain⟨v,h',cs,rfl,hok3,rfl,hJ3⟩:=he;have hok4:Ok w0 [.hp c0,.hp h'] w3:=by
   have:=hok2.callM (i:=1) (h:=joinL (H g0 .ready none)) (by rw[hH];rfl) hok3;simpa [x9] using this
  have fin :∀(g:G) (st:LoopState) (pe:Option Code),st≠.busy->h'=joinL (H g st pe)->PC (H g st pe)->
    ∃w4,(Instr.endLoop l).run X.P w3=.ok pe w4/\Ok w0 (.hp c0::.hp (Hp.one D (.deferred (some [])))::mu g) w4:=λg st pe hst hh hdj=>by
   subst hh;have hok5:=hok4.splitL hdj;rw[hH] at hok5;have hl3:w3.heap[l]?=some (.loop (rec st pe)):=hok5.mem 1 _ rfl _ _ (MZ hDl _);have hrun:=run_endLoop (P:=X.P) hl3 (by rw[hrec];exact hst);refine⟨_,hrun.trans (congrArg (λx=>Result.ok x _) (show (rec st pe).pending=pe by rw[hrec])),?_⟩;have hok6:=hok5.putObj (i:=1) rfl (MZ hDl _) (.loop { rec st pe with state:=.exhausted });rw[MY hDl] at hok6;have hswap :∀{c d:Ch} {m:List Ch} {w:World},Ok w0 (c::d::m) w->Ok w0 (d::c::m) w:=λ{c d m w} h=>
    ⟨h.os,h.tape,h.output,h.size,h.drawn,λi x e=>match i,e with
     | 0,e=>h.mem 1 x e
     | 1,e=>h.mem 0 x e
     | i+2,e=>h.mem (i+2) x e,λi j x y hij e1 e2=>match i,j,e1,e2 with
     | 0,0,_,_=>absurd rfl hij
     | 1,1,_,_=>absurd rfl hij
     | 0,1,e1,e2=>h.disj 1 0 x y om e1 e2
     | 1,0,e1,e2=>h.disj 0 1 x y om e1 e2
     | 0,j+2,e1,e2=>h.disj 1 (j+2) x y om e1 e2
     | 1,j+2,e1,e2=>h.disj 0 (j+2) x y om e1 e2
     | i+2,0,e1,e2=>h.disj (i+2) 1 x y om e1 e2
     | i+2,1,e1,e2=>h.disj (i+2) 0 x y om e1 e2
     | i+2,j+2,e1,e2=>h.disj (i+2) (j+2) x y hij e1 e2⟩
   exact hswap ((hswap hok6).less (Ls _ _ _))
  have hds :∀b:Act,({ wd b (eG ds) with defers:=[{ target:=.collected D,args:=#[] }]++(wd b (eG ds)).defers }:Act)=wd b (eG (D::ds)):=λb=>rfl;rcases hJ3 with hJ3 | ⟨pre,hpre,hJ3⟩
  ·rw[hJ] at hJ3;obtain⟨g,hR,hh,hdj⟩:=hJ3;obtain⟨w4,hr4,hok5⟩:=fin g .ready none nofun hh hdj;refine⟨none,w4,hr4,?_⟩;rw[hds];exact⟨t',_,D::ds,a,rfl,hft _ _ _,hok5,done g D hR⟩
  ·rw[hJx] at hJ3;obtain⟨g,e,hR,hne,hh,hdj⟩:=hJ3;obtain⟨w4,hr4,hok5⟩:=fin g .done (some (OH e)) nofun hh hdj;refine⟨some (OH e),w4,hr4,?_⟩;rw[hds];have hst:=stop e g D pre hpre hR;cases e with
   | normal=>exact absurd rfl hne
   | exit i=>exact wpIn_exit ⟨t',_,D::ds,a,rfl,hft _ _ _,hok5,hst⟩
   | ret=>exact wpIn_ret ⟨t',_,D::ds,a,rfl,hft _ _ _,hok5,hst⟩
theorem uR.sat {X:R5} {g:Operand} {ps:Array Nat} {assign body:Code} {Q:QD} {t:Tm} {s:List Ch} {ds:List Nat} (h:FF s->uR X g ps assign body Q t s ds):uR X g ps assign body Q t s ds:=
 ⟨λw0 w a hf hok=>match h ⟨w0,w,hok⟩ with | ⟨h⟩=>h w0 w a hf hok⟩
theorem FF.djL {s l:List Ch} (h:FF s) (is:List Nat) (hp:Dw.pick s is=some l) (hn:pD is=true):PC l:=by
 obtain⟨w0,w,hok⟩:=h;have:=hok.pick is hp hn;exact λi j c d hij h1 h2=>this.disj i j c d hij h1 h2
theorem Ok.joinP {w0 w:World} (l1 l2:List Ch) (h:Ok w0 (l1++l2) w):Ok w0 (.hp (Dw.joinL l1)::l2) w:=by
 have g1 :∀{i d},m8 l1 i=some d->m8 (l1++l2) i=some d/\i < l1.length:=λ{i d} e=>by
  rw[J7] at e;have hlt:=(q9.1 e).1;exact⟨by rw[H3,if_pos hlt,J7];exact e,hlt⟩
 have g2 :∀{i d},m8 l2 i=some d->m8 (l1++l2) (l1.length+i)=some d:=λ{i d} e=>by
  rw[H3,if_neg om,show l1.length+i - l1.length=i by omega];exact e
 have dj :∀{i d},m8 l2 i=some d->(Dw.joinL l1).dj d.h:=λ{i d} e b=>by
  cases hj:Dw.joinL l1 b with
  | none=>exact .inl rfl
  | some o=>
   right
   obtain⟨k,c,h1,h2⟩:=cJ hj;obtain⟨h3,h4⟩:=g1 h1;exact (h.disj k (l1.length+i) c d om h3 (g2 e) b).resolve_left (by rw[h2];simp)
 refine⟨h.os,h.tape,h.output,h.size,h.drawn,λi d e=>?_,λi j d d' hij e1 e2=>?_⟩
 ·match i,e with
  | 0,e=>
   simp only[m8,m9] at e;subst e;intro b o hb;obtain⟨k,c,h1,h2⟩:=cJ hb;exact h.mem k c (g1 h1).1 b o h2
  | i+1,e=>exact h.mem _ d (g2 e)
 ·match i,j,e1,e2 with
  | 0,0,_,_=>exact absurd rfl hij
  | 0,j+1,e1,e2=>simp only[m8,m9] at e1;subst e1;exact dj e2
  | i+1,0,e1,e2=>simp only[m8,m9] at e2;subst e2;exact (dj e1).symm
  | i+1,j+1,e1,e2=>exact h.disj _ _ d d' om (g2 e1) (g2 e2)
def Al (X:R5) (t:Tm) (s:List Ch) (ds:List Nat) (rs:List ResultVar) (k:Value->List Ch->Prop):Prop:=match ds with
 | []=>oY X s t rs λv=>k v s
 | D::r=>match r with
  | []=>∃j,m8 s j=some (.hp (Hp.one D (.deferred (some []))))/\oY X (x9 s j (.hp (Hp.one D (.deferred none)))) t rs λv=>k v (x9 s j (.hp (Hp.one D (.deferred none))))
  | _=>False
theorem NY (D:Nat) (o o':Obj):(Hp.one D o).upd D o'=Hp.one D o':=by
 funext k
 unfold Hp.upd Hp.one;split <;> rfl
theorem WO {X:R5} (hX:X.Good) {f:Nat} {fn:Func} {c:Code} {args:List Value} {w:World} {s0:List Ch} (h0:Ok w s0 w) {R:Ending->World->Prop} (rs:List ResultVar) {k:Value->List Ch->Prop} (hk :∀v s w',k v s->Ok w s w'->R (.returned v) w')
  (hf:X.P.funcs[f]?=some fn) (hb:fn.body=some c) (hn:(fn.name == "runtime.NumGoroutine")=false) (hr:fn.results=rs.toArray) (hm:fn.ntmps=X.n) (hl:R0 args.length X.n=true)
  (h:SH X false c (λe t s ds=>match e with
   | .exit _=>False
   | _=>Al X t s ds rs k) (pG 0 args) s0 []) :
  j6 X.P f args.toArray w R:=by
 have hl:=E0 hl;refine⟨λw=>?_,callsIn_wide.1 (callsIn_of_wp_marks (n:=0) hf hb trivial ?_)⟩
 ·have hn' : ¬ fn.name = "runtime.NumGoroutine":=by simpa using hn
  simp[callFunc,hf,hn',hb]
 ·have hfr:Fr X.n (pG 0 args) s0 { tmps:=args.toArray++Array.replicate (fn.ntmps - args.toArray.size) undef,defers:=[] }:=by
   refine⟨by simp[hm];omega,rfl,λi tv hi=>?_⟩;obtain⟨v,rfl,_,h2⟩:=fA args 0 i tv hi;refine⟨v,rfl,?_⟩;have:i < args.length:=(q9.1 (by simpa using h2)).1;rw[Array.getElem?_append_left (by simpa using this)];simpa using h2
  refine wpIn_mono (uP (r:=none) hX (λ_=>rfl) c _ _ _ _ _ w h hfr h0) λe a w' hq=>?_;have fin :∀t s ds a0,Fr X.n t s a0->Ok w s w'->Al X t s ds rs k->LeavesInM Fence.wide 0 X.P fn (wd a0 (eG ds)).tmps R (wd a0 (eG ds)).defers .returning w':=by
   intro t s ds a0 hf' hok hkk;match ds,hkk with
   | [],hkk=>
    obtain⟨v,h1,h2⟩:=nE hX hf'.w hok.mem hkk hr;exact⟨v,h1,hk v s w' h2 hok⟩
   | [D],hkk=>
    obtain⟨j,hj,hkk⟩:=hkk;have hD:w'.heap[D]?=some (.deferred (some [])):=hok.mem j _ hj _ _ (Hp.one_self _ _);have hok2:=hok.putObj hj (Hp.one_self D _) (.deferred none);rw[NY] at hok2;have hf2:=hf'.keep (J6.set hj (c':=.hp (Hp.one D (.deferred none))) (λb cs T e=>by cases e));obtain⟨v,h1,h2⟩:=nE hX hf2.w hok2.mem hkk hr;exact⟨nofun,.inl ⟨D,_,rfl,run_takeDeferred hD,v,h1,hk v _ _ h2 hok2⟩⟩
  cases e with
  | normal=>obtain⟨t,s,ds,a0,rfl,h1,h2,h3⟩:=hq;exact fin t s ds a0 h1 h2 h3
  | ret=>obtain⟨t,s,ds,a0,rfl,h1,h2,h3⟩:=hq;exact fin t s ds a0 h1 h2 h3
  | exit i=>obtain⟨t,s,ds,a0,rfl,h1,h2,h3⟩:=hq;exact h3.elim
  | goto l=>exact hq.elim
  | panic c=>exact hq.elim
  | outgrown=>exact hq.elim
theorem WN {X:R5} (hX:X.Good) {f:Nat} {fn:Func} {c:Code} {args:List Value} {w:World} {R:Value->List Ch->Prop} (rs:List ResultVar)
  (hf:X.P.funcs[f]?=some fn) (hb:fn.body=some c) (hn:(fn.name == "runtime.NumGoroutine")=false) (hr:fn.results=rs.toArray) (hm:fn.ntmps=X.n) (hl:R0 args.length X.n=true)
  (h:SH X false c (λe t s ds=>match e with
   | .exit _=>False
   | _=>Al X t s ds rs λv s=>∃cs,R v cs/\∀w',Ok w s w'->Ok w (.hp (Hp.whole w)::cs) w') (pG 0 args) [.hp (Hp.whole w)] []) :
  j6 X.P f args.toArray w (fD w R):=
 WO hX (Ok.start w) rs (λv _ w' ⟨cs,h1,h2⟩ hok=>⟨v,cs,rfl,h2 w' hok,h1⟩) hf hb hn hr hm hl h
theorem At {X:R5} (hX:X.Good) {f:Nat} {fn:Func} {c:Code} {args:List Value} {w:World} {h:Hp} (hin:h.In w) {R:Value->Hp->List Ch->Prop} (rs:List ResultVar)
  (hf:X.P.funcs[f]?=some fn) (hb:fn.body=some c) (hn:(fn.name == "runtime.NumGoroutine")=false) (hr:fn.results=rs.toArray) (hm:fn.ntmps=X.n) (hl:R0 args.length X.n=true)
  (hwp:SH X false c (λe t s ds=>match e with
   | .exit _=>False
   | _=>Al X t s ds rs λv s=>∃h' cs,R v h' cs/\∀w',Ok w s w'->Ok w (.hp ((Hp.whole w).minus h)::.hp h'::cs) w') (pG 0 args) [.hp ((Hp.whole w).minus h),.hp h] []) :
  j6 X.P f args.toArray w (O6 w h R):=
 WO hX (Ok.start2 w hin) rs (λv _ w' ⟨h',cs,h1,h2⟩ hok=>⟨v,h',cs,rfl,h2 w' hok,h1⟩) hf hb hn hr hm hl hwp
end Go.Dw
namespace Go.Dw
open Go Go.RowKit
theorem oX {P:Program} {w:World} {b:Nat} {es:Array MapEntry} {clock:Nat} (h:w.heap[b]?=some (.map es clock)):(getObj b).run P w=.ok (.map es clock) w:=by simp[getObj,Sem.run,h]
theorem KD {P:Program} {w:World} {b:Nat} {es:Array MapEntry} {clock:Nat} (o:Obj) (h:w.heap[b]?=some (.map es clock)):(setObj b o).run P w=.ok () (w.putObj b o):=by simp[setObj,Sem.run,h,World.putObj]
end Go.Dw
namespace Go.Dw
open Go Go.RowKit
theorem YZ {x y:ByteArray} (h:x.toList=y.toList):x=y:=by
 rw[ByteArray.toList_eq,ByteArray.toList_eq] at h;obtain⟨⟨x⟩⟩:=x;obtain⟨⟨y⟩⟩:=y;simp only at h;rw[h]
theorem yA (x y:ByteArray):(x.toList==y.toList)=decide (x=y):=by
 rw[L6,beq_iff_eq,decide_eq_true_eq];exact⟨YZ,λh=>by rw[h]⟩
section
variable {P:Program} {s:List Ch} {xo yo:Operand} {ty:Nat} {x y:ByteArray} {q:TV->Prop}
theorem Js (h:q (.v (.bool (decide (x=y))))):B7 P s (do eqGuard .eql ty xo yo (.string x) (.string y);binOp .eql ty (.string x) (.string y)) q:=by
 refine⟨_,λw _=>?_,h⟩;have hg:(eqGuard .eql ty xo yo (.string x) (.string y)).run P w=.ok () w:=by simp[eqGuard]
 rw[Sem.run_bind,hg,Result.andThen_ok,binOp_string_eql,yA];rfl
theorem Jq (h:q (.v (.bool (decide (x≠y))))):B7 P s (do eqGuard .neq ty xo yo (.string x) (.string y);binOp .neq ty (.string x) (.string y)) q:=by
 refine⟨_,λw _=>?_,h⟩;have hg:(eqGuard .neq ty xo yo (.string x) (.string y)).run P w=.ok () w:=by simp[eqGuard]
 rw[Sem.run_bind,hg,Result.andThen_ok,binOp_string_neq,yA,<-decide_not];rfl
theorem IA {x:ByteArray} {i:Nat} (h:i < x.size):x[i]'h=x.get! i:=by
 obtain⟨a⟩:=x;exact (getElem!_pos a i h).symm
theorem Cd {X:R5} (hX:X.Good) {S:Nat} {ti:TI} (ht:I2 X.tt S=some ti) (hk:ti.k=.str) {k:IntKind} {i:Int} (n:Nat) (hi:i=n) (hn:n < x.size) (h:q (.v (.int .u8 ((x.get! n).toNat:Int)))):B7 X.P s (Instr.index S (.string x) (.int k i)) q:=by
 subst hi;refine⟨_,λw _=>?_,h⟩;obtain⟨_,sz,by',z⟩:=ti;dsimp only at hk;subst hk;have hu:=(Good.und hX ht).2;have hun:X.P.underlying S=some .string:=by rw[show X.P.underlying S=_ from hu]
 rw[run_index_string w S x k n hun,dif_pos ⟨S4 _,om⟩];rw[<-IA hn];rfl
end
theorem NQ {X:R5} (hX:X.Good) {s:List Ch} {S:Nat} {ti:TI} (ht:I2 X.tt S=some ti) (hk:ti.k=.str) {x:ByteArray} {q:TV->List Ch->Prop} (h :∀b,q (.v (pQ b)) (s++[.hp (Hp.one b (.stringIter x 0))])):I0 X.P s (Instr.range S (.string x)) q:=by
 obtain⟨_,sz,by',z⟩:=ti;dsimp only at hk;subst hk;have hu:=(Good.und hX ht).2;refine⟨λw0 w hok=>⟨_,_,w.alloc (.stringIter x 0),_,?_,hok.alloc (.hp (Hp.one w.heap.size (.stringIter x 0))) _ rfl,?_,rfl,h w.heap.size⟩⟩
 ·have hun:(underlying S).run X.P w=.ok .string w:=by simp[underlying,show X.P.underlying S=_ from hu]
  simp only[Instr.range,Sem.run_bind,hun,Result.andThen_ok,Sem.run_pure];simp[newObj];rfl
 ·exact J6.app _ _
theorem VF {P:Program} {s:List Ch} {ty i b:Nat} {x:ByteArray} {pos:Nat} (hi:m8 s i=some (.hp (Hp.one b (.stringIter x pos)))) {q:TV->List Ch->Prop}
  (h1:pos < x.size->q (.v (.tuple #[.bool true,iQ pos,.int .i32 (Utf8.decode x pos).1])) (x9 s i (.hp (Hp.one b (.stringIter x (pos+(Utf8.decode x pos).2))))))
  (h2 : ¬ pos < x.size->q (.v (.tuple #[.bool false])) s):I0 P s (Instr.next (pQ b) true ty) q:=by
 refine⟨λw0 w hok=>?_⟩;have hb:w.heap[b]?=some (.stringIter x pos):=hok.mem i _ hi _ _ (Hp.one_self _ _);have hg:(getObj b).run P w=.ok (.stringIter x pos) w:=by simp[getObj,Sem.run,hb]
 by_cases hp:pos < x.size
 ·have hok2:=hok.putObj hi (Hp.one_self _ _) (.stringIter x (pos+(Utf8.decode x pos).2));rw[NY] at hok2;refine⟨_,_,_,_,?_,hok2,J6.set hi (λb cs T e=>by cases e),rfl,h1 hp⟩;have hs:(setObj b (.stringIter x (pos+(Utf8.decode x pos).2))).run P w=.ok () (w.putObj b (.stringIter x (pos+(Utf8.decode x pos).2))):=by simp[setObj,Sem.run,hb,World.putObj]
  simp only[Instr.next,Sem.run_bind,hg,Result.andThen_ok,if_pos hp];rw[hs];rfl
 ·refine⟨_,_,w,s,?_,hok,J6.refl s,rfl,h2 hp⟩;simp only[Instr.next,Sem.run_bind,hg,Result.andThen_ok,if_neg hp];rfl
theorem decode_low {x:ByteArray} {i:Nat} (h:(x.get! i).toNat < 128):Utf8.decode x i=((x.get! i).toNat,1):=by
 rw[Lib.decode_at];unfold Lib.decodeN;rw[if_pos h]
theorem decode_high {x:ByteArray} {i:Nat} (h:128<=(x.get! i).toNat):128<=(Utf8.decode x i).1:=by
 rw[Lib.decode_at];unfold Lib.decodeN;rw[if_neg om];repeat' split
 all_goals (dsimp only;omega)
end Go.Dw
namespace Go.Dw
open Go Go.RowKit
section
variable {X:R5} {s:List Ch}
theorem Jb (hX:X.Good) {T e:Nat} {te:TI} (hT:bM X T=some (e,te)) {a:Option Addr} {n c:Nat} (l m:Nat) {lo hi:Option Value}
  (hlo:(lo=none/\l=0)\/∃k x,lo=some (.int k x)/\x=(l:Int)) (hhi:(hi=none/\m=n)\/∃k x,hi=some (.int k x)/\x=(m:Int)) (hlm:l<=m) (hmc:m<=c) {q:TV->Prop}
  (hq:q (.v (.slice (if c=l then a else a.map (·.add (l*te.size))) (m - l) (c - l)))):B7 X.P s (Instr.sliceAt T (.slice a n c) lo hi none) q:=by
 obtain⟨hu,hg⟩:=W6 hX hT;obtain⟨⟨inf,hinf,hs1,hs2,z,hz,hzc,hzl⟩,_⟩:=hg;refine⟨_,λw _=>?_,hq⟩;have e1:((m:Int).toNat:Int)=m:=rfl;rcases hlo with ⟨rfl,rfl⟩ | ⟨k,x,rfl,rfl⟩ <;> rcases hhi with ⟨rfl,rfl⟩ | ⟨k',x',rfl,rfl⟩ <;>
  simp[Instr.sliceAt,Instr.slice,run_underlying hu,Instr.sliceBounds,run_sliceBound,sizeOf,typeInfo,hinf,hs1,hlm,hmc]
theorem ZE (hX:X.Good) {α:Type} {R:uU α} {T e:Nat} {te:TI} (hT:bM X T=some (e,te)) {h:Hp} {a:Option Addr} {n c:Nat} {L:List α} (hs:Sl R te.size h a n c L) (l m:Nat) {lo hi:Option Value}
  (hlo:(lo=none/\l=0)\/∃k x,lo=some (.int k x)/\x=(l:Int)) (hhi:(hi=none/\m=n)\/∃k x,hi=some (.int k x)/\x=(m:Int)) (hlm:l<=m) (hmn:m<=n) {q:TV->Prop}
  (hq :∀a',Sl R te.size h a' (m - l) (c - l) ((L.take m).drop l)->q (.v (.slice a' (m - l) (c - l)))):B7 X.P s (Instr.sliceAt T (.slice a n c) lo hi none) q:=by
 have hlen:=hs.len;have hcap:=hs.cap;refine Jb hX hT l m hlo hhi hlm om (hq _ ⟨by simp;omega,om,λi hi=>?_⟩);simp only[k9,j8] at hi;obtain⟨b,off,cs,rfl,h2,h3,h4⟩:=hs.cells (l+i) om;refine⟨b,off+l*te.size,cs,by rw[if_neg om];simp[Addr.add_mk],h2,?_,λj v hj=>?_⟩
 ·simpa using h3
 ·have:=h4 j v hj;rw[D9] at this;rwa [show off+l*te.size+i*te.size+j=off+(l*te.size+i*te.size)+j by omega]
end
section
variable {X:R5} {s:List Ch}
end
end Go.Dw
namespace Go.Dw
open Go Go.RowKit
theorem Hp.dj_le {h k h':Hp} (d:h.dj k) (l:h'.le h):h'.dj k:=λb=>by
 rcases d b with e | e
 ·left
  cases hb:h' b with
  | none=>rfl
  | some o=>rw[l b o hb] at e;cases e
 ·exact .inr e
theorem Hp.dj_join {h d e:Hp} (h1:h.dj d) (h2:h.dj e):h.dj (d.join e):=λb=>by
 by_cases hx:h b=none
 ·exact .inl hx
 ·right
  have e1:=(h1 b).resolve_left hx;have e2:=(h2 b).resolve_left hx;simp[Hp.join,e1,e2]
theorem W0 {s:List Ch} {i:Nat} {c c0:Ch} (hi:m8 s i=some c0) (k:Nat):m8 (x9 s i c) k=if k=i then some c else m8 s k:=by
 rw[J7] at hi;rw[J7,J7,S9,O7];have:=(q9.1 hi).1;by_cases h:k=i
 ·subst h;simp[this]
 ·simp[h,Ne.symm h]
theorem qY (s:List Ch) (i:Nat) (c:Ch):(x9 s i c).length=s.length:=by rw[S9];simp
theorem Ok.part {w0 w:World} {s:List Ch} {i:Nat} {H d e:Hp} (hok:Ok w0 s w) (hi:m8 s i=some (.hp H)) (hd:d.le H) (he:e.le H) (hdj:d.dj e):Ok w0 (x9 s i (.hp d)++[.hp e]) w:=by
 have hlt:i < s.length:=by rw[J7] at hi;exact (q9.1 hi).1
 have get :∀k c,m8 (x9 s i (.hp d)++[.hp e]) k=some c->(k < s.length/\k≠i/\m8 s k=some c)\/(k=i/\c=.hp d)\/(k=s.length/\c=.hp e):=λk c hc=>by
  rw[H3,qY] at hc;split at hc
  ·rename_i hk
   rw[W0 hi] at hc;split at hc
   ·rename_i e;cases hc;exact .inr (.inl ⟨e,rfl⟩)
   ·rename_i e;exact .inl ⟨hk,e,hc⟩
  ·match hk:k - s.length,hc with
   | 0,hc=>simp[m8] at hc;exact .inr (.inr ⟨om,hc.symm⟩)
 refine⟨hok.os,hok.tape,hok.output,hok.size,hok.drawn,λk c hc=>?_,λj k c c' hjk h1 h2=>?_⟩
 ·rcases get k c hc with ⟨_,_,h⟩ | ⟨_,rfl⟩ | ⟨_,rfl⟩
  ·exact hok.mem k c h
  ·exact (hok.mem i _ hi).le hd
  ·exact (hok.mem i _ hi).le he
 ·rcases get j c h1 with ⟨_,hj,g1⟩ | ⟨rfl,rfl⟩ | ⟨rfl,rfl⟩ <;> rcases get k c' h2 with ⟨_,hk,g2⟩ | ⟨rfl,rfl⟩ | ⟨rfl,rfl⟩
  ·exact hok.disj j k c c' hjk g1 g2
  ·exact (Hp.dj_le (hok.disj _ _ _ _ (Ne.symm hj) hi g1) hd).symm
  ·exact (Hp.dj_le (hok.disj _ _ _ _ (Ne.symm hj) hi g1) he).symm
  ·exact Hp.dj_le (hok.disj _ _ _ _ (Ne.symm hk) hi g2) hd
  ·exact absurd rfl hjk
  ·exact hdj
  ·exact Hp.dj_le (hok.disj _ _ _ _ (Ne.symm hk) hi g2) he
  ·exact hdj.symm
  ·exact absurd rfl hjk
theorem Ok.unpart {w0 w:World} {s:List Ch} {i:Nat} {c0:Ch} {d e:Hp} (hi:m8 s i=some c0) (hok:Ok w0 (x9 s i (.hp d)++[.hp e]) w):Ok w0 (x9 s i (.hp (d.join e))) w/\d.dj e:=by
 have hlt:i < s.length:=by rw[J7] at hi;exact (q9.1 hi).1
 have gi:m8 (x9 s i (.hp d)++[.hp e]) i=some (.hp d):=by rw[H3,qY,if_pos hlt,W0 hi,if_pos rfl]
 have ge:m8 (x9 s i (.hp d)++[.hp e]) s.length=some (.hp e):=by rw[H3,qY,if_neg om,bS];rfl
 have gk :∀k c,k≠i->m8 s k=some c->m8 (x9 s i (.hp d)++[.hp e]) k=some c/\k≠s.length:=λk c hk hc=>by
  have:k < s.length:=by rw[J7] at hc;exact (q9.1 hc).1
  exact⟨by rw[H3,qY,if_pos this,W0 hi,if_neg hk];exact hc,om⟩
 refine⟨⟨hok.os,hok.tape,hok.output,hok.size,hok.drawn,λk c hc=>?_,λj k c c' hjk h1 h2=>?_⟩,hok.disj _ _ _ _ om gi ge⟩
 ·rw[W0 hi] at hc;split at hc
  ·cases hc;intro b o hb;have hb:(match d b with | some o=>some o | none=>e b)=some o:=hb;cases hd:d b with
   | some o'=>rw[hd] at hb;cases hb;exact hok.mem i _ gi b o hd
   | none=>rw[hd] at hb;exact hok.mem _ _ ge b o hb
  ·rename_i hk;exact hok.mem k c (gk k c hk hc).1
 ·rw[W0 hi] at h1 h2;split at h1 <;> split at h2
  ·omega
  ·rename_i hj hk
   cases h1;have:=gk k c' hk h2;exact (Hp.dj_join (hok.disj _ _ _ _ hk this.1 gi) (hok.disj _ _ _ _ this.2 this.1 ge)).symm
  ·rename_i hj hk
   cases h2;have:=gk j c hj h1;exact Hp.dj_join (hok.disj _ _ _ _ hj this.1 gi) (hok.disj _ _ _ _ this.2 this.1 ge)
  ·rename_i hj hk
   exact hok.disj _ _ _ _ hjk (gk j c hj h1).1 (gk k c' hk h2).1
theorem I0.part {P:Program} {s:List Ch} {i:Nat} {H d e:Hp} {E:Sem Value} {q:TV->List Ch->Prop} (hi:m8 s i=some (.hp H)) (hd:d.le H) (he:e.le H) (hdj:d.dj e)
  (h:I0 P (x9 s i (.hp d)++[.hp e]) E λtv s'=>∃v d',tv=.v v/\s'=x9 s i (.hp d')++[.hp e]/\(d'.dj e->q (.v v) (x9 s i (.hp (d'.join e))))):I0 P s E q:=by
 obtain⟨h⟩:=h;refine⟨λw0 w hok=>?_⟩;obtain⟨tv,v,w',s',h1,h2,h3,h4,v',d',rfl,rfl,h5⟩:=h w0 w (hok.part hi hd he hdj);have:=h2.unpart hi;exact⟨.v v',v,w',_,h1,this.1,J6.set hi (λb cs T e=>by cases e),h4,h5 this.2⟩
structure Ng {α:Type} (f:α->List Value) (T sz:Nat) (H:Hp) (os:List Os) (LL:List (List α)):Prop where
 len:os.length=LL.length
 own :∀(i:Nat) (o:Os) (L:List α),os[i]?=some o->LL[i]?=some L->w8 f T sz o L/\o.h.le H
 dj :∀(i j:Nat) (o o':Os),i≠j->os[i]?=some o->os[j]?=some o'->o.h.dj o'.h
section
variable {X:R5} {s:List Ch}
end
theorem s6.cut {X:R5} {ops:List Oper} {Q:Tm->List Ch->Prop} {t:Tm} {s:List Ch} (G:Type) (I:G->Tm) (S:G->List Ch) (R:G->Prop)
  (h:s6 X ops (λt s=>∃g,R g/\v6 t s (I g) (S g)) t s) (k :∀g,R g->FF (S g)->Q (I g) (S g)):s6 X ops Q t s:=by
 obtain⟨h⟩:=h;refine⟨λw0 w a Q' hok hf hQ hP=>h w0 w a Q' hok hf (λt s a w hok hf ⟨g,hR,he⟩=>?_) hP⟩;obtain⟨hok',hf'⟩:=he _ w0 w a hok hf;exact hQ _ _ a w hok' hf' (k g hR ⟨w0,w,hok'⟩)
end Go.Dw
namespace Go.Dw
open Go Go.RowKit
theorem WD {α:Type} {f:α->List Value} {sz:Nat} (hf :∀x,(f x).length=sz) :∀L:List α,(L.flatMap f).length=L.length*sz
 | []=>by simp
 | x::r=>by rw[I6,d6,hf,WD hf r,d7,Z5];omega
theorem jE {α:Type} {f:α->List Value} {sz:Nat} (hf :∀x,(f x).length=sz) :∀(L:List α) (k:Nat),(L.flatMap f).take (k*sz)=(L.take k).flatMap f
 | L,0=>by simp
 | [],k+1=>by simp
 | x::r,k+1=>by
  rw[I6,SK,I6,Z5,V9 (k*sz),<-hf x,List.take_length_add_append,hf x,jE hf r k]
theorem CS {α:Type} {f:α->List Value} {sz:Nat} (hf :∀x,(f x).length=sz) :∀(L:List α) (k:Nat),(L.flatMap f).drop (k*sz)=(L.drop k).flatMap f
 | L,0=>by simp
 | [],k+1=>by simp
 | x::r,k+1=>by
  rw[I6,List.drop_succ_cons,Z5,V9 (k*sz),<-hf x,List.drop_length_add_append,hf x,CS hf r k]
section
variable {X:R5} {s:List Ch}
theorem Ly (hX:X.Good) {T e:Nat} {te:TI} (hT:bM X T=some (e,te)) {a:Option Addr} {b n c:Nat} (hb:a=some ⟨b,0,none⟩) (k:Nat) {ik:IntKind} {x:Int} (hx:x=k) (hk:k < n) (hc:n<=c) {q:TV->Prop}
  (hq:q (.v (.slice (some ⟨b,0+k*te.size,none⟩) (n - k) (c - k)))):B7 X.P s (Instr.sliceAt T (.slice a n c) (some (.int ik x)) none none) q:=by
 subst hb;refine Jb hX hT k n (.inr ⟨_,_,rfl,hx⟩) (.inl ⟨rfl,rfl⟩) om hc ?_;rw[if_neg om];simpa [Addr.add_mk] using hq
theorem Mt (hX:X.Good) {T e:Nat} {te:TI} (hT:bM X T=some (e,te)) {a:Option Addr} {n c:Nat} (k:Nat) {ik:IntKind} {x:Int} (hx:x=k) (hk:k<=c) {q:TV->Prop}
  (hq:q (.v (.slice a k c))):B7 X.P s (Instr.sliceAt T (.slice a n c) none (some (.int ik x)) none) q:=by
 refine Jb hX hT 0 k (.inl ⟨rfl,rfl⟩) (.inr ⟨_,_,rfl,hx⟩) om hk ?_;have:(if c=0 then a else a.map (·.add (0*te.size)))=a:=by
  split
  ·rfl
  ·rw[Z4];cases a with
   | none=>rfl
   | some ad=>simp[Addr.add]
 rw[this];simpa using hq
end
end Go.Dw
namespace Go.Proofs.YtpjhmeicbjkcdaaGreatDoor
def gK (l:List Nat):Nat:=l.foldl (λv d=>10*v+d) 0
theorem AE :∀(l:List Nat) (v:Nat),l.foldl (λv d=>10*v+d) v=v*10 ^ l.length+gK l
 | [],v=>by simp[gK]
 | d::l,v=>by
  show l.foldl (λv d=>10*v+d) (10*v+d)=v*10 ^ (l.length+1)+l.foldl (λv d=>10*v+d) (10*0+d)
  rw[AE l (10*v+d),AE l (10*0+d),O3];have e:(10*v+d)*10 ^ l.length=v*(10 ^ l.length*10)+d*10 ^ l.length:=by
   rw[D9,q8 10 v,A0,q8 10 (10 ^ l.length)]
  rw[e];simp only[jY,y8];omega
theorem fZ (a b:List Nat):gK (a++b)=gK a*10 ^ b.length+gK b:=by
 unfold gK;rw[List.foldl_append,AE];rfl
theorem WY :∀{l:List Nat},(∀d∈l,d < 10)->gK l < 10 ^ l.length
 | [],_=>by simp[gK]
 | d::l,h=>by
  have ih:=WY (l:=l) λx hx=>h x (A9 _ hx);have hd:=h d sQ;have e:=fZ [d] l;have e1:gK [d]=d:=by show 10*0+d=d;omega
  rw[e1] at e;show gK ([d]++l) < 10 ^ (l.length+1)
  rw[e,O3];have:(d+1)*10 ^ l.length<=10*10 ^ l.length:=y9 _ om;rw[D9,P9,q8 10] at this;omega
theorem Bb :∀{l:List Nat},(∀d∈l,d < 10)->0 < l.length->l.getD 0 0≠0->0 < gK l
 | [],_,h,_=>by cases h
 | d::l,_,_,h=>by
  have hd:0 < d:=F8 h;have e:=fZ [d] l;have e1:gK [d]=d:=by show 10*0+d=d;omega
  rw[e1] at e;show 0 < gK ([d]++l)
  rw[e];have:0 < d*10 ^ l.length:=Nat.mul_pos hd (MU dc);omega
theorem sX :∀{l:List Nat},gK l=0↔∀d∈l,d=0
 | []=>⟨λ_=>nofun,λ_=>rfl⟩
 | d::l=>by
  have e:=fZ [d] l;have e1:gK [d]=d:=by show 10*0+d=d;omega
  rw[e1] at e;have ih:=sX (l:=l);show gK ([d]++l)=0↔_
  rw[e];constructor
  ·intro h x hx;have hp:0 < 10 ^ l.length:=MU dc;have h1:d*10 ^ l.length=0:=om
   have hd:d=0:=by
    rcases Nat.mul_eq_zero.1 h1 with g | g
    ·exact g
    ·omega
   rcases A8.1 hx with rfl | hx
   ·exact hd
   ·exact ih.1 om x hx
  ·intro h;have hd:=h d sQ;have hl:=ih.2 λx hx=>h x (A9 _ hx);rw[hd,hl];simp
end Go.Proofs.YtpjhmeicbjkcdaaGreatDoor
namespace Go.Dw
open Go Go.RowKit
theorem wY {x y:Int} {q:Int->Prop} (h:x % 18446744073709551616=y) (hq:q y):bR .u64 x q:=⟨y,by rw[IntKind.wrap_u64,h],hq⟩
theorem rR {x y:Int} {q:Int->Prop} (h:x % 4294967296=y) (hq:q y):bR .u32 x q:=⟨y,by rw[IntKind.wrap_u32',h],hq⟩
theorem Kb {x:Int} {q:Int->Prop} (h1:0<=x) (h2:x < 18446744073709551616) (hq:q x):bR .u64 x q:=wY (Int.emod_eq_of_lt h1 h2) hq
theorem Kc {x:Int} {q:Int->Prop} (h1:0<=x) (h2:x < 4294967296) (hq:q x):bR .u32 x q:=rR (Int.emod_eq_of_lt h1 h2) hq
theorem J9 {x:Int} (m:Nat) {q:Int->Prop} (h:x=m) (h2:m < 18446744073709551616) (hq:q (m:Nat)):bR .u64 x q:=by subst h;exact Kb om om hq
theorem pC {x:Int} (m:Nat) {q:Int->Prop} (h:x=m) (h2:m < 4294967296) (hq:q (m:Nat)):bR .u32 x q:=by subst h;exact Kc om om hq
theorem gU {x:Int} (m:Nat) {q:Int->Prop} (h:x=m) (hq:q ((m % 4294967296:Nat):Int)):bR .u32 x q:=by subst h;exact rR om hq
section
variable {P:Program} {s:List Ch} {xo yo:Operand} {ty:Nat} {q:TV->Prop}
theorem CB (a n:Nat) (k:IntKind) (hn:n < 64) (w:World):(Op.shift .shl .u64 a k n).run P w=.ok (.int .u64 ((a*2 ^ n % 18446744073709551616:Nat):Int)) w:=by
 have h0 : ¬ (n:Int) < 0:=om
 have hm:min (n:Int).toNat IntKind.u64.bits=n:=by show min n 64=n;omega
 unfold Op.shift;rw[if_neg h0];dsimp only;rw[hm,IntKind.wrap_u64];have e:((2:Int) ^ n)=((2 ^ n:Nat):Int):=sQ
 rw[e];have e2:(a:Int)*((2 ^ n:Nat):Int)=((a*2 ^ n:Nat):Int):=sQ
 rw[e2];rfl
theorem BZ (a n:Nat) (k:IntKind) (hn:n < 64) (w:World):(Op.shift .shr .u64 a k n).run P w=.ok (.int .u64 ((a / 2 ^ n:Nat):Int)) w:=by
 have h0 : ¬ (n:Int) < 0:=om
 have hm:min (n:Int).toNat IntKind.u64.bits=n:=by show min n 64=n;omega
 unfold Op.shift;rw[if_neg h0];dsimp only;rw[hm,Lv _ (by have:=cA n;simp only[Int.pow_nonneg (by decide:(0:Int)<=2)])];have e:((2:Int) ^ n)=((2 ^ n:Nat):Int):=sQ
 rw[e];rfl
theorem PT (a n:Nat) (k:IntKind) (hn:n < 32) (w:World):(Op.shift .shl .u32 a k n).run P w=.ok (.int .u32 ((a*2 ^ n % 4294967296:Nat):Int)) w:=by
 have h0 : ¬ (n:Int) < 0:=om
 have hm:min (n:Int).toNat IntKind.u32.bits=n:=by show min n 32=n;omega
 unfold Op.shift;rw[if_neg h0];dsimp only;rw[hm,IntKind.wrap_u32'];have e:((2:Int) ^ n)=((2 ^ n:Nat):Int):=sQ
 rw[e];have e2:(a:Int)*((2 ^ n:Nat):Int)=((a*2 ^ n:Nat):Int):=sQ
 rw[e2];rfl
theorem CA (a n:Nat) (k:IntKind) (hn:n < 32) (w:World):(Op.shift .shr .u32 a k n).run P w=.ok (.int .u32 ((a / 2 ^ n:Nat):Int)) w:=by
 have h0 : ¬ (n:Int) < 0:=om
 have hm:min (n:Int).toNat IntKind.u32.bits=n:=by show min n 32=n;omega
 unfold Op.shift;rw[if_neg h0];dsimp only;rw[hm,Lv _ (by have:=cA n;simp only[Int.pow_nonneg (by decide:(0:Int)<=2)])];have e:((2:Int) ^ n)=((2 ^ n:Nat):Int):=sQ
 rw[e];rfl
theorem EH (a n:Nat) {x y:Int} (hx:x=a) (hy:y=n) (hn:n < 64) (h:q (.v (.int .u64 ((a*2 ^ n % 18446744073709551616:Nat):Int)))):B7 P s (binOp .shl ty (.int .u64 x) (.int .u64 y)) q:=by
 subst hx hy;exact⟨_,λw _=>CB a n .u64 hn w,h⟩
theorem pA (a n:Nat) {x y:Int} (hx:x=a) (hy:y=n) (hn:n < 64) (h:q (.v (.int .u64 ((a / 2 ^ n:Nat):Int)))):B7 P s (binOp .shr ty (.int .u64 x) (.int .u64 y)) q:=by
 subst hx hy;exact⟨_,λw _=>BZ a n .u64 hn w,h⟩
theorem NS (a n:Nat) {x y:Int} (hx:x=a) (hy:y=n) (hn:n < 64) (h:q (.v (.int .u64 ((a*2 ^ n % 18446744073709551616:Nat):Int)))):B7 P s (do eqGuard .shl ty xo yo (.int .u64 x) (iQ y);binOp .shl ty (.int .u64 x) (iQ y)) q:=by
 subst hx hy;refine⟨_,λw _=>?_,h⟩;have h1:(eqGuard .shl ty xo yo (.int .u64 a) (iQ n)).run P w=.ok () w:=by simp[eqGuard]
 rw[Sem.run_bind,h1,Result.andThen_ok];exact CB a n .i64 hn w
theorem ZP (a n:Nat) {x y:Int} (hx:x=a) (hy:y=n) (hn:n < 64) (h:q (.v (.int .u64 ((a / 2 ^ n:Nat):Int)))):B7 P s (do eqGuard .shr ty xo yo (.int .u64 x) (iQ y);binOp .shr ty (.int .u64 x) (iQ y)) q:=by
 subst hx hy;refine⟨_,λw _=>?_,h⟩;have h1:(eqGuard .shr ty xo yo (.int .u64 a) (iQ n)).run P w=.ok () w:=by simp[eqGuard]
 rw[Sem.run_bind,h1,Result.andThen_ok];exact BZ a n .i64 hn w
theorem ZR (a n:Nat) {x y:Int} (hx:x=a) (hy:y=n) (hn:n < 32) (h:q (.v (.int .u32 ((a*2 ^ n % 4294967296:Nat):Int)))):B7 P s (do eqGuard .shl ty xo yo (.int .u32 x) (iQ y);binOp .shl ty (.int .u32 x) (iQ y)) q:=by
 subst hx hy;refine⟨_,λw _=>?_,h⟩;have h1:(eqGuard .shl ty xo yo (.int .u32 a) (iQ n)).run P w=.ok () w:=by simp[eqGuard]
 rw[Sem.run_bind,h1,Result.andThen_ok];exact PT a n .i64 hn w
theorem ZQ (a n:Nat) {x y:Int} (hx:x=a) (hy:y=n) (hn:n < 32) (h:q (.v (.int .u32 ((a / 2 ^ n:Nat):Int)))):B7 P s (do eqGuard .shr ty xo yo (.int .u32 x) (iQ y);binOp .shr ty (.int .u32 x) (iQ y)) q:=by
 subst hx hy;refine⟨_,λw _=>?_,h⟩;have h1:(eqGuard .shr ty xo yo (.int .u32 a) (iQ n)).run P w=.ok () w:=by simp[eqGuard]
 rw[Sem.run_bind,h1,Result.andThen_ok];exact CA a n .i64 hn w
theorem NU (a b:Nat) {x y:Int} (hx:x=a) (hy:y=b) (ha:a < 18446744073709551616) (hb:b < 18446744073709551616) (h:q (.v (.int .u64 ((a ||| b:Nat):Int)))):B7 P s (binOp .or ty (.int .u64 x) (.int .u64 y)) q:=by
 subst hx hy;exact⟨_,λw _=>by show Result.ok (Value.int .u64 (bits .or .u64 a b)) w=_;rw[bits_or_u64_nat a b ha hb],h⟩
theorem Cc (a b:Nat) {x y:Int} (hx:x=a) (hy:y=b) (ha:a < 4294967296) (hb:b < 4294967296) (h:q (.v (.int .u32 ((a ||| b:Nat):Int)))):B7 P s (binOp .or ty (.int .u32 x) (.int .u32 y)) q:=by
 subst hx hy;exact⟨_,λw _=>by show Result.ok (Value.int .u32 (bits .or .u32 a b)) w=_;rw[u32_or_nat a b ha hb],h⟩
theorem UI (a b:Nat) {x y:Int} (hx:x=a) (hy:y=b) (hb:0 < b) (ha:a < 18446744073709551616) (h:q (.v (.int .u64 ((a / b:Nat):Int)))):B7 P s (binOp .quo ty (.int .u64 x) (.int .u64 y)) q:=by
 subst hx hy;refine⟨_,λw _=>?_,h⟩;have h0 : ¬ b=0:=om
 have hd':a / b < 18446744073709551616:=s7 (D7 a b) ha;have hw:IntKind.u64.wrap ((a / b:Nat):Int)=(a / b:Nat):=by rw[IntKind.wrap_u64];exact Int.emod_eq_of_lt (S4 _) (Int.ofNat_lt.2 hd')
 rw[Fx] at hw;rw[Fx];simp[binOp,Op.intDiv,h0];exact hw
theorem UH (a b:Nat) {x y:Int} (hx:x=a) (hy:y=b) (hb:0 < b) (ha:a < 18446744073709551616) (h:q (.v (.int .u64 ((a % b:Nat):Int)))):B7 P s (binOp .rem ty (.int .u64 x) (.int .u64 y)) q:=by
 subst hx hy;refine⟨_,λw _=>?_,h⟩;have h0 : ¬ b=0:=om
 have hd':a % b < 18446744073709551616:=s7 (Nat.mod_le a b) ha;rw[Int.natCast_emod];simp[binOp,Op.intDiv,h0];exact Lu (S4 _)
end
theorem Hp.join_in {h k:Hp} {w:World} (a:h.In w) (b:k.In w):(h.join k).In w:=λx o e=>by
 unfold Hp.join at e;cases hx:h x with
 | some y=>rw[hx] at e;cases e;exact a x _ hx
 | none=>rw[hx] at e;exact b x _ e
theorem Hp.le_join_in {h k:Hp} {w:World} (a:h.In w) (b:k.In w):k.le (h.join k):=λx o e=>by
 unfold Hp.join;cases hx:h x with
 | some y=>
  have h1:=a x _ hx;have h2:=b x _ e;rw[h1] at h2;exact h2
 | none=>exact e
theorem Sl.upto {α:Type} {R:uU α} {sz:Nat} {h:Hp} {a:Option Addr} {n c:Nat} {L:List α} (hs:Sl R sz h a n c L) {k:Nat} (hk:k<=n):Sl R sz h a k c (L.take k):=by
 have:=hs.len;have:=hs.cap;refine⟨by rw[j8];omega,om,λi hi=>?_⟩;rw[j8] at hi;obtain⟨b,off,cs,h1,h2,h3,h4⟩:=hs.cells i om;refine⟨b,off,cs,h1,h2,?_,h4⟩;rw[List.getElem_take];exact h3
end Go.Dw
namespace Go.Proofs.YtpjhmeicbjkcdaaGreatDoor
open Go Go.RowKit Go.Dw
def fW (d:Nat):List Value:=[.int .u32 (d:Int)]
def trN:List Nat->Nat
 | []=>0
 | d::m=>if trN m=0/\d=0 then 0 else trN m+1
theorem lK :∀L,trN L<=L.length
 | []=>k8 _
 | d::m=>by
  have:=lK m;unfold trN;split
  ·exact f8 _
  ·simp only[d7];omega
theorem tR :∀L,trN (L++[0])=trN L
 | []=>rfl
 | d::m=>by
  have:=tR m;show trN (d::(m++[0]))=_
  unfold trN;rw[this]
theorem qU :∀(L:List Nat) {x:Nat},x≠0->trN (L++[x])=L.length+1
 | [],x,h=>by
  show trN [x]=1
  unfold trN;rw[if_neg λe=>h e.2];rfl
 | d::m,x,h=>by
  have:=qU m h;show trN (d::(m++[x]))=_
  unfold trN;rw[this,if_neg om];rfl
def JK (L:List Nat):List Nat:=L.take (trN L)
theorem W2 :∀{L:List Nat},P3 L->fG (JK L) (u9 L):=by
 intro L hL;have key :∀(n:Nat) (L:List Nat),L.length=n->P3 L->fG (JK L) (u9 L):=by
  intro n;induction n with
  | zero=>intro L hl _;rw[w9 hl];exact fG.nil
  | succ n ih=>
   intro L hl hL;obtain⟨a,p,e,hl2,_⟩:=rA (m:=L) om;subst e;by_cases hp:p=0
   ·subst hp;obtain⟨h1,h2⟩:=drop_zero hL;rw[h2];have e:JK (a++[0])=JK a:=by
     unfold JK;rw[tR,List.take_append_of_le_length (lK a)]
    rw[e];exact ih a om h1
   ·have e:JK (a++[p])=a++[p]:=by
     unfold JK;rw[qU a hp];exact u7 sQ
    rw[e];refine PL hL (.inr ?_);rw[d6,w7,XV,i7,N0 (k8 _),bS];exact hp
 exact key L.length L rfl hL
theorem gP (L:List Nat):(JK L).length=trN L:=by
 unfold JK;rw[j8];have:=lK L;omega
theorem fG.trN {L:List Nat} {m:Nat} (h:fG L m):trN L=L.length:=by
 rcases w6 L.length with g | g
 ·rw[w9 g];rfl
 ·obtain⟨a,p,e,hl,hp⟩:=rA g;have:=h.t (L.length - 1) g om;rw[hp] at this;rw[e,qU a this,d6];rfl
theorem aU {L:List Nat} {a:Option Addr} {n c:Nat} (w:World) (hs:Sl (B0 fW) 1 (Hp.whole w) a n c L) (hL:L.length < 1000000):j6 Tryz.prog 243 #[.slice a n c] w (v7 w (.slice a (trN L) c)):=by
 have hn:=hs.len;have hc:=hs.cap;refine enterZ (cx 21) [.slice a n c] [.tmp 2] Tryz.func243 ?_;refine u6.mk Nat (λk=>[(0,.v (.slice a k c))]) (λ_=>[.hp (Hp.whole w)])
  (λk=>k<=n/\trN (L.take k)=trN L) (λk=>k) n ⟨k8 _,by rw[u7 om]⟩ (v6.mk (λ_ _ h=>h) rfl rfl) ?_
 rintro k ⟨hk,ht⟩;dsimp only at *;have hsk:=hs.upto hk;have hlk:(L.take k).length=k:=by rw[j8];omega
 refine d8 (λh1=>?_) λh1=>?_
 ·refine nwo ?_;refine I1 cQ (e:=247) rfl hsk (k - 1) om om λb9 o9 cs hcs hR hcell2=>?_;subst hR;refine lQ 0 (hcell2 0 _ rfl) ?_;have e2:L.take k=L.take (k - 1)++[(L.take k)[k - 1]'om]:=by
   have:=L8 (l:=L.take k) (i:=k - 1) om;rw[show k - 1+1=k by omega,List.take_take,List.take_take,show min k k=k by omega,show min (k - 1) k=k - 1 by omega] at this;exact this
  refine d8 (λh3=>?_) λh3=>?_
  ·refine nwo ?_;refine Mt cQ (e:=247) rfl (k - 1) om om ?_;exact⟨k - 1,⟨om,by
    rw[<-ht,e2];have:(L.take k)[k - 1]'(by omega)=0:=om
    rw[this,tR]⟩,om,v6.mk (λ_ _ h=>h) rfl rfl⟩
  ·have e4:trN L=k:=by
    rw[<-ht,e2,qU _ om,j8];omega
   exact⟨[],⟨by rw[e4],rfl⟩,pk [0]⟩
 ·have hk0:k=0:=om
  subst hk0;exact⟨[],⟨by rw[<-ht];rfl,rfl⟩,pk [0]⟩
def U9 (neg:Bool) (a:Option Addr) (n c:Nat):Value:=.agg #[.bool neg,.slice a n c]
theorem aV (neg:Bool) {L:List Nat} {a:Option Addr} {n c:Nat} (w:World) (hs:Sl (B0 fW) 1 (Hp.whole w) a n c L) (hL:L.length < 1000000):j6 Tryz.prog 197 #[.bool neg,.slice a n c] w (v7 w (U9 (neg && decide (0 < trN L)) a (trN L) c)):=by
 refine enterZ (cx 15) [.bool neg,.slice a n c] [.cell 4 139] Tryz.func197 ?_;intro b1;refine k7 _ (λw' hm=>aU w' (hs.mono (j7 _) (hm 0 _ rfl)) hL) ?_;refine s8 (λh1=>?_) λh1=>?_
 ·exact⟨[],⟨by subst h1;unfold U9;simp,rfl⟩,pk [0]⟩
 ·exact⟨[],⟨by subst h1;unfold U9;simp,rfl⟩,pk [0]⟩
end Go.Proofs.YtpjhmeicbjkcdaaGreatDoor
namespace Go.Dw
open Go Go.RowKit
theorem Ok.ofBelow {w w':World} (h:Below w.heap.size w w'):Ok w [.hp (Hp.whole w)] w':=by
 refine⟨h.os,h.tape,h.output,h.size,k8 _,λi c e=>?_,λi j c d hij e1 e2=>?_⟩
 ·match i,e with
  | 0,e=>
   simp[m8] at e;subst e;intro b o hb;have hb':w.heap[b]?=some o:=hb;have hlt:b < w.heap.size:=by
    rcases K8 b w.heap.size with g | g
    ·exact g
    ·rw[Array.getElem?_eq_none g] at hb';cases hb'
   rw[h.block b hlt];exact hb'
 ·match i,j,e1,e2 with
  | 0,0,_,_=>exact absurd rfl hij
theorem Ok.boxHp {w0 w:World} {c0:Ch} {b T:Nat} {cs:List Value} (hok:Ok w0 [c0,.box b cs T] w):Ok w0 [c0,.hp (Ch.box b cs T).h] w:=by
 have tr :∀k x,m8 [c0,.hp (Ch.box b cs T).h] k=some x->∃y,m8 [c0,Ch.box b cs T] k=some y/\x.h=y.h:=λk x hx=>by
  match k,hx with
  | 0,hx=>exact⟨x,hx,rfl⟩
  | 1,hx=>simp[m8] at hx;subst hx;exact⟨_,rfl,rfl⟩
 refine⟨hok.os,hok.tape,hok.output,hok.size,hok.drawn,λk x hx=>?_,λj k x y hjk h1 h2=>?_⟩
 ·obtain⟨y,h1,h2⟩:=tr k x hx;rw[h2];exact hok.mem k y h1
 ·obtain⟨x',e1,e2⟩:=tr j x h1;obtain⟨y',e3,e4⟩:=tr k y h2;rw[e2,e4];exact hok.disj j k x' y' hjk e1 e3
theorem WE {α:Type} {f:α->List Value} {sz:Nat} (hf :∀x,(f x).length=sz) (L:List α):(L.flatMap f).length=L.length*sz:=WD hf L
theorem w8.ofBox {α:Type} {f:α->List Value} {sz:Nat} (hf :∀x,(f x).length=sz) {b T:Nat} {cs:List Value} (L:List α) {n:Nat} (hL:cs=L.flatMap f) (hn:n=L.length) (hl:L.length < 1000000) :
  w8 f T sz ⟨some ⟨b,0,none⟩,n,n,(Ch.box b cs T).h⟩ L:=by
 subst hL hn;have hl:=WE hf L;refine⟨rfl,hl,.inr ⟨b,_,rfl,Hp.one_self _ _,k8 _,by unfold maxLen;dsimp only;omega,by simpa using hl,?_⟩⟩;exact u7 (Nat.le_of_eq hl)
end Go.Dw
namespace Go.Proofs.YtpjhmeicbjkcdaaGreatDoor
open Go Go.RowKit Go.Dw
theorem v7.ofBelow {w:World} {v:Value} {e:Ending} {w':World} (he:e=.returned v) (h:Below w.heap.size w w'):v7 w v e w':=by
 subst he;exact⟨_,[],rfl,Ok.ofBelow h,rfl,rfl⟩
theorem gC {P:Program} {f:Nat} {args:Array Value} {w:World} {R:Ending->World->Prop} {v:Value} (he :∀w,(callFunc f args).run P w=.ok (.enter f args) w) (hc:Calls P f args w R)
  (hr :∀e w',R e w'->e=.returned v/\Below w.heap.size w w'/\w.drawn<=w'.drawn):j6 P f args w (v7 w v):=
 ⟨he,hc.mono λe w' h=>let ⟨h1,h2,_⟩:=hr e w' h;v7.ofBelow h1 h2⟩
end Go.Proofs.YtpjhmeicbjkcdaaGreatDoor
namespace Go.Dw
open Go Go.RowKit
def bs (l:List UInt8):ByteArray:=⟨l.toArray⟩
abbrev sv (l:List UInt8):Value:=.string (bs l)
abbrev zs:Value:=.string (bs [])
theorem B6 (l:List UInt8):(bs l).size=l.length:=by show l.toArray.size=_;simp
theorem jV (l:List UInt8):(bs l).data.toList=l:=rfl
theorem Fm {a b:List UInt8} (h:bs a=bs b):a=b:=by
 have:=congrArg (λx:ByteArray=>x.data.toList) h;exact this
theorem MJ {a b:List UInt8}:bs a=bs b↔a=b:=⟨Fm,λh=>by rw[h]⟩
theorem ML (a b:List UInt8):decide (bs a=bs b)=decide (a=b):=by
 rw[decide_eq_decide];exact MJ
theorem MK {l:List UInt8} {i:Nat} (h:i < l.length):(bs l).get! i=l[i]:=by
 rw[<-IA (by rw[B6];exact h)];rfl
theorem Bk {l:List UInt8} {i:Nat} (h:i < l.length):(bs l).get! i=l.getD i 0:=by
 rw[MK h,i7,i6 h];rfl
theorem Fl (l:List UInt8) (a b:Nat):(bs l).extract a b=bs ((l.take b).drop a):=by
 apply ByteArray.ext;rw[ByteArray.data_extract];show l.toArray.extract a b=((l.take b).drop a).toArray
 rw[List.extract_toArray,List.extract_eq_take_drop,List.drop_take]
theorem SD (a b:List UInt8):bs a++bs b=bs (a++b):=by
 apply ByteArray.ext;rw[ByteArray.data_append];show a.toArray++b.toArray=(a++b).toArray
 simp
section
variable {P:Program} {s:List Ch} {xo yo:Operand} {ty:Nat} {q:TV->Prop}
theorem W8 {a b:List UInt8} (h:q (.v (.bool (decide (a=b))))):B7 P s (do eqGuard .eql ty xo yo (sv a) (sv b);binOp .eql ty (sv a) (sv b)) q:=Js (by rw[ML];exact h)
theorem cG {a b:List UInt8} (h:q (.v (.bool (decide (a≠b))))):B7 P s (do eqGuard .neq ty xo yo (sv a) (sv b);binOp .neq ty (sv a) (sv b)) q:=Jq (by
 have:decide (bs a≠bs b)=decide (a≠b):=by rw[decide_eq_decide];exact not_congr MJ
 rw[this];exact h)
theorem X0 {X:R5} (hX:X.Good) {S:Nat} {ti:TI} (ht:I2 X.tt S=some ti) (hk:ti.k=.str) {k:IntKind} {i:Int} {l:List UInt8} (n:Nat) (hi:i=n) (hn:n < l.length) (h:q (.v (.int .u8 ((l.getD n 0).toNat:Int)))):B7 X.P s (Instr.index S (sv l) (.int k i)) q:=
 Cd hX ht hk n hi (by rw[B6];exact hn) (by rw[Bk hn];exact h)
theorem lY {X:R5} (hX:X.Good) {S:Nat} {ti:TI} (ht:I2 X.tt S=some ti) (hk:ti.k=.str) {l:List UInt8} (a b:Nat) {lo hi:Option Value}
  (hlo:(lo=none/\a=0)\/∃k x,lo=some (.int k x)/\x=(a:Int)) (hhi:(hi=none/\b=l.length)\/∃k x,hi=some (.int k x)/\x=(b:Int)) (hab:a<=b) (hb:b<=l.length)
  (h:q (.v (sv ((l.take b).drop a)))):B7 X.P s (Instr.sliceAt S (sv l) lo hi none) q:=by
 refine⟨_,λw _=>?_,h⟩;have hu:X.P.underlying S=some .string:=by
  have:=(Good.und hX ht).2;obtain⟨tk,_,_,_⟩:=ti;dsimp only at hk;subst hk;exact this
 have hsz:=B6 l;rcases hlo with ⟨rfl,rfl⟩ | ⟨k,x,rfl,rfl⟩ <;> rcases hhi with ⟨rfl,rfl⟩ | ⟨k',x',rfl,rfl⟩ <;>
  simp[Instr.sliceAt,Instr.slice,run_underlying hu,Instr.sliceBounds,run_sliceBound,hsz,hab,hb,Fl]
theorem P0 {a b:List UInt8} (hn:a.length+b.length < 9223372036854775808) (h:q (.v (sv (a++b)))):B7 P s (binOp .add ty (sv a) (sv b)) q:=by
 refine⟨_,λw _=>?_,h⟩;show (Op.stringOp .add (bs a) (bs b)).run P w=_
 unfold Op.stringOp;simp only[];rw[if_neg (by rw[B6,B6];show ¬ ((a.length+b.length:Nat):Int) > 9223372036854775807;omega)];rw[SD];rfl
end
end Go.Dw
