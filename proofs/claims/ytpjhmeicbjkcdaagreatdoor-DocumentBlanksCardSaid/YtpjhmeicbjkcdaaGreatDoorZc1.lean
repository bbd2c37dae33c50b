/- Parts of one proof, joined. No condition of its own. -/
import Derived.Test.YtpjhmeicbjkcdaaGreatDoorZB4
import Derived.Laws.StructEq
import Derived.LaidMore
import Derived.OpenShut
import Derived.Stop.Joined
import Derived.MakeChecks
import Derived.LaidSub
import Derived.Lay
import Derived.LaidOnce
import Derived.ChangeMaps5
open Bool renaming false_eq_true->wH,and_eq_true->j4,eq_iff_iff->T7,false_and->eG,true_and->D9,or_eq_true->Q3
open Classical renaming not_not->B9,propDecidable->Pq,byContradiction->j3
open Int renaming mul_ediv_cancel_left->Pm,fdiv_eq_ediv_of_nonneg->Oc,natCast_ediv->Iv,eq_ofNat_of_zero_le->S8
open List renaming getElem_mem->j5,append_assoc->f8,append_nil->k8,length_append->d6,length_cons->d7,length_eq_zero_iff->F7,flatMap_cons->u7,getD_eq_getElem?_getD->e8,getElem?_eq_none->cT,length_drop->j9,length_map->j6,length_nil->i6,length_range->K7,length_singleton->p7,length_take->j1,mem_cons->p9,mem_map->y7,mem_of_getElem?->eE,mem_of_mem_drop->A8,mem_of_mem_take->A7,mem_range->S6,not_mem_nil->G4,range->x8,flatten_cons->s6,flatten_nil->x9,length->H4,take_length->q8,length_pos_iff->D1,mem_cons_self->wF,getElem?_append_left->X3,getElem?_append_right->L8,getElem?_eq_some_iff->p6,all_append->sL,map_append->E1,getElem?_eq_getElem->i7,take_of_length_le->o6,take_succ_eq_append_getElem->Y6,getElem?_cons_succ->aQ,getElem?_cons_zero->aP,getElem?_drop->bY,getElem?_map->E2,getElem?_range->UN,getElem?_take_of_lt->Pl,mem_iff_getElem->qQ
open List.cons renaming injEq->Sg
open Nat renaming zero_le->j0,eq_zero_or_pos->u9,mod_lt->A6,le_refl->j8,le_trans->q9,mul_le_mul_left->x7,pow_pos->qN,pow_succ->K6,add_zero->E7,mul_one->D7,lt_of_le_of_lt->p8,ble->P9,add_sub_cancel_left->CY,gcd->G8,gcd_dvd_left->CX,gcd_pos_of_pos_right->iD,le_of_dvd->UV,mod_eq_of_lt->C7,pos_of_ne_zero->E4,zero_add->w7,zero_mul->bV,mul_div_cancel_left->Po,one_mul->O8,pow_le_pow_right->E9,two_pow_pos->cC,div_le_self->D0,min_eq_left->T6
open Option.some renaming inj->M0,injEq->l8
namespace Go.Proofs.YtpjhmeicbjkcdaaGreatDoor
open Go Go.RowKit Go.Dw
theorem Sz (w:World) (d:Nat) (x y:Int):(Op.equalIn (d+1) 3 (iQ x) (iQ y)).run Tryz.prog w=.ok (x==y) w:=run_equalIn_int w d 3 .i64 .i64 x y Tryz.underlying3
theorem Tv (w:World) (d:Nat) (x y:d8):(Op.equalIn (d+1) 9 (sv x) (sv y)).run Tryz.prog w=.ok (decide (x=y)) w:=by
 rw[run_equalIn_string w d 9 _ _ Tryz.underlying9,MG,Il]
theorem Tw (w:World) (d:Nat) (x y:d8):(Op.equalIn (d+1) 38 (sv x) (sv y)).run Tryz.prog w=.ok (decide (x=y)) w:=by
 rw[run_equalIn_string w d 38 _ _ Tryz.underlying38,MG,Il]
theorem Uj (w:World) (d:Nat) (a b:V3):(Op.equalIn (d+1+1) 122 (.agg #[iQ a.1,iQ a.2.1,iQ a.2.2]) (.agg #[iQ b.1,iQ b.2.1,iQ b.2.2])).run Tryz.prog w=.ok (decide (a=b)) w:=by
 obtain⟨a1,a2,a3⟩:=a;obtain⟨b1,b2,b3⟩:=b;have hu:(underlying 122).run Tryz.prog w=.ok (.array 3 3) w:=by simp[underlying,Tryz.underlying122]
 have hi:=Sz w d;generalize hd:d+1=e at hi;unfold Op.equalIn;simp only[Sem.run_bind,hu,Result.andThen_ok];simp[Std.Legacy.Range.forIn_eq_forIn_range',part,Tryz.isAgg3,Tryz.sizeOf3,List.range',hi];by_cases h1:a1=b1 <;> by_cases h2:a2=b2 <;> by_cases h3:a3=b3 <;> simp[h1,h2,h3]
theorem Uk (w:World) (d:Nat) (a b:d8×d8×d8):(Op.equalIn (d+1+1) 89 (.agg #[sv a.1,sv a.2.1,sv a.2.2]) (.agg #[sv b.1,sv b.2.1,sv b.2.2])).run Tryz.prog w=.ok (decide (a=b)) w:=by
 obtain⟨a1,a2,a3⟩:=a;obtain⟨b1,b2,b3⟩:=b;have hu:(underlying 89).run Tryz.prog w=.ok (.array 3 38) w:=by simp[underlying,Tryz.underlying89]
 have hi:=Tw w d;generalize hd:d+1=e at hi;unfold Op.equalIn;simp only[Sem.run_bind,hu,Result.andThen_ok];simp[Std.Legacy.Range.forIn_eq_forIn_range',part,Tryz.isAgg38,Tryz.sizeOf38,List.range',hi];by_cases h1:a1=b1 <;> by_cases h2:a2=b2 <;> by_cases h3:a3=b3 <;> simp[h1,h2,h3]
theorem Ul (w:World) (d:Nat) (a b:Int×Int×Int×Int):(Op.equalIn (d+1+1) 87 (.agg #[iQ a.1,iQ a.2.1,iQ a.2.2.1,iQ a.2.2.2]) (.agg #[iQ b.1,iQ b.2.1,iQ b.2.2.1,iQ b.2.2.2])).run Tryz.prog w=.ok (decide (a=b)) w:=by
 obtain⟨a1,a2,a3,a4⟩:=a;obtain⟨b1,b2,b3,b4⟩:=b;have hu:(underlying 87).run Tryz.prog w=.ok (.array 4 3) w:=by simp[underlying,Tryz.underlying87]
 have hi:=Sz w d;generalize hd:d+1=e at hi;unfold Op.equalIn;simp only[Sem.run_bind,hu,Result.andThen_ok];simp[Std.Legacy.Range.forIn_eq_forIn_range',part,Tryz.isAgg3,Tryz.sizeOf3,List.range',hi];by_cases h1:a1=b1 <;> by_cases h2:a2=b2 <;> by_cases h3:a3=b3 <;> by_cases h4:a4=b4 <;> simp[h1,h2,h3,h4]
abbrev Ps:=(Int×Int×Int×Int)×(d8×d8×d8)
abbrev Ts (a:Ps):Array Value:=#[iQ a.1.1,iQ a.1.2.1,iQ a.1.2.2.1,iQ a.1.2.2.2,sv a.2.1,sv a.2.2.1,sv a.2.2.2]
theorem Ue (w:World) (d:Nat) (a b:Ps):(Op.equalIn (d+1+1+1) 91 (.agg (Ts a)) (.agg (Ts b))).run Tryz.prog w=.ok (decide (a=b)) w:=by
 obtain⟨⟨a1,a2,a3,a4⟩,a5,a6,a7⟩:=a;obtain⟨⟨b1,b2,b3,b4⟩,b5,b6,b7⟩:=b;unfold Ts;dsimp only;rw[run_equalIn_struct w _ _ _ _ kr kr];have e:(Tryz.prog.fieldsOf 91).toList = [⟨ "Turn",87,0,false,"","",0⟩,⟨ "Shift",89,4,false,"","",32⟩]:=kr
 have h4:=Ul w d (a1,a2,a3,a4) (b1,b2,b3,b4);have h3:=Uk w d (a5,a6,a7) (b5,b6,b7);dsimp only at h4 h3;have x4 :∀(p q r s x y z:Value),(#[p,q,r,s,x,y,z]:Array Value).extract 0 (0+4) = #[p,q,r,s]:=λp q r s x y z=>rfl;have x3 :∀(p q r s x y z:Value),(#[p,q,r,s,x,y,z]:Array Value).extract 4 (4+3) = #[x,y,z]:=λp q r s x y z=>rfl;have z4:(sizeOf 87).run Tryz.prog w=.ok 4 w:=kr
 have z3:(sizeOf 89).run Tryz.prog w=.ok 3 w:=kr
 rw[e];simp only[Op.eqFields,ne_eq,String.reduceEq,not_false_eq_true,if_true,Sem.run_bind,part,Tryz.isAgg87,Result.andThen_ok,z4,x4,Sem.run_pure];rw[h4];simp only[Result.andThen_ok];by_cases g:(a1,a2,a3,a4)=(b1,b2,b3,b4)
 ·rw[decide_eq_true g];simp only[Sem.run_bind,Tryz.isAgg89,Result.andThen_ok,z3,x3,Sem.run_pure,if_true,if_false,Bool.not_true,wH];rw[show d+2=d+1+1 from rfl,h3];simp only[Result.andThen_ok];by_cases g2:(a5,a6,a7)=(b5,b6,b7) <;> simp[g,g2]
 ·rw[decide_eq_false g];have : ¬ (((a1,a2,a3,a4),a5,a6,a7):Ps)=((b1,b2,b3,b4),b5,b6,b7):=λc=>g (congrArg Prod.fst c);simp[this]
theorem Ug (w:World) (d:Nat) (a b:O7):(Op.equalIn (d+1+1) 48 (.agg #[sv a.1,iQ a.2.1,iQ a.2.2.1,iQ a.2.2.2]) (.agg #[sv b.1,iQ b.2.1,iQ b.2.2.1,iQ b.2.2.2])).run Tryz.prog w=.ok (decide (a=b)) w:=by
 obtain⟨a1,a2,a3,a4⟩:=a;obtain⟨b1,b2,b3,b4⟩:=b;dsimp only;rw[run_equalIn_struct w _ _ _ _ kr kr];have e:(Tryz.prog.fieldsOf 48).toList = [⟨ "Name",9,0,false,"","",0⟩,⟨ "Nominal",3,1,false,"","",16⟩,⟨ "Lower",3,2,false,"","",24⟩,⟨ "Upper",3,3,false,"","",32⟩]:=kr
 have hi:=Sz w d;have hs:=Tv w d;rw[e];simp only[Op.eqFields,ne_eq,String.reduceEq,not_false_eq_true,if_true,Sem.run_bind,part];simp[hi,hs];by_cases h1:a1=b1 <;> by_cases h2:a2=b2 <;> by_cases h3:a3=b3 <;> by_cases h4:a4=b4 <;> simp[h1,h2,h3,h4]
theorem Ud (w:World) (d:Nat) (a b:OF):(Op.equalIn (d+1+1) 80 (.agg #[iQ a.1,sv a.2]) (.agg #[iQ b.1,sv b.2])).run Tryz.prog w=.ok (decide (a=b)) w:=by
 obtain⟨a1,a2⟩:=a;obtain⟨b1,b2⟩:=b;dsimp only;rw[run_equalIn_struct w _ _ _ _ kr kr];have e:(Tryz.prog.fieldsOf 80).toList = [⟨ "Dimension",3,0,false,"","",0⟩,⟨ "Factor",38,1,false,"","",8⟩]:=kr
 have hi:=Sz w d;have hs:=Tw w d;rw[e];simp only[Op.eqFields,ne_eq,String.reduceEq,not_false_eq_true,if_true,Sem.run_bind,part,Tryz.isAgg3,Result.andThen_ok];simp[hi,hs];by_cases h1:a1=b1 <;> by_cases h2:a2=b2 <;> simp[h1,h2]
instance Ie:DecidableEq Ps:=@instDecidableEqProd _ _ inferInstance inferInstance
instance Nj:DecidableEq lW:=@instDecidableEqProd _ _ inferInstance (@instDecidableEqProd _ _ inferInstance Ie)
abbrev Sw (x:lW):Array Value:=#[sv x.1,sv x.2.1,iQ x.2.2.1.1,iQ x.2.2.1.2.1,iQ x.2.2.1.2.2.1,iQ x.2.2.1.2.2.2,sv x.2.2.2.1,sv x.2.2.2.2.1,sv x.2.2.2.2.2]
theorem Uf (w:World) (d:Nat) (a b:lW):(Op.equalIn (d+1+1+1+1) 93 (.agg (Sw a)) (.agg (Sw b))).run Tryz.prog w=.ok (decide (a=b)) w:=by
 obtain⟨a1,a2,a3⟩:=a;obtain⟨b1,b2,b3⟩:=b;have hp:=Ue w d a3 b3;unfold Sw;unfold Ts at hp;dsimp only;rw[run_equalIn_struct w _ _ _ _ kr kr];have e:(Tryz.prog.fieldsOf 93).toList = [⟨ "Name",9,0,false,"","",0⟩,⟨ "Part",9,1,false,"","",16⟩,⟨ "Place",91,2,false,"","",32⟩]:=kr
 have hs:=Tv w (d+1+1);have x7 :∀(a b p q r s x y z:Value),(#[a,b,p,q,r,s,x,y,z]:Array Value).extract 2 (2+7) = #[p,q,r,s,x,y,z]:=λa b p q r s x y z=>rfl;have z7:(sizeOf 91).run Tryz.prog w=.ok 7 w:=kr
 rw[e];simp only[Op.eqFields,ne_eq,String.reduceEq,not_false_eq_true,if_true,Sem.run_bind,part,Tryz.isAgg9,Result.andThen_ok];simp[hs];by_cases h1:a1=b1
 ·by_cases h2:a2=b2
  ·subst h1 h2;simp;rw[show d+3=d+1+1+1 from rfl,hp];simp only[Result.andThen_ok];by_cases g2:a3=b3 <;> simp[g2]
  ·simp[h1,h2]
 ·simp[h1]
end Go.Proofs.YtpjhmeicbjkcdaaGreatDoor
namespace Go.Proofs.YtpjhmeicbjkcdaaGreatDoor
open Go Go.RowKit Go.Dw
noncomputable instance On:DecidableEq Ex:=λa b=>Pq (a=b)
noncomputable instance Ng:DecidableEq kP:=λa b=>Pq (a=b)
instance Om:DecidableEq V3:=@instDecidableEqProd _ _ inferInstance inferInstance
instance Nh:DecidableEq V9:=@instDecidableEqProd _ _ inferInstance (@instDecidableEqProd _ _ inferInstance inferInstance)
noncomputable instance Ni:DecidableEq kR:=λa b=>Pq (a=b)
theorem Tu {s:List Ch} {xo yo:Operand} {a b:V3} {q:TV->Prop} (h:q (.v (.bool (decide (a≠b))))) :
  C9 Tryz.prog s (do eqGuard .neq 122 xo yo (.agg #[iQ a.1,iQ a.2.1,iQ a.2.2]) (.agg #[iQ b.1,iQ b.2.1,iQ b.2.2]);binOp .neq 122 (.agg #[iQ a.1,iQ a.2.1,iQ a.2.2]) (.agg #[iQ b.1,iQ b.2.1,iQ b.2.2])) q:=by
 refine⟨_,λw _=>?_,h⟩;rw[Sem.run_bind,run_eqGuard_agg w _ _ _ _ _ _ Tryz.eqGuardType122];simp only[Result.andThen_ok];have e:=Uj w 9998 a b;rw[run_neq_struct,e];by_cases h1:a=b <;> simp[h1]
theorem Rt {a a':Option Addr} {n c n' c':Nat} {L L':List V3} (w:World) (hL:Sl (E0 ZK) 3 (Hp.whole w) a n c L) (hL':Sl (E0 ZK) 3 (Hp.whole w) a' n' c' L') (hn:n < 1000000000) :
  j2 Tryz.prog 90 #[.slice a n c,.slice a' n' c'] w (v8 w (.bool (decide (L=L')))):=by
 have hlen:=hL.len;have hlen':=hL'.len;refine enterZ (cx 26) [.slice a n c,.slice a' n' c'] [.tmp 4] Tryz.func90 ?_;refine d9 (λhne=>?_) λheq=>?_
 ·refine⟨[],⟨?_,rfl⟩,λw' h=>h⟩;have:L≠L':=λe=>hne (by rw[hlen,hlen',e]);rw[decide_eq_false this]
 have hnn:n=n':=om
 refine z6.mk Nat (λk=>[(0,.v (.slice a n c)),(1,.v (.slice a' n' c')),(12,.v (iQ n)),(13,.v (iQ k))]) (λ_=>[.hp (Hp.whole w)])
  (λk=>k<=n/\L.take k=L'.take k) (λk=>n - k) 0 ⟨j0 _,rfl⟩ (y6.mk (λ_ _ h=>h) rfl rfl) ?_
 rintro k ⟨hk,ho⟩;refine d9 (λhlt=>?_) λhge=>?_
 ·have hlt':k < L.length:=om
  have hlt2:k < L'.length:=om
  refine u6.by_order cQ (.take 0 <| .take 1 <| .take 2 <| .take 3 <| .take 4 <| .take 5 <| .take 6 <| .take 7 <| .take 8 <| .done) kr ?_;refine R2 cQ (e:=122) rfl hL k rfl hlt' λb o cs hcs hR hcell=>?_;subst hR;refine nX cQ (i:=0) rfl hcell rfl ?_;refine R2 cQ (e:=122) rfl hL' k rfl hlt2 λb o cs hcs hR hcell=>?_;subst hR;refine nX cQ (i:=0) rfl hcell rfl ?_;refine Tu (a:=L[k]) (b:=L'[k]) ?_;refine d9 (λhb=>?_) λhb=>?_
  ·refine⟨[],⟨?_,rfl⟩,λw' h=>h⟩;have:L≠L':=λe=>hb (by simp[e]);rw[decide_eq_false this]
  ·refine nwo ?_;exact⟨k+1,⟨om,Py hlt' hlt2 ho (B9.1 hb)⟩,om,y6.mk (λ_ _ h=>h) rfl rfl⟩
 ·refine⟨[],⟨?_,rfl⟩,λw' h=>h⟩;rw[decide_eq_true (Pz (show L.length<=k by omega) (show L'.length<=k by omega) ho)]
theorem Tg {s:List Ch} {xo yo:Operand} {a b:lW} {q:TV->Prop} (h:q (.v (.bool (decide (a≠b))))) :
  C9 Tryz.prog s (do eqGuard .neq 93 xo yo (.agg (Sw a)) (.agg (Sw b));binOp .neq 93 (.agg (Sw a)) (.agg (Sw b))) q:=by
 refine⟨_,λw _=>?_,h⟩;rw[Sem.run_bind,run_eqGuard_agg w _ _ _ _ _ _ Tryz.eqGuardType93];simp only[Result.andThen_ok];have e:=Uf w 9996 a b;rw[run_neq_struct,e];by_cases h1:a=b <;> simp[h1]
theorem Rx {a a':Option Addr} {n c n' c':Nat} {L L':List lW} (w:World) (hL:Sl (E0 fF) 9 (Hp.whole w) a n c L) (hL':Sl (E0 fF) 9 (Hp.whole w) a' n' c' L') (hn:n < 1000000000) :
  j2 Tryz.prog 95 #[.slice a n c,.slice a' n' c'] w (v8 w (.bool (decide (L=L')))):=by
 have hlen:=hL.len;have hlen':=hL'.len;refine enterZ (cx 26) [.slice a n c,.slice a' n' c'] [.tmp 4] Tryz.func95 ?_;refine d9 (λhne=>?_) λheq=>?_
 ·refine⟨[],⟨?_,rfl⟩,λw' h=>h⟩;have:L≠L':=λe=>hne (by rw[hlen,hlen',e]);rw[decide_eq_false this]
 have hnn:n=n':=om
 refine z6.mk Nat (λk=>[(0,.v (.slice a n c)),(1,.v (.slice a' n' c')),(12,.v (iQ n)),(13,.v (iQ k))]) (λ_=>[.hp (Hp.whole w)])
  (λk=>k<=n/\L.take k=L'.take k) (λk=>n - k) 0 ⟨j0 _,rfl⟩ (y6.mk (λ_ _ h=>h) rfl rfl) ?_
 rintro k ⟨hk,ho⟩;refine d9 (λhlt=>?_) λhge=>?_
 ·have hlt':k < L.length:=om
  have hlt2:k < L'.length:=om
  refine u6.by_order cQ (.take 0 <| .take 1 <| .take 2 <| .take 3 <| .take 4 <| .take 5 <| .take 6 <| .take 7 <| .take 8 <| .done) kr ?_;refine R2 cQ (e:=93) rfl hL k rfl hlt' λb o cs hcs hR hcell=>?_;subst hR;refine nX cQ (i:=0) rfl hcell rfl ?_;refine R2 cQ (e:=93) rfl hL' k rfl hlt2 λb o cs hcs hR hcell=>?_;subst hR;refine nX cQ (i:=0) rfl hcell rfl ?_;refine Tg (a:=L[k]) (b:=L'[k]) ?_;refine d9 (λhb=>?_) λhb=>?_
  ·refine⟨[],⟨?_,rfl⟩,λw' h=>h⟩;have:L≠L':=λe=>hb (by simp[e]);rw[decide_eq_false this]
  ·refine nwo ?_;exact⟨k+1,⟨om,Py hlt' hlt2 ho (B9.1 hb)⟩,om,y6.mk (λ_ _ h=>h) rfl rfl⟩
 ·refine⟨[],⟨?_,rfl⟩,λw' h=>h⟩;rw[decide_eq_true (Pz (show L.length<=k by omega) (show L'.length<=k by omega) ho)]
theorem Th {s:List Ch} {xo yo:Operand} {a b:O7} {q:TV->Prop} (h:q (.v (.bool (decide (a≠b))))) :
  C9 Tryz.prog s (do eqGuard .neq 48 xo yo (.agg #[sv a.1,iQ a.2.1,iQ a.2.2.1,iQ a.2.2.2]) (.agg #[sv b.1,iQ b.2.1,iQ b.2.2.1,iQ b.2.2.2]);binOp .neq 48 (.agg #[sv a.1,iQ a.2.1,iQ a.2.2.1,iQ a.2.2.2]) (.agg #[sv b.1,iQ b.2.1,iQ b.2.2.1,iQ b.2.2.2])) q:=by
 refine⟨_,λw _=>?_,h⟩;rw[Sem.run_bind,run_eqGuard_agg w _ _ _ _ _ _ Tryz.eqGuardType48];simp only[Result.andThen_ok];have e:=Ug w 9998 a b;rw[run_neq_struct,e];by_cases h1:a=b <;> simp[h1]
theorem Ry {a a':Option Addr} {n c n' c':Nat} {L L':List O7} (w:World) (hL:Sl (E0 P2) 4 (Hp.whole w) a n c L) (hL':Sl (E0 P2) 4 (Hp.whole w) a' n' c' L') (hn:n < 1000000000) :
  j2 Tryz.prog 96 #[.slice a n c,.slice a' n' c'] w (v8 w (.bool (decide (L=L')))):=by
 have hlen:=hL.len;have hlen':=hL'.len;refine enterZ (cx 26) [.slice a n c,.slice a' n' c'] [.tmp 4] Tryz.func96 ?_;refine d9 (λhne=>?_) λheq=>?_
 ·refine⟨[],⟨?_,rfl⟩,λw' h=>h⟩;have:L≠L':=λe=>hne (by rw[hlen,hlen',e]);rw[decide_eq_false this]
 have hnn:n=n':=om
 refine z6.mk Nat (λk=>[(0,.v (.slice a n c)),(1,.v (.slice a' n' c')),(12,.v (iQ n)),(13,.v (iQ k))]) (λ_=>[.hp (Hp.whole w)])
  (λk=>k<=n/\L.take k=L'.take k) (λk=>n - k) 0 ⟨j0 _,rfl⟩ (y6.mk (λ_ _ h=>h) rfl rfl) ?_
 rintro k ⟨hk,ho⟩;refine d9 (λhlt=>?_) λhge=>?_
 ·have hlt':k < L.length:=om
  have hlt2:k < L'.length:=om
  refine u6.by_order cQ (.take 0 <| .take 1 <| .take 2 <| .take 3 <| .take 4 <| .take 5 <| .take 6 <| .take 7 <| .take 8 <| .done) kr ?_;refine R2 cQ (e:=48) rfl hL k rfl hlt' λb o cs hcs hR hcell=>?_;subst hR;refine nX cQ (i:=0) rfl hcell rfl ?_;refine R2 cQ (e:=48) rfl hL' k rfl hlt2 λb o cs hcs hR hcell=>?_;subst hR;refine nX cQ (i:=0) rfl hcell rfl ?_;refine Th (a:=L[k]) (b:=L'[k]) ?_;refine d9 (λhb=>?_) λhb=>?_
  ·refine⟨[],⟨?_,rfl⟩,λw' h=>h⟩;have:L≠L':=λe=>hb (by simp[e]);rw[decide_eq_false this]
  ·refine nwo ?_;exact⟨k+1,⟨om,Py hlt' hlt2 ho (B9.1 hb)⟩,om,y6.mk (λ_ _ h=>h) rfl rfl⟩
 ·refine⟨[],⟨?_,rfl⟩,λw' h=>h⟩;rw[decide_eq_true (Pz (show L.length<=k by omega) (show L'.length<=k by omega) ho)]
theorem Tf {s:List Ch} {xo yo:Operand} {a b:OF} {q:TV->Prop} (h:q (.v (.bool (decide (a≠b))))) :
  C9 Tryz.prog s (do eqGuard .neq 80 xo yo (.agg #[iQ a.1,sv a.2]) (.agg #[iQ b.1,sv b.2]);binOp .neq 80 (.agg #[iQ a.1,sv a.2]) (.agg #[iQ b.1,sv b.2])) q:=by
 refine⟨_,λw _=>?_,h⟩;rw[Sem.run_bind,run_eqGuard_agg w _ _ _ _ _ _ Tryz.eqGuardType80];simp only[Result.andThen_ok];have e:=Ud w 9998 a b;rw[run_neq_struct,e];by_cases h1:a=b <;> simp[h1]
theorem Ru {a a':Option Addr} {n c n' c':Nat} {L L':List OF} (w:World) (hL:Sl (E0 bO) 2 (Hp.whole w) a n c L) (hL':Sl (E0 bO) 2 (Hp.whole w) a' n' c' L') (hn:n < 1000000000) :
  j2 Tryz.prog 176 #[.slice a n c,.slice a' n' c'] w (v8 w (.bool (decide (L=L')))):=by
 have hlen:=hL.len;have hlen':=hL'.len;refine enterZ (cx 26) [.slice a n c,.slice a' n' c'] [.tmp 4] Tryz.func176 ?_;refine d9 (λhne=>?_) λheq=>?_
 ·refine⟨[],⟨?_,rfl⟩,λw' h=>h⟩;have:L≠L':=λe=>hne (by rw[hlen,hlen',e]);rw[decide_eq_false this]
 have hnn:n=n':=om
 refine z6.mk Nat (λk=>[(0,.v (.slice a n c)),(1,.v (.slice a' n' c')),(12,.v (iQ n)),(13,.v (iQ k))]) (λ_=>[.hp (Hp.whole w)])
  (λk=>k<=n/\L.take k=L'.take k) (λk=>n - k) 0 ⟨j0 _,rfl⟩ (y6.mk (λ_ _ h=>h) rfl rfl) ?_
 rintro k ⟨hk,ho⟩;refine d9 (λhlt=>?_) λhge=>?_
 ·have hlt':k < L.length:=om
  have hlt2:k < L'.length:=om
  refine u6.by_order cQ (.take 0 <| .take 1 <| .take 2 <| .take 3 <| .take 4 <| .take 5 <| .take 6 <| .take 7 <| .take 8 <| .done) kr ?_;refine R2 cQ (e:=80) rfl hL k rfl hlt' λb o cs hcs hR hcell=>?_;subst hR;refine nX cQ (i:=0) rfl hcell rfl ?_;refine R2 cQ (e:=80) rfl hL' k rfl hlt2 λb o cs hcs hR hcell=>?_;subst hR;refine nX cQ (i:=0) rfl hcell rfl ?_;refine Tf (a:=L[k]) (b:=L'[k]) ?_;refine d9 (λhb=>?_) λhb=>?_
  ·refine⟨[],⟨?_,rfl⟩,λw' h=>h⟩;have:L≠L':=λe=>hb (by simp[e]);rw[decide_eq_false this]
  ·refine nwo ?_;exact⟨k+1,⟨om,Py hlt' hlt2 ho (B9.1 hb)⟩,om,y6.mk (λ_ _ h=>h) rfl rfl⟩
 ·refine⟨[],⟨?_,rfl⟩,λw' h=>h⟩;rw[decide_eq_true (Pz (show L.length<=k by omega) (show L'.length<=k by omega) ho)]
theorem Su {a a':Option Addr} {n c n' c':Nat} {x y:List V3} (w:World) (hx:Sl (E0 ZK) 3 (Hp.whole w) a n c x) (hy:Sl (E0 ZK) 3 (Hp.whole w) a' n' c' y) (hn:n < 1000000000) :
  j2 Tryz.prog 89 #[.agg #[.slice a n c],.agg #[.slice a' n' c']] w (v8 w (.bool (decide (x=y)))):=by
 refine enterZ (cx 10) [.agg #[.slice a n c],.agg #[.slice a' n' c']] [.tmp 4] Tryz.func89 ?_;intro b2 b3;refine k7 _ (λw' hm=>Rt w' (hx.mono (j7 _) (hm 0 _ rfl).whole) (hy.mono (j7 _) (hm 0 _ rfl).whole) hn) ?_;exact⟨[],⟨rfl,rfl⟩,pk [0]⟩
set_option maxRecDepth 10000 in
theorem Sa {a a':Option Addr} {n c n' c':Nat} {L L':List (List V3)} (w:World) (hL:Sl GW 1 (Hp.whole w) a n c L) (hL':Sl GW 1 (Hp.whole w) a' n' c' L') (hn:n < 1000000000) (hsm :∀x∈L,x.length < 1000000) :
  j2 Tryz.prog 88 #[.slice a n c,.slice a' n' c',.func (.func 89) #[] #[]] w (v8 w (.bool (decide (L=L')))):=by
 have hlen:=hL.len;have hlen':=hL'.len;refine enterZ (cx 32) [.slice a n c,.slice a' n' c',.func (.func 89) #[] #[]] [.tmp 6] Tryz.func88 ?_;refine d9 (λhne=>?_) λheq=>?_
 ·refine⟨[],⟨?_,rfl⟩,λw' h=>h⟩;have:L≠L':=λe=>hne (by rw[hlen,hlen',e]);rw[decide_eq_false this]
 have hnn:n=n':=om
 refine z6.mk Nat (λk=>[(0,.v (.slice a n c)),(1,.v (.slice a' n' c')),(2,.v (.func (.func 89) #[] #[])),(15,.v (.slice a n c)),(16,.v (iQ n)),(17,.v (iQ k))]) (λ_=>[.hp (Hp.whole w)])
  (λk=>k<=n/\L.take k=L'.take k) (λk=>n - k) 0 ⟨j0 _,rfl⟩ (y6.mk (λ_ _ h=>h) rfl rfl) ?_
 rintro k ⟨hk,ho⟩;refine d9 (λhlt=>?_) λhge=>?_
 ·have hlt':k < L.length:=om
  have hlt2:k < L'.length:=om
  refine R2 cQ (e:=86) rfl hL k rfl hlt' λb o cs hcs hR hcell=>?_;have hR0:=hR;obtain⟨a1,n1,c1,rfl,hs1⟩:=hR;refine nX cQ (i:=0) rfl hcell rfl ?_;intro b8;refine R2 cQ (e:=86) rfl hL' k rfl hlt2 λb o cs hcs hR hcell=>?_;have hR1:=hR;obtain⟨a2,n2,c2,rfl,hs2⟩:=hR;refine nX cQ (i:=0) rfl hcell rfl ?_;intro b9;refine k7 _ (λw' hm=>Su w' (hs1.mono (j7 _) (hm 0 _ rfl).whole) (hs2.mono (j7 _) (hm 0 _ rfl).whole) (by have:=hs1.len;have:=hsm _ (j5 hlt');omega)) ?_;refine v7 (λhb=>?_) λhb=>?_
  ·refine⟨[],⟨?_,rfl⟩,pk [0]⟩;have:L≠L':=λe=>by subst e;simp at hb
   rw[decide_eq_false this]
  ·refine nwo ?_;exact⟨k+1,⟨om,Py hlt' hlt2 ho (by simpa using hb)⟩,by (try dsimp only);omega,y6.mk (pj [0]) rfl rfl⟩
 ·refine⟨[],⟨?_,rfl⟩,λw' h=>h⟩;rw[decide_eq_true (Pz (show L.length<=k by omega) (show L'.length<=k by omega) ho)]
set_option maxRecDepth 10000 in
theorem Ss {a a':Option Addr} {n c n' c':Nat} {x y:V9} (w:World) (hx:Sl GW 1 (Hp.whole w) a n c x.2.2) (hy:Sl GW 1 (Hp.whole w) a' n' c' y.2.2) (hs:Ej x) :
  j2 Tryz.prog 87 #[.agg #[sv x.1,iQ x.2.1,.slice a n c],.agg #[sv y.1,iQ y.2.1,.slice a' n' c']] w (v8 w (.bool (decide (x=y)))):=by
 obtain⟨x1,x2,x3⟩:=x;obtain⟨y1,y2,y3⟩:=y;obtain⟨hs1,hs2⟩:=hs;have hl:=hx.len;dsimp only at hx hy hs1 hs2 hl ⊢;refine enterZ (cx 24) [.agg #[sv x1,iQ x2,.slice a n c],.agg #[sv y1,iQ y2,.slice a' n' c']] [.tmp 4] Tryz.func87 ?_;intro b2 b3;refine dL ?_;refine d9 (λh1=>?_) λh1=>?_
 ·subst h1;refine d9 (λh2=>?_) λh2=>?_
  ·subst h2;refine k7 _ (λw' hm=>Sa w' (hx.mono fN (hm 0 _ rfl).whole) (hy.mono fN (hm 0 _ rfl).whole) om hs2) ?_;exact⟨[],⟨congrArg Value.bool (decide_eq_decide.2 ⟨λe=>by rw[e],λe=>congrArg (λp:V9=>p.2.2) e⟩),rfl⟩,pk [0]⟩
  ·exact⟨[],⟨congrArg Value.bool (decide_eq_false (λe=>h2 (congrArg (λp:V9=>p.2.1) e))).symm,rfl⟩,pk [0]⟩
 ·exact⟨[],⟨congrArg Value.bool (decide_eq_false (λe=>h1 (congrArg (λp:V9=>p.1) e))).symm,rfl⟩,pk [0]⟩
set_option maxRecDepth 10000 in
theorem Rw {a a':Option Addr} {n c n' c':Nat} {L L':List V9} (w:World) (hL:Sl cN 3 (Hp.whole w) a n c L) (hL':Sl cN 3 (Hp.whole w) a' n' c' L') (hn:n < 1000000000) (hsm :∀x∈L,Ej x) :
  j2 Tryz.prog 94 #[.slice a n c,.slice a' n' c',.func (.func 87) #[] #[]] w (v8 w (.bool (decide (L=L')))):=by
 have hlen:=hL.len;have hlen':=hL'.len;refine enterZ (cx 32) [.slice a n c,.slice a' n' c',.func (.func 87) #[] #[]] [.tmp 6] Tryz.func94 ?_;refine d9 (λhne=>?_) λheq=>?_
 ·refine⟨[],⟨?_,rfl⟩,λw' h=>h⟩;have:L≠L':=λe=>hne (by rw[hlen,hlen',e]);rw[decide_eq_false this]
 have hnn:n=n':=om
 refine z6.mk Nat (λk=>[(0,.v (.slice a n c)),(1,.v (.slice a' n' c')),(2,.v (.func (.func 87) #[] #[])),(15,.v (.slice a n c)),(16,.v (iQ n)),(17,.v (iQ k))]) (λ_=>[.hp (Hp.whole w)])
  (λk=>k<=n/\L.take k=L'.take k) (λk=>n - k) 0 ⟨j0 _,rfl⟩ (y6.mk (λ_ _ h=>h) rfl rfl) ?_
 rintro k ⟨hk,ho⟩;refine d9 (λhlt=>?_) λhge=>?_
 ·have hlt':k < L.length:=om
  have hlt2:k < L'.length:=om
  refine R2 cQ (e:=83) rfl hL k rfl hlt' λb o cs hcs hR hcell=>?_;have hR0:=hR;obtain⟨a1,n1,c1,rfl,hs1⟩:=hR;refine nX cQ (i:=0) rfl hcell rfl ?_;intro b8;refine R2 cQ (e:=83) rfl hL' k rfl hlt2 λb o cs hcs hR hcell=>?_;have hR1:=hR;obtain⟨a2,n2,c2,rfl,hs2⟩:=hR;refine nX cQ (i:=0) rfl hcell rfl ?_;intro b9;refine k7 _ (λw' hm=>Ss w' (hs1.mono fN (hm 0 _ rfl).whole) (hs2.mono fN (hm 0 _ rfl).whole) (hsm _ (j5 hlt'))) ?_;refine v7 (λhb=>?_) λhb=>?_
  ·refine⟨[],⟨?_,rfl⟩,pk [0]⟩;have:L≠L':=λe=>by subst e;simp at hb
   rw[decide_eq_false this]
  ·refine nwo ?_;exact⟨k+1,⟨om,Py hlt' hlt2 ho (by simpa using hb)⟩,by (try dsimp only);omega,y6.mk (pj [0]) rfl rfl⟩
 ·refine⟨[],⟨?_,rfl⟩,λw' h=>h⟩;rw[decide_eq_true (Pz (show L.length<=k by omega) (show L'.length<=k by omega) ho)]
theorem Qt {a a':Option Addr} {n c n' c':Nat} {x y:uZ} (w:World) (hx:Sl (E0 bO) 2 (Hp.whole w) a n c x.2) (hy:Sl (E0 bO) 2 (Hp.whole w) a' n' c' y.2) (hn:n < 1000000000) :
  j2 Tryz.prog 92 #[.agg #[sv x.1,.slice a n c],.agg #[sv y.1,.slice a' n' c']] w (v8 w (.bool (decide (x=y)))):=by
 obtain⟨x1,x2⟩:=x;obtain⟨y1,y2⟩:=y;dsimp only at hx hy ⊢;refine enterZ (cx 17) [.agg #[sv x1,.slice a n c],.agg #[sv y1,.slice a' n' c']] [.tmp 4] Tryz.func92 ?_;intro b2 b3;refine dL ?_;refine d9 (λh1=>?_) λh1=>?_
 ·subst h1;refine k7 _ (λw' hm=>Ru w' (hx.mono (j7 _) (hm 0 _ rfl).whole) (hy.mono (j7 _) (hm 0 _ rfl).whole) hn) ?_;exact⟨[],⟨congrArg Value.bool (decide_eq_decide.2 ⟨λe=>by rw[e],λe=>congrArg (λp:uZ=>p.2) e⟩),rfl⟩,pk [0]⟩
 ·exact⟨[],⟨congrArg Value.bool (decide_eq_false (λe=>h1 (congrArg (λp:uZ=>p.1) e))).symm,rfl⟩,pk [0]⟩
theorem St {a a':Option Addr} {n c n' c':Nat} {x y:kT} (w:World) (hx:Sl (E0 bO) 2 (Hp.whole w) a n c x.2.2) (hy:Sl (E0 bO) 2 (Hp.whole w) a' n' c' y.2.2) (hn:n < 1000000000) :
  j2 Tryz.prog 91 #[.agg #[sv x.1,sv x.2.1,.slice a n c],.agg #[sv y.1,sv y.2.1,.slice a' n' c']] w (v8 w (.bool (decide (x=y)))):=by
 obtain⟨x1,x2⟩:=x;obtain⟨y1,y2⟩:=y;dsimp only at hx hy ⊢;refine enterZ (cx 17) [.agg #[sv x1,sv x2.1,.slice a n c],.agg #[sv y1,sv y2.1,.slice a' n' c']] [.tmp 4] Tryz.func91 ?_;intro b2 b3;refine dL ?_;refine d9 (λh1=>?_) λh1=>?_
 ·subst h1;refine k7 _ (λw' hm=>Qt w' (hx.mono (j7 _) (hm 0 _ rfl).whole) (hy.mono (j7 _) (hm 0 _ rfl).whole) hn) ?_;exact⟨[],⟨congrArg Value.bool (decide_eq_decide.2 ⟨λe=>by rw[e],λe=>congrArg (λp:kT=>p.2) e⟩),rfl⟩,pk [0]⟩
 ·exact⟨[],⟨congrArg Value.bool (decide_eq_false (λe=>h1 (congrArg (λp:kT=>p.1) e))).symm,rfl⟩,pk [0]⟩
set_option maxRecDepth 10000 in
theorem Rz {a a':Option Addr} {n c n' c':Nat} {L L':List kT} (w:World) (hL:Sl qF 3 (Hp.whole w) a n c L) (hL':Sl qF 3 (Hp.whole w) a' n' c' L') (hn:n < 1000000000) (hsm :∀x∈L,LR x.2) :
  j2 Tryz.prog 97 #[.slice a n c,.slice a' n' c',.func (.func 91) #[] #[]] w (v8 w (.bool (decide (L=L')))):=by
 have hlen:=hL.len;have hlen':=hL'.len;refine enterZ (cx 32) [.slice a n c,.slice a' n' c',.func (.func 91) #[] #[]] [.tmp 6] Tryz.func97 ?_;refine d9 (λhne=>?_) λheq=>?_
 ·refine⟨[],⟨?_,rfl⟩,λw' h=>h⟩;have:L≠L':=λe=>hne (by rw[hlen,hlen',e]);rw[decide_eq_false this]
 have hnn:n=n':=om
 refine z6.mk Nat (λk=>[(0,.v (.slice a n c)),(1,.v (.slice a' n' c')),(2,.v (.func (.func 91) #[] #[])),(15,.v (.slice a n c)),(16,.v (iQ n)),(17,.v (iQ k))]) (λ_=>[.hp (Hp.whole w)])
  (λk=>k<=n/\L.take k=L'.take k) (λk=>n - k) 0 ⟨j0 _,rfl⟩ (y6.mk (λ_ _ h=>h) rfl rfl) ?_
 rintro k ⟨hk,ho⟩;refine d9 (λhlt=>?_) λhge=>?_
 ·have hlt':k < L.length:=om
  have hlt2:k < L'.length:=om
  refine R2 cQ (e:=96) rfl hL k rfl hlt' λb o cs hcs hR hcell=>?_;have hR0:=hR;obtain⟨a1,n1,c1,rfl,hs1⟩:=hR;refine nX cQ (i:=0) rfl hcell rfl ?_;intro b8;refine R2 cQ (e:=96) rfl hL' k rfl hlt2 λb o cs hcs hR hcell=>?_;have hR1:=hR;obtain⟨a2,n2,c2,rfl,hs2⟩:=hR;refine nX cQ (i:=0) rfl hcell rfl ?_;intro b9;refine k7 _ (λw' hm=>St w' (hs1.mono (j7 _) (hm 0 _ rfl).whole) (hs2.mono (j7 _) (hm 0 _ rfl).whole) (by have:=hs1.len;have:=(hsm _ (j5 hlt')).len;omega)) ?_;refine v7 (λhb=>?_) λhb=>?_
  ·refine⟨[],⟨?_,rfl⟩,pk [0]⟩;have:L≠L':=λe=>by subst e;simp at hb
   rw[decide_eq_false this]
  ·refine nwo ?_;exact⟨k+1,⟨om,Py hlt' hlt2 ho (by simpa using hb)⟩,by (try dsimp only);omega,y6.mk (pj [0]) rfl rfl⟩
 ·refine⟨[],⟨?_,rfl⟩,λw' h=>h⟩;rw[decide_eq_true (Pz (show L.length<=k by omega) (show L'.length<=k by omega) ho)]
end Go.Proofs.YtpjhmeicbjkcdaaGreatDoor
namespace Go.Proofs.YtpjhmeicbjkcdaaGreatDoor
open Go Go.RowKit Go.Dw
def Ui (d:Nat):Prop:=∀(x y:Ex) (cs cs':List Value) (w:World),bE d (Hp.whole w) x cs->bE d (Hp.whole w) y cs'->RA x->j2 Tryz.prog 26 #[.agg cs.toArray,.agg cs'.toArray] w (v8 w (.bool (decide (x=y))))
set_option maxRecDepth 10000 in
theorem Sd {a a':Option Addr} {n c n' c' d:Nat} {L L':List Ex} (w:World) (hL:Sl (bE d) 5 (Hp.whole w) a n c L) (hL':Sl (bE d) 5 (Hp.whole w) a' n' c' L') (hn:n < 1000000000) (ih:Ui d) (hsm :∀x∈L,RA x) :
  j2 Tryz.prog 101 #[.slice a n c,.slice a' n' c',.func (.func 26) #[] #[]] w (v8 w (.bool (decide (L=L')))):=by
 have hlen:=hL.len;have hlen':=hL'.len;refine enterZ (cx 32) [.slice a n c,.slice a' n' c',.func (.func 26) #[] #[]] [.tmp 6] Tryz.func101 ?_;refine d9 (λhne=>?_) λheq=>?_
 ·refine⟨[],⟨?_,rfl⟩,λw' h=>h⟩;have:L≠L':=λe=>hne (by rw[hlen,hlen',e]);rw[decide_eq_false this]
 have hnn:n=n':=om
 refine z6.mk Nat (λk=>[(0,.v (.slice a n c)),(1,.v (.slice a' n' c')),(2,.v (.func (.func 26) #[] #[])),(15,.v (.slice a n c)),(16,.v (iQ n)),(17,.v (iQ k))]) (λ_=>[.hp (Hp.whole w)])
  (λk=>k<=n/\L.take k=L'.take k) (λk=>n - k) 0 ⟨j0 _,rfl⟩ (y6.mk (λ_ _ h=>h) rfl rfl) ?_
 rintro k ⟨hk,ho⟩;refine d9 (λhlt=>?_) λhge=>?_
 ·have hlt':k < L.length:=om
  have hlt2:k < L'.length:=om
  refine R2 cQ (e:=44) rfl hL k rfl hlt' λb o cs hcs hR hcell=>?_;have hR0:=hR;obtain⟨d,rfl⟩ :∃e,d=e+1:=by
   cases d with
   | zero=>exact hR.elim
   | succ d=>exact⟨d,rfl⟩
  obtain⟨X,hX⟩ :∃X,X=L[k]:=⟨_,rfl⟩
  rw[<-hX] at hR;obtain⟨op1,f1,fac1,args1⟩:=X;obtain⟨a1,n1,c1,a2,n2,c2,rfl,_,_⟩:=hR;refine nX cQ (i:=0) rfl hcell rfl ?_;intro b8;refine R2 cQ (e:=44) rfl hL' k rfl hlt2 λb o cs hcs hR hcell=>?_;have hR1:=hR;obtain⟨Y,hY⟩ :∃Y,Y=L'[k]:=⟨_,rfl⟩
  rw[<-hY] at hR;obtain⟨op2,f2,fac2,args2⟩:=Y;obtain⟨a3,n3,c3,a4,n4,c4,rfl,_,_⟩:=hR;refine nX cQ (i:=0) rfl hcell rfl ?_;intro b9;refine k7 _ (λw' hm=>ih _ _ _ _ w' (D6 _ _ _ _ _ (hm 0 _ rfl).whole hR0) (D6 _ _ _ _ _ (hm 0 _ rfl).whole hR1) (hsm _ (j5 hlt'))) ?_;refine v7 (λhb=>?_) λhb=>?_
  ·refine⟨[],⟨?_,rfl⟩,pk [0]⟩;have:L≠L':=λe=>by subst e;simp at hb
   rw[decide_eq_false this]
  ·refine nwo ?_;exact⟨k+1,⟨om,Py hlt' hlt2 ho (by simpa using hb)⟩,by (try dsimp only);omega,y6.mk (pj [0]) rfl rfl⟩
 ·refine⟨[],⟨?_,rfl⟩,λw' h=>h⟩;rw[decide_eq_true (Pz (show L.length<=k by omega) (show L'.length<=k by omega) ho)]
set_option maxRecDepth 10000 in
theorem Qi (d:Nat) (ih :∀d',d=d'+1->Ui d'):Ui d:=by
 intro x y cs cs' w hx hy hs;match d,hx,hy,ih with
 | 0,hx,_,_=>exact hx.elim
 | d+1,hx,hy,ih=>
 obtain⟨x1,x2,x3,x4⟩:=x;obtain⟨y1,y2,y3,y4⟩:=y;cases hs with
 | mk hf _ hna hsa=>
 obtain⟨a1,n1,c1,a2,n2,c2,rfl,hx2,hx4⟩:=hx;obtain⟨a3,n3,c3,a4,n4,c4,rfl,hy2,hy4⟩:=hy;have hl2:=hx2.len;have hl4:=hx4.len;have hf2:=hf.len;have hi:=ih d rfl;have key:decide (Ex.mk x1 x2 x3 x4=Ex.mk y1 y2 y3 y4)=(decide (x1=y1) && (decide (x3=y3) && (decide (x2=y2) && decide (x4=y4)))):=by
  rw[T7];simp only[decide_eq_true_eq,j4,Ex.mk.injEq];exact⟨λ⟨a,b,c,d⟩=>⟨a,c,b,d⟩,λ⟨a,b,c,d⟩=>⟨a,c,b,d⟩⟩
 rw[key];refine enterZ (cx 31) [.agg #[iQ x1,sv x2.1,.slice a1 n1 c1,sv x3,.slice a2 n2 c2],.agg #[iQ y1,sv y2.1,.slice a3 n3 c3,sv y3,.slice a4 n4 c4]] [.tmp 4] Tryz.func26 ?_;intro b2 b3;refine m9 (λ_ kz=>kz _ _ ?_);refine cD [.hp (Hp.whole w),.box b2 [iQ x1,sv x2.1,.slice a1 n1 c1,sv x3,.slice a2 n2 c2] 44,.box b3 [iQ y1,sv y2.1,.slice a3 n3 c3,sv y3,.slice a4 n4 c4] 44] rfl ?_;show Q7 _ _ _ _ _ _
 (iterate 6 refine w1j λK hK=>?_;apply hK);refine sW (by rfl) (by rfl) (by rfl) (λh5_ K hK=>?_) λh5_ K hK=>?_
 ·(iterate 4 apply hK;refine wGYj λK hK=>?_);refine dL ?_;(iterate 2 apply hK;refine w1j λK hK=>?_);apply hK;refine sW (by rfl) (by rfl) (by rfl) (λh12_ K hK=>?_) λh12_ K hK=>?_
  ·(iterate 4 apply hK;refine wGYj λK hK=>?_);refine k7 _ (λw' hm=>Qt (x:=x2) (y:=y2) w' (hx2.mono (j7 _) (hm 0 _ rfl).whole) (hy2.mono (j7 _) (hm 0 _ rfl).whole) om) ?_;(iterate 2 apply hK;refine w1j λK hK=>?_);apply hK;refine sW (by rfl) (by rfl) (by rfl) (λh19_ K hK=>?_) λh19_ K hK=>?_;focus
    (iterate 4 apply hK;refine wGYj λK hK=>?_);refine k7 _ (λw' hm=>Sd w' (hx4.mono (D6 _) (hm 0 _ rfl).whole) (hy4.mono (D6 _) (hm 0 _ rfl).whole) om hi hsa) ?_
   rotate_left
   focus
    (iterate 4 apply hK;refine wGNj λK hK=>?_)
   all_goals
    (iterate 2 apply hK;refine w1j λK hK=>?_);apply hK;refine qX ?_;exact⟨[],⟨congrArg Value.bool (by rw[h5_,h12_,h19_];rfl),rfl⟩,pk [0]⟩
  ·(iterate 4 apply hK;refine wGNj λK hK=>?_);(iterate 2 apply hK;refine w1j λK hK=>?_);(iterate 5 apply hK;refine wGNj λK hK=>?_);(iterate 2 apply hK;refine w1j λK hK=>?_);apply hK;refine qX ?_;exact⟨[],⟨congrArg Value.bool (by rw[h5_,h12_];rfl),rfl⟩,pk [0]⟩
 ·(iterate 4 apply hK;refine wGNj λK hK=>?_);(iterate 2 apply hK;refine w1j λK hK=>?_);(iterate 5 apply hK;refine wGNj λK hK=>?_);(iterate 2 apply hK;refine w1j λK hK=>?_);(iterate 5 apply hK;refine wGNj λK hK=>?_);(iterate 2 apply hK;refine w1j λK hK=>?_);apply hK;refine qX ?_;exact⟨[],⟨congrArg Value.bool (by rw[h5_];rfl),rfl⟩,pk [0]⟩
theorem Qa :∀d,Ui d
 | 0=>Qi 0 (λd' e=>by omega)
 | d+1=>Qi (d+1) (λd' e=>by
  have:d'=d:=om
  subst this;exact Qa d')
end Go.Proofs.YtpjhmeicbjkcdaaGreatDoor
namespace Go.Proofs.YtpjhmeicbjkcdaaGreatDoor
open Go Go.RowKit Go.Dw
theorem Tk {a1 a3 a4 b1 b3 b4:d8} {a2 b2:Ex}:decide (((a1,a2,a3,a4):kP)=(b1,b2,b3,b4))=(decide (a1=b1) && (decide (a3=b3) && (decide (a4=b4) && decide (a2=b2)))):=by
 rw[T7];simp only[decide_eq_true_eq,j4,Prod.mk.injEq];exact⟨λ⟨a,b,c,d⟩=>⟨a,c,d,b⟩,λ⟨a,c,d,b⟩=>⟨a,b,c,d⟩⟩
set_option maxRecDepth 10000 in
theorem Sr {d:Nat} {x y:kP} {x1 y1:Int} {x2 y2 x3 y3:d8} {a a' a1 a1':Option Addr} {n c n' c' n1 c1 n1' c1':Nat} (w:World) (hx:bE d (Hp.whole w) x.2.1 [iQ x1,sv x2,.slice a n c,sv x3,.slice a1 n1 c1]) (hy:bE d (Hp.whole w) y.2.1 [iQ y1,sv y2,.slice a' n' c',sv y3,.slice a1' n1' c1']) (hs:RA x.2.1) :
  j2 Tryz.prog 93 #[.agg #[sv x.1,iQ x1,sv x2,.slice a n c,sv x3,.slice a1 n1 c1,sv x.2.2.1,sv x.2.2.2],.agg #[sv y.1,iQ y1,sv y2,.slice a' n' c',sv y3,.slice a1' n1' c1',sv y.2.2.1,sv y.2.2.2]] w (v8 w (.bool (decide (x=y)))):=by
 obtain⟨p1,p2,p3,p4⟩:=x;obtain⟨q1,q2,q3,q4⟩:=y;dsimp only at hx hy hs ⊢;rw[Tk];have hE:=Qa d;refine enterZ (cx 31) [.agg #[sv p1,iQ x1,sv x2,.slice a n c,sv x3,.slice a1 n1 c1,sv p3,sv p4],.agg #[sv q1,iQ y1,sv y2,.slice a' n' c',sv y3,.slice a1' n1' c1',sv q3,sv q4]] [.tmp 4] Tryz.func93 ?_;intro b2 b3;refine m9 (λ_ kz=>kz _ _ ?_);refine cD [.hp (Hp.whole w),.box b2 [sv p1,iQ x1,sv x2,.slice a n c,sv x3,.slice a1 n1 c1,sv p3,sv p4] 74,.box b3 [sv q1,iQ y1,sv y2,.slice a' n' c',sv y3,.slice a1' n1' c1',sv q3,sv q4] 74] rfl ?_;show Q7 _ _ _ _ _ _
 (iterate 4 refine w1j λK hK=>?_;apply hK);refine w1j λK hK=>?_;refine dL ?_;apply hK;refine w1j λK hK=>?_;apply hK;refine sW (by rfl) (by rfl) (by rfl) (λh5_ K hK=>?_) λh5_ K hK=>?_
 ·(iterate 4 apply hK;refine wGYj λK hK=>?_);refine dL ?_;(iterate 2 apply hK;refine w1j λK hK=>?_);apply hK;refine sW (by rfl) (by rfl) (by rfl) (λh12_ K hK=>?_) λh12_ K hK=>?_
  ·(iterate 4 apply hK;refine wGYj λK hK=>?_);refine dL ?_;(iterate 2 apply hK;refine w1j λK hK=>?_);apply hK;refine sW (by rfl) (by rfl) (by rfl) (λh19_ K hK=>?_) λh19_ K hK=>?_;focus
    (iterate 4 apply hK;refine wGYj λK hK=>?_);refine k7 _ (λw' hm=>hE _ _ _ _ w' (D6 _ _ _ _ _ (hm 0 _ rfl).whole hx) (D6 _ _ _ _ _ (hm 0 _ rfl).whole hy) hs) ?_
   rotate_left
   focus
    (iterate 4 apply hK;refine wGNj λK hK=>?_)
   all_goals
    (iterate 2 apply hK;refine w1j λK hK=>?_);apply hK;refine qX ?_;exact⟨[],⟨congrArg Value.bool (by rw[h5_,h12_,h19_];rfl),rfl⟩,pk [0]⟩
  ·(iterate 4 apply hK;refine wGNj λK hK=>?_);(iterate 2 apply hK;refine w1j λK hK=>?_);(iterate 5 apply hK;refine wGNj λK hK=>?_);(iterate 2 apply hK;refine w1j λK hK=>?_);apply hK;refine qX ?_;exact⟨[],⟨congrArg Value.bool (by rw[h5_,h12_];rfl),rfl⟩,pk [0]⟩
 ·(iterate 4 apply hK;refine wGNj λK hK=>?_);(iterate 2 apply hK;refine w1j λK hK=>?_);(iterate 5 apply hK;refine wGNj λK hK=>?_);(iterate 2 apply hK;refine w1j λK hK=>?_);(iterate 5 apply hK;refine wGNj λK hK=>?_);(iterate 2 apply hK;refine w1j λK hK=>?_);apply hK;refine qX ?_;exact⟨[],⟨congrArg Value.bool (by rw[h5_];rfl),rfl⟩,pk [0]⟩
set_option maxRecDepth 10000 in
theorem Rv {a a':Option Addr} {n c n' c' d:Nat} {L L':List kP} (w:World) (hL:Sl (mK d) 8 (Hp.whole w) a n c L) (hL':Sl (mK d) 8 (Hp.whole w) a' n' c' L') (hn:n < 1000000000) (hsm :∀x∈L,Ei x) :
  j2 Tryz.prog 98 #[.slice a n c,.slice a' n' c',.func (.func 93) #[] #[]] w (v8 w (.bool (decide (L=L')))):=by
 have hlen:=hL.len;have hlen':=hL'.len;refine enterZ (cx 32) [.slice a n c,.slice a' n' c',.func (.func 93) #[] #[]] [.tmp 6] Tryz.func98 ?_;refine d9 (λhne=>?_) λheq=>?_
 ·refine⟨[],⟨?_,rfl⟩,λw' h=>h⟩;have:L≠L':=λe=>hne (by rw[hlen,hlen',e]);rw[decide_eq_false this]
 have hnn:n=n':=om
 refine z6.mk Nat (λk=>[(0,.v (.slice a n c)),(1,.v (.slice a' n' c')),(2,.v (.func (.func 93) #[] #[])),(15,.v (.slice a n c)),(16,.v (iQ n)),(17,.v (iQ k))]) (λ_=>[.hp (Hp.whole w)])
  (λk=>k<=n/\L.take k=L'.take k) (λk=>n - k) 0 ⟨j0 _,rfl⟩ (y6.mk (λ_ _ h=>h) rfl rfl) ?_
 rintro k ⟨hk,ho⟩;refine d9 (λhlt=>?_) λhge=>?_
 ·have hlt':k < L.length:=om
  have hlt2:k < L'.length:=om
  refine R2 cQ (e:=74) rfl hL k rfl hlt' λb o cs hcs hR hcell=>?_;have hR0:=hR;obtain⟨X,hX⟩ :∃X,X=L[k]:=⟨_,rfl⟩
  rw[<-hX] at hR;obtain⟨xs,rfl,hx⟩:=hR;have hx0:=hx;obtain⟨Z,hZ⟩ :∃Z,Z=X.2.1:=⟨_,rfl⟩
  rw[<-hZ] at hx;obtain⟨e,rfl⟩ :∃e,d=e+1:=by
   cases d with
   | zero=>exact hx.elim
   | succ e=>exact⟨e,rfl⟩
  obtain⟨op1,f1,fac1,args1⟩:=Z;obtain⟨a1,n1,c1,a2,n2,c2,rfl,_,_⟩:=hx;have hXs:RA X.2.1:=by rw[hX];exact (hsm _ (j5 hlt')).ex
  refine nX cQ (i:=0) rfl hcell rfl ?_;intro b8;refine R2 cQ (e:=74) rfl hL' k rfl hlt2 λb o cs hcs hR hcell=>?_;have hR1:=hR;obtain⟨Y,hY⟩ :∃Y,Y=L'[k]:=⟨_,rfl⟩
  rw[<-hY] at hR;obtain⟨ys,rfl,hy⟩:=hR;have hy0:=hy;obtain⟨U,hU⟩ :∃U,U=Y.2.1:=⟨_,rfl⟩
  rw[<-hU] at hy;obtain⟨op2,f2,fac2,args2⟩:=U;obtain⟨a3,n3,c3,a4,n4,c4,rfl,_,_⟩:=hy;refine nX cQ (i:=0) rfl hcell rfl ?_;intro b9;refine k7 _ (λw' hm=>Sr (x:=X) (y:=Y) w' (D6 _ _ _ _ _ (hm 0 _ rfl).whole hx0) (D6 _ _ _ _ _ (hm 0 _ rfl).whole hy0) hXs) ?_;refine v7 (λhb=>?_) λhb=>?_
  ·refine⟨[],⟨?_,rfl⟩,pk [0]⟩;have:L≠L':=λe=>by subst e;rw[hX,hY] at hb;simp at hb
   rw[decide_eq_false this]
  ·refine nwo ?_;exact⟨k+1,⟨om,Py hlt' hlt2 ho (by rw[<-hX,<-hY];simpa using hb)⟩,by (try dsimp only);omega,y6.mk (pj [0]) rfl rfl⟩
 ·refine⟨[],⟨?_,rfl⟩,λw' h=>h⟩;rw[decide_eq_true (Pz (show L.length<=k by omega) (show L'.length<=k by omega) ho)]
theorem Tl {a b:kR}:decide (a=b)=(decide (a.nm=b.nm) && (decide (a.parts=b.parts) && (decide (a.insts=b.insts) && (decide (a.dims=b.dims) && (decide (a.cons=b.cons) && decide (a.reqs=b.reqs)))))):=by
 obtain⟨a1,a2,a3,a4,a5,a6⟩:=a;obtain⟨b1,b2,b3,b4,b5,b6⟩:=b;rw[T7];simp only[decide_eq_true_eq,j4,kR.mk.injEq]
set_option maxRecDepth 10000 in
theorem Qc {d:Nat} {p q:kR} {cs cs':List Value} (w:World) (hp:vX d (Hp.whole w) p cs) (hq:vX d (Hp.whole w) q cs') (hs:Ek p) :
  j2 Tryz.prog 24 #[.agg cs.toArray,.agg cs'.toArray] w (v8 w (.bool (decide (p=q)))):=by
 obtain⟨a1,n1,c1,a2,n2,c2,a3,n3,c3,a4,n4,c4,a5,n5,c5,rfl,h1,h2,h3,h4,h5⟩:=hp.ex;obtain⟨u1,m1,e1,u2,m2,e2,u3,m3,e3,u4,m4,e4,u5,m5,e5,rfl,g1,g2,g3,g4,g5⟩:=hq.ex;have l1:=h1.len;have l2:=h2.len;have l3:=h3.len;have l4:=h4.len;have l5:=h5.len;have s1:=hs.np;have s2:=hs.ni;have s3:=hs.nd;have s4:=hs.nc;have s5:=hs.nr;rw[Tl];refine enterZ (cx 55) [.agg #[sv p.nm,.slice a1 n1 c1,.slice a2 n2 c2,.slice a3 n3 c3,.slice a4 n4 c4,.slice a5 n5 c5],.agg #[sv q.nm,.slice u1 m1 e1,.slice u2 m2 e2,.slice u3 m3 e3,.slice u4 m4 e4,.slice u5 m5 e5]] [.tmp 4] Tryz.func24 ?_;intro b2 b3;(iterate 4 refine m9 (λ_ kz=>kz _ _ ?_));refine cD [.hp (Hp.whole w),.box b2 [sv p.nm,.slice a1 n1 c1,.slice a2 n2 c2,.slice a3 n3 c3,.slice a4 n4 c4,.slice a5 n5 c5] 30,.box b3 [sv q.nm,.slice u1 m1 e1,.slice u2 m2 e2,.slice u3 m3 e3,.slice u4 m4 e4,.slice u5 m5 e5] 30] rfl ?_;show Q7 _ _ _ _ _ _
 (iterate 4 refine w1j λK hK=>?_;apply hK);refine w1j λK hK=>?_;refine dL ?_;apply hK;refine w1j λK hK=>?_;apply hK;refine sW (by rfl) (by rfl) (by rfl) (λh5_ K hK=>?_) λh5_ K hK=>?_
 ·(iterate 7 apply hK;refine wGYj λK hK=>?_);refine k7 _ (λw' hm=>Rw w' (h1.mono J0 (hm 0 _ rfl).whole) (g1.mono J0 (hm 0 _ rfl).whole) om hs.sp) ?_;(iterate 2 apply hK;refine w1j λK hK=>?_);apply hK;refine sW (by rfl) (by rfl) (by rfl) (λh15_ K hK=>?_) λh15_ K hK=>?_
  ·(iterate 6 apply hK;refine wGYj λK hK=>?_);refine k7 _ (λw' hm=>Rx w' (h2.mono (j7 _) (hm 0 _ rfl).whole) (g2.mono (j7 _) (hm 0 _ rfl).whole) om) ?_;(iterate 2 apply hK;refine w1j λK hK=>?_);apply hK;refine sW (by rfl) (by rfl) (by rfl) (λh24_ K hK=>?_) λh24_ K hK=>?_
   ·(iterate 4 apply hK;refine wGYj λK hK=>?_);refine k7 _ (λw' hm=>Ry w' (h3.mono (j7 _) (hm 0 _ rfl).whole) (g3.mono (j7 _) (hm 0 _ rfl).whole) om) ?_;(iterate 2 apply hK;refine w1j λK hK=>?_);apply hK;refine sW (by rfl) (by rfl) (by rfl) (λh31_ K hK=>?_) λh31_ K hK=>?_
    ·(iterate 5 apply hK;refine wGYj λK hK=>?_);refine k7 _ (λw' hm=>Rz w' (h4.mono V5 (hm 0 _ rfl).whole) (g4.mono V5 (hm 0 _ rfl).whole) om hs.sc) ?_;(iterate 2 apply hK;refine w1j λK hK=>?_);apply hK;refine sW (by rfl) (by rfl) (by rfl) (λh39_ K hK=>?_) λh39_ K hK=>?_;focus
      (iterate 5 apply hK;refine wGYj λK hK=>?_);refine k7 _ (λw' hm=>Rv w' (h5.mono (O2 d) (hm 0 _ rfl).whole) (g5.mono (O2 d) (hm 0 _ rfl).whole) om hs.sr) ?_
     rotate_left
     focus
      (iterate 5 apply hK;refine wGNj λK hK=>?_)
     all_goals
      (iterate 2 apply hK;refine w1j λK hK=>?_);apply hK;refine qX ?_;exact⟨[],⟨congrArg Value.bool (by rw[h5_,h15_,h24_,h31_,h39_];rfl),rfl⟩,pk [0]⟩
    ·(iterate 5 apply hK;refine wGNj λK hK=>?_);(iterate 2 apply hK;refine w1j λK hK=>?_);(iterate 6 apply hK;refine wGNj λK hK=>?_);(iterate 2 apply hK;refine w1j λK hK=>?_);apply hK;refine qX ?_;exact⟨[],⟨congrArg Value.bool (by rw[h5_,h15_,h24_,h31_];rfl),rfl⟩,pk [0]⟩
   ·(iterate 4 apply hK;refine wGNj λK hK=>?_);(iterate 2 apply hK;refine w1j λK hK=>?_);(iterate 6 apply hK;refine wGNj λK hK=>?_);(iterate 2 apply hK;refine w1j λK hK=>?_);(iterate 6 apply hK;refine wGNj λK hK=>?_);(iterate 2 apply hK;refine w1j λK hK=>?_);apply hK;refine qX ?_;exact⟨[],⟨congrArg Value.bool (by rw[h5_,h15_,h24_];rfl),rfl⟩,pk [0]⟩
  ·(iterate 6 apply hK;refine wGNj λK hK=>?_);(iterate 2 apply hK;refine w1j λK hK=>?_);(iterate 5 apply hK;refine wGNj λK hK=>?_);(iterate 2 apply hK;refine w1j λK hK=>?_);(iterate 6 apply hK;refine wGNj λK hK=>?_);(iterate 2 apply hK;refine w1j λK hK=>?_);(iterate 6 apply hK;refine wGNj λK hK=>?_);(iterate 2 apply hK;refine w1j λK hK=>?_);apply hK;refine qX ?_;exact⟨[],⟨congrArg Value.bool (by rw[h5_,h15_];rfl),rfl⟩,pk [0]⟩
 ·(iterate 7 apply hK;refine wGNj λK hK=>?_);(iterate 2 apply hK;refine w1j λK hK=>?_);(iterate 7 apply hK;refine wGNj λK hK=>?_);(iterate 2 apply hK;refine w1j λK hK=>?_);(iterate 5 apply hK;refine wGNj λK hK=>?_);(iterate 2 apply hK;refine w1j λK hK=>?_);(iterate 6 apply hK;refine wGNj λK hK=>?_);(iterate 2 apply hK;refine w1j λK hK=>?_);(iterate 6 apply hK;refine wGNj λK hK=>?_);(iterate 2 apply hK;refine w1j λK hK=>?_);apply hK;refine qX ?_;exact⟨[],⟨congrArg Value.bool (by rw[h5_];rfl),rfl⟩,pk [0]⟩
end Go.Proofs.YtpjhmeicbjkcdaaGreatDoor
namespace Go.Proofs.YtpjhmeicbjkcdaaGreatDoor
open Go
theorem Sx {s:d8} {T:List mR} {L:List KT} (h:dG s=(T,0,0,0)) (hT:T.map XC=L++[(5,[])]):P7 (uA s) L:=by
 unfold uA;rw[h];exact⟨rfl,hT⟩
theorem Sq {p:kR} (g:vY p) (hl:(gH p).length<=65536):(rG (gH p)).1.e=0/\(rG (gH p)).2=p:=by
 have hb:=Cj g;rw[<-hb] at hl ⊢;obtain⟨T,hT,hs⟩:=Sy (I:=SC p) (e:=[]) (.inl rfl) ((Ed g []).mono λb=>Fo.blk) (by rw[k8];exact hl);rw[k8] at hs;exact Sj g (Sx hs hT)
def Rq (f:Nat->d8):Nat->d8->d8
 | _,[]=>[]
 | i,c::r=>(if c=32 then f i else [c])++Rq f (i+1) r
def Ua (f:Nat->d8):Prop:=∀i,DB (f i)/\((f i).getD 0 0=32\/(f i).getD 0 0=10)
theorem Sf (f:Nat->d8) :∀(a b:d8) (i:Nat),Rq f i (a++b)=Rq f i a++Rq f (i+a.length) b
 | [],b,i=>rfl
 | c::a,b,i=>by
  show (if c=32 then f i else [c])++Rq f (i+1) (a++b)=((if c=32 then f i else [c])++Rq f (i+1) a)++_
  rw[Sf f a b (i+1),f8,d7,show i+1+a.length=i+(a.length+1) by omega]
theorem Tj (f:Nat->d8) :∀(a:d8) (i:Nat),(∀c∈a,c≠32)->Rq f i a=a
 | [],_,_=>rfl
 | c::a,i,h=>by
  show (if c=32 then f i else [c])++Rq f (i+1) a=_
  rw[if_neg (h c sQ),Tj f a (i+1) λd hd=>h d (by simp[hd])];rfl
theorem Sv {f:Nat->d8} (hf:Ua f) :∀(I:List R0) (i:Nat) (r r':d8),Z1 I r->UU r r'->∃I',U6 I'=Rq f i (U6 I)/\N6 I'=N6 I/\qS DB I' r'/\UU (U6 I++r) (U6 I'++r')
 | [],_,_,_,_,h=>⟨[],rfl,rfl,trivial,h⟩
 | .inl x::I,i,r,r',h,hr=>by
  obtain⟨I',e1,e2,e3,e4⟩:=Sv hf I (i+(rM x).length) r r' h.2 hr;refine⟨.inl x::I',?_,?_,⟨cB.rel h.1 e4,e3⟩,?_⟩
  ·show rM x++U6 I'=Rq f i (rM x++U6 I)
   rw[Sf,Tj f _ _ h.1.y.n,e1]
  ·show x::N6 I'=x::N6 I
   rw[e2]
  ·left
   show ((rM x++U6 I')++r').getD 0 0=((rM x++U6 I)++r).getD 0 0
   rw[f8,f8,gS h.1.y.b.1,gS h.1.y.b.1]
 | .inr b::I,i,r,r',h,hr=>by
  obtain⟨I',e1,e2,e3,_⟩:=Sv hf I (i+b.length) r r' h.2 hr;have hb:b = [32]\/b = [10]:=h.1;rcases hb with rfl | rfl
  ·obtain⟨h1,h2⟩:=hf i;refine⟨.inr (f i)::I',?_,e2,⟨h1,e3⟩,?_⟩
   ·show f i++U6 I'=(if (32:UInt8)=32 then f i else [32])++Rq f (i+1) (U6 I)
    rw[if_pos rfl,e1];rfl
   ·have hp:0 < (f i).length:=by
     rcases u9 (f i).length with c | c
     ·rw[F7.1 c] at h2;rcases h2 with h2 | h2 <;> exact absurd h2 dc
     ·exact c
    have hg:((f i++U6 I')++r').getD 0 0=(f i).getD 0 0:=by rw[f8,gS hp]
    rcases h2 with h2 | h2
    ·exact .inl (hg.trans h2)
    ·exact .inr (.inl ⟨rfl,hg.trans h2⟩)
  ·refine⟨.inr [10]::I',?_,e2,⟨.nl .nil,e3⟩,.inl rfl⟩;show [10]++U6 I'=(if (10:UInt8)=32 then f i else [10])++Rq f (i+1) (U6 I)
   rw[if_neg dc,e1];rfl
def Ri:d8:=[35,32,101,110,100]
theorem Td {p:kR} (g:vY p) {f:Nat->d8} (hf:Ua f) (hl:(Rq f 0 (gH p)++Ri).length<=65536):(rG (Rq f 0 (gH p)++Ri)).1.e=0/\(rG (Rq f 0 (gH p)++Ri)).2=p:=by
 have hb:=Cj g;obtain⟨I',e1,e2,e3,_⟩:=Sv hf (SC p) 0 Ri Ri (Ed g Ri) (.inl rfl);rw[hb] at e1;rw[<-e1] at hl ⊢;obtain⟨T,hT,hs⟩:=Sy (I:=I') (e:=Ri) (.inr ⟨[32,101,110,100],rfl,dc⟩) e3 hl;rw[e2] at hT;exact Sj g (Sx hs hT)
def Rn (k:Nat):d8:=[[32],[10],[32,32],[32,35,32,59,32,125,32,34,10]].getD k [32]
theorem Tp (g:Nat->Nat):Ua λi=>Rn (g i % 4):=by
 intro i;dsimp only;have h:g i % 4 < 4:=A6 _ dc;have:g i % 4=0\/g i % 4=1\/g i % 4=2\/g i % 4=3:=om
 rcases this with e | e | e | e <;> rw[e]
 ·exact⟨.sp .nil,.inl rfl⟩
 ·exact⟨.nl .nil,.inr rfl⟩
 ·exact⟨.sp (.sp .nil),.inl rfl⟩
 ·exact⟨.sp (.note (c:=[32,59,32,125,32,34]) dc .nil),.inl rfl⟩
theorem Se (f:Nat->d8) (m:Nat) (hm:1<=m) (hf :∀i,(f i).length<=m) :∀(a:d8) (i:Nat),(Rq f i a).length<=m*a.length
 | [],_=>j0 _
 | c::a,i=>by
  show ((if c=32 then f i else [c])++Rq f (i+1) a).length<=m*(a.length+1)
  rw[d6,Nat.mul_succ];have h1:=Se f m hm hf a (i+1);have h2:(if c=32 then f i else [c]).length<=m:=by
   split
   ·exact hf i
   ·exact hm
  omega
end Go.Proofs.YtpjhmeicbjkcdaaGreatDoor
namespace Go.Proofs.YtpjhmeicbjkcdaaGreatDoor
open Go
theorem dQ {α:Type} {g:α->d8} {m:Nat} :∀{l:List α},(∀x∈l,(g x).length<=m)->(l.flatMap g).length<=m*l.length
 | [],_=>j0 _
 | x::l,h=>by
  rw[u7,d6,d7,Nat.mul_succ];have h1:=h x sQ;have h2:=dQ (l:=l) λy hy=>h y (by simp[hy]);omega
theorem YT {m:Nat} :∀{L:List d8},(∀x∈L,x.length<=m)->(T5 L).length<=(m+2)*L.length
 | [],_=>j0 _
 | [x],h=>by
  have:=h x sQ;show x.length<=(m+2)*1
  omega
 | x::y::r,h=>by
  have h1:=h x sQ;have h2:=YT (L:=y::r) λz hz=>h z (by simp[hz]);show (x++44::32::T5 (y::r)).length<=(m+2)*((y::r).length+1)
  rw[d6,d7,d7,Nat.mul_succ];omega
theorem GJ {s:d8} {m:Nat} (h:s.length<=m):(P0 s).length<=2*m+2:=by
 unfold P0;split
 ·omega
 ·unfold MU;split
  ·exact j0 _
  ·split
   ·exact j0 _
   ·show (34::(F6 s++[34])).length<=_
    rw[d7,d6,p7];have:=QM s;omega
theorem yN {l:List Int} {m:Nat} (h :∀z∈l,(zT z).length<=m):(bN l).length<=(m+2)*l.length+2:=by
 unfold bN;rw[d7,d6,p7];have:=YT (m:=m) (L:=l.map zT) λx hx=>by
  obtain⟨z,hz,rfl⟩:=y7.1 hx;exact h z hz
 rw[j6] at this;omega
theorem XR {n:Nat} {nt:Int->d8} {l:Q4} (hn :∀i:Int,0<=i->i < n->(nt i).length<=14) (h:l.1.natAbs < 1000/\l.2.1.natAbs < 1000/\l.2.2.1.natAbs < 1000/\l.2.2.2.natAbs < 1000):(fD nt (Z5 n l)).length<=120:=by
 obtain⟨_,h1,h2,h3⟩:=GN (n:=n) h;unfold fD;rw[d7,d6,d6,p7];have:=dQ (g:=tA nt) (m:=28) (l:=(Z5 n l).2) λt ht=>by
  obtain⟨t1,t2,t3⟩:=h3 t ht;have hx:=hn t.1 t2 t3;unfold tA;rw[d6,d6];have e3:([32,42,32]:d8).length=3:=rfl;have e1:(if t.2.getD 0 0=45 then ([32,45,32]:d8)++t.2.drop 1 else [32,43,32]++t.2).length<=11:=by
   split
   ·rw[d6,j9];have e:([32,45,32]:d8).length=3:=rfl;omega
   ·rw[d6];have e:([32,43,32]:d8).length=3:=rfl;omega
  omega
 have h4:28*(Z5 n l).2.length<=28*4:=x7 28 h2;omega
theorem PM (op:Int):(jQ op).length<=5:=by
 unfold jQ;repeat' split
 all_goals decide
theorem Gx {n:Nat} {nt:Int->d8} (hn :∀i:Int,0<=i->i < n->(nt i).length<=14) :∀(d:Nat) (l:List Nat) (e:Nat),d+1<=e->(∀x∈l,x < 256)->(H7 nt e (R5 n d l).1).length+20<=140*2 ^ d/\∀x∈(R5 n d l).2,x < 256:=by
 have leaf :∀(l:List Nat) (e:Nat),1<=e->(H7 nt e (.mk 0 (Z5 n (kF l 0,kF l 1,kF l 2,kF l 3)) [] [])).length<=120:=λl e he=>by
  obtain⟨e,rfl⟩ :∃e',e=e'+1:=⟨e - 1,om⟩
  have:H7 nt (e+1) (.mk 0 (Z5 n (kF l 0,kF l 1,kF l 2,kF l 3)) [] [])=fD nt (Z5 n (kF l 0,kF l 1,kF l 2,kF l 3)):=if_pos rfl;rw[this];exact XR hn ⟨mC l 0,mC l 1,mC l 2,mC l 3⟩
 intro d;induction d with
 | zero=>
  intro l e he hx;have:=leaf l e he;exact⟨by show (H7 nt e (.mk 0 (Z5 n (kF l 0,kF l 1,kF l 2,kF l 3)) [] [])).length+20<=140*2 ^ 0;omega,λx hm=>hx x (A8 hm)⟩
 | succ d ih=>
  intro l e he hx;have hp:2 ^ (d+1)=2*2 ^ d:=by rw[K6];omega
  have hp1:1<=2 ^ d:=qN dc;rw[hp];by_cases h0:l = []\/l.getD 0 0 % 6=0
  ·unfold R5;rw[if_pos h0];have:=leaf l e om;exact⟨by dsimp only;omega,λx hm=>hx x (A8 hm)⟩
  ·obtain⟨e,rfl⟩ :∃e',e=e'+1:=⟨e - 1,om⟩
   obtain⟨a1,a2⟩:=ih (l.drop 1) e om (λx hm=>hx x (A8 hm));have h6 : ¬ ((l.getD 0 0 % 6:Nat):Int)=0:=λc=>h0 (.inr om);have hl0:l.getD 0 0 < 256:=by
    cases l with
    | nil=>exact absurd (.inl rfl) h0
    | cons x l=>exact hx x sQ
   have how:=PM ((l.getD 0 0 % 6:Nat):Int);unfold R5;rw[if_neg h0];dsimp only;by_cases h5:l.getD 0 0 % 6=2\/l.getD 0 0 % 6=5\/l.getD 0 0 / 6 % 2=0
   ·rw[if_pos h5];refine⟨?_,a2⟩;have he2:H7 nt (e+1) (.mk ((l.getD 0 0 % 6:Nat):Int) ([],[]) (if l.getD 0 0 % 6=2 then zT ((l.getD 0 0:Int) - 100) else []) [(R5 n d (l.drop 1)).1])=jQ ((l.getD 0 0 % 6:Nat):Int)++((if ((l.getD 0 0 % 6:Nat):Int)=2 then 32::((if l.getD 0 0 % 6=2 then zT ((l.getD 0 0:Int) - 100) else [])++[32]) else [])++(40::(H7 nt e (R5 n d (l.drop 1)).1++[41]))):=if_neg h6;dsimp only;rw[he2,d6,d6,d7,d6,p7];have hf:(if ((l.getD 0 0 % 6:Nat):Int)=2 then (32::((if l.getD 0 0 % 6=2 then zT ((l.getD 0 0:Int) - 100) else [])++[32]):d8) else []).length<=6:=by
     split
     ·have:=mW (z:=(l.getD 0 0:Int) - 100) (k:=3) dc om;rw[d7,d6,p7];split
      ·omega
      ·decide
     ·exact j0 _
    omega
   ·rw[if_neg h5];obtain⟨b1,b2⟩:=ih (R5 n d (l.drop 1)).2 e om a2;refine⟨?_,b2⟩;have h62 : ¬ ((l.getD 0 0 % 6:Nat):Int)=2:=λc=>h5 (.inl om);have he2:H7 nt (e+1) (.mk ((l.getD 0 0 % 6:Nat):Int) ([],[]) [] [(R5 n d (l.drop 1)).1,(R5 n d (R5 n d (l.drop 1)).2).1])=jQ ((l.getD 0 0 % 6:Nat):Int)++((if ((l.getD 0 0 % 6:Nat):Int)=2 then 32::(([]:d8)++[32]) else [])++(40::((H7 nt e (R5 n d (l.drop 1)).1++44::32::H7 nt e (R5 n d (R5 n d (l.drop 1)).2).1)++[41]))):=if_neg h6;dsimp only;rw[he2,if_neg h62,d6,d6,d7,d6,d6,d7,d7,p7];show (jQ _).length+(0+_)+20<=_
    omega
theorem iN {kind:UInt8} (hk:kind∈([112,113,105,100,99,114]:d8)) {i:Nat} (hi:i < 26) (how:Nat):(P0 (gP kind i how)).length<=14:=GJ (dO hk hi how).2
theorem mU {α β:Type} {f:Nat->α->β} {l:List α} {m:Nat} {y:β} (h:y∈(l.take m).zipIdx.map λp=>f p.2 p.1) :∃i x,y=f i x/\i < m/\x∈l:=by
 obtain⟨⟨x,i⟩,hp,rfl⟩:=y7.1 h;have:=List.mem_zipIdx hp;obtain⟨_,h2,h3⟩:=this;refine⟨i,x,rfl,?_,?_⟩
 ·rw[j1] at h2;omega
 ·rw[h3];exact A7 (j5 _)
theorem HN {z:Int} {k:Nat} (hk:0 < k) (h:z.natAbs < 10 ^ k):(zT z).length<=k+1:=mW hk h
theorem Ig {x:Q5} (h4:i8 x.2.2.2.1) (h5:i8 x.2.2.2.2) {c:Nat} (hc:c < 3):(lM (dV x c)).length<=91:=by
 unfold i8 at h4 h5;unfold lM;rw[d6,d6];have hv:u8 x.2.2.1 % 4 < 4:=A6 _ dc;have:=dQ (g:=mZ) (m:=27) (l:=dV x c) λv hv'=>by
  unfold dV at hv';obtain⟨w,hw,rfl⟩:=y7.1 hv';have hw:=S6.1 hw;unfold mZ;rw[d7];have:=yN (m:=6) (l:=[(xH x c w).1,(xH x c w).2.1,(xH x c w).2.2]) λz hz=>by
   unfold xH at hz;simp only[p9,G4,or_false] at hz;rcases hz with rfl | rfl | rfl
   ·exact HN (k:=5) dc om
   ·exact HN (k:=5) dc om
   ·exact HN (k:=5) dc om
  have e:[(xH x c w).1,(xH x c w).2.1,(xH x c w).2.2].length=3:=rfl;rw[e] at this;omega
 have hl:(dV x c).length<=3:=by unfold dV;rw[j6,K7];omega
 have h4:27*(dV x c).length<=27*3:=x7 27 hl;have e1:([32,32,99,101,108,108]:d8).length=6:=rfl;have e2:([59,10]:d8).length=2:=rfl;omega
theorem Gu {how i:Nat} (hi:i < 26) {x:Q5} (h4:i8 x.2.2.2.1) (h5:i8 x.2.2.2.2):(iZ (dF how i x)).length<=300:=by
 unfold iZ dF;dsimp only;have hn:=iN (kind:=113) dc hi (how / 2);have hu:=OU x.1;have hz:=HN (z:=1+(u8 x.1:Int)) (k:=3) dc om;have hm:u8 x.2.1 % 3 < 3:=A6 _ dc;have:=dQ (g:=lM) (m:=91) (l:=(x8 (u8 x.2.1 % 3)).map (dV x)) λc hc=>by
  obtain⟨j,hj,rfl⟩:=y7.1 hc;have hj:=S6.1 hj;exact Ig h4 h5 om
 have hl:((x8 (u8 x.2.1 % 3)).map (dV x)).length<=2:=by rw[j6,K7];omega
 have h4:91*((x8 (u8 x.2.1 % 3)).map (dV x)).length<=91*2:=x7 91 hl;simp only[d6,d7,i6];omega
theorem Hs {how i:Nat} (hi:i < 26) {parts:List V9} (hp :∀p∈parts,(P0 p.1).length<=14) {x:Q6} (h:i8 x.2.2.2.2.2):(jI (bG how parts i x)).length<=200:=by
 unfold i8 at h;unfold jI bG;dsimp only;have hn:=iN (kind:=105) dc hi (how / 4);have hpn:(P0 (parts.getD (u8 x.1 % parts.length) ([],0,[])).1).length<=14:=by
  rw[e8];cases hh:parts[u8 x.1 % parts.length]? with
  | none=>exact q9 (GJ (m:=0) (j8 _)) dc
  | some p=>exact hp p (eE hh)
 obtain⟨_,_,a⟩:=iO (a:=x.2.2.2.2.2) (b:=1) dc dc om;obtain⟨_,_,b⟩:=iO (a:=x.2.2.2.2.2+1) (b:=2) dc dc om;obtain⟨_,_,c⟩:=iO (a:=x.2.2.2.2.2+2) (b:=3) dc dc om;have:=yN (m:=3) (l:=[x.2.1.tmod 13,x.2.2.1.tmod 13,x.2.2.2.1.tmod 13,x.2.2.2.2.1.tmod 13]) λz hz=>by
  simp only[p9,G4,or_false] at hz;rcases hz with rfl | rfl | rfl | rfl <;> exact HN (k:=2) dc (by have:=iI x.2.1;have:=iI x.2.2.1;have:=iI x.2.2.2.1;have:=iI x.2.2.2.2.1;omega)
 have e:[x.2.1.tmod 13,x.2.2.1.tmod 13,x.2.2.2.1.tmod 13,x.2.2.2.2.1.tmod 13].length=4:=rfl;rw[e] at this;simp only[d6,d7,i6];omega
theorem Id {how i:Nat} (hi:i < 26) {x:Int×Int×Int} (h:i8 x.1/\i8 x.2.1/\i8 x.2.2):(lK (eM how i x)).length<=70:=by
 unfold i8 at h;unfold lK eM;dsimp only;have hn:=iN (kind:=100) dc hi (how / 8);have a:=HN (z:=x.1*1000) (k:=6) dc om;have b:=HN (z:=min x.2.1 x.2.2) (k:=3) dc om;have c:=HN (z:=max x.2.1 x.2.2) (k:=3) dc om;simp only[d6,d7,i6];omega
theorem VP {k:UI} (g:HF k):(gH (D4 k)).length<=7000:=by
 have hdn :∀i:Int,(H3 (D4 k).dims i).length<=14:=λi=>by
  unfold H3;rw[e8];cases hh:(D4 k).dims[i.toNat]? with
  | none=>exact q9 (GJ (m:=0) (j8 _)) dc
  | some d=>
   obtain⟨j,x,e,hj,_⟩:=mU (f:=eM k.nm) (eE hh);rw[e];exact iN dc om _
 have hpn :∀p∈(D4 k).parts,(P0 p.1).length<=14:=λp hp=>by
  obtain⟨j,x,e,hj,_⟩:=mU (f:=dF k.nm) hp;rw[e];exact iN dc om _
 have h1:=dQ (g:=iZ) (m:=300) (l:=(D4 k).parts) λp hp=>by
  obtain⟨j,x,e,hj,hx⟩:=mU (f:=dF k.nm) hp;rw[e];exact Gu om (g.p x hx).2.2.2.1 (g.p x hx).2.2.2.2
 have l1:(D4 k).parts.length<=3:=Z2 (dF k.nm) k.parts 3;have h2:=dQ (g:=jI) (m:=200) (l:=(D4 k).insts) λp hp=>by
  have e:(D4 k).insts=U0 k.nm (D4 k).parts k.insts:=rfl;rw[e] at hp;unfold U0 at hp;split at hp
  ·cases hp
  ·obtain⟨j,x,e,hj,hx⟩:=mU (f:=bG k.nm (D4 k).parts) hp;rw[e];exact Hs om hpn (g.i x hx).2.2.2.2.2
 have l2:(D4 k).insts.length<=3:=by
  have e:(D4 k).insts=U0 k.nm (D4 k).parts k.insts:=rfl;rw[e];unfold U0;split
  ·exact j0 _
  ·exact Z2 (bG k.nm (D4 k).parts) k.insts 3
 have h3:=dQ (g:=lK) (m:=70) (l:=(D4 k).dims) λp hp=>by
  obtain⟨j,x,e,hj,hx⟩:=mU (f:=eM k.nm) hp;rw[e];exact Id om (g.d x hx)
 have l3:(D4 k).dims.length<=4:=Z2 (eM k.nm) k.dims 4;have h4:=dQ (g:=mP (D4 k).dims) (m:=160) (l:=(D4 k).cons) λp hp=>by
  obtain⟨j,x,e,hj,hx⟩:=mU (f:=lZ k.nm (D4 k).dims.length) hp;obtain⟨x1,x2,x3,x4⟩:=g.c x hx;unfold i8 at x1 x2 x3 x4;have hf:=XR (n:=(D4 k).dims.length) (nt:=H3 (D4 k).dims) (l:=x) (λi _ _=>hdn i) ⟨om,om,om,om⟩;have hn:=iN (kind:=99) dc (show j < 26 by omega) (k.nm / 16);rw[e];unfold mP lZ;dsimp only;simp only[d6,d7,i6];omega
 have l4:(D4 k).cons.length<=2:=Z2 (lZ k.nm (D4 k).dims.length) k.cons 2;have h5:=dQ (g:=iY (D4 k).dims) (m:=1200) (l:=(D4 k).reqs) λp hp=>by
  obtain⟨j,x,e,hj,hx⟩:=mU (f:=gC k.nm (D4 k).dims.length) hp;obtain⟨ho,_⟩:=Gx (n:=(D4 k).dims.length) (nt:=H3 (D4 k).dims) (λi _ _=>hdn i) 3 x 8 dc (g.g x hx);have hn:=iN (kind:=114) dc (show j < 26 by omega) (k.nm / 32);have h2:140*2 ^ 3=1120:=dc
  rw[h2] at ho;rw[e];unfold iY gC;dsimp only;have e1:(if (if x.length % 2=0 then ([45,55,47,50]:d8) else []) = [] then ([]:d8) else [32,102,114,111,109,32]++(if x.length % 2=0 then ([45,55,47,50]:d8) else [])).length<=10:=by
   by_cases c:x.length % 2=0
   ·rw[if_pos c];decide
   ·rw[if_neg c];decide
  have e2:(if (if x.length % 3=0 then ([49,49]:d8) else []) = [] then ([]:d8) else [32,116,111,32]++(if x.length % 3=0 then ([49,49]:d8) else [])).length<=10:=by
   by_cases c:x.length % 3=0
   ·rw[if_pos c];decide
   ·rw[if_neg c];decide
  rw[d6,d6,d6,d6,d6,d6];have e3:([114,101,113,117,105,114,101,32]:d8).length=8:=rfl;have e4:([58,32]:d8).length=2:=rfl;have e5:([59,10]:d8).length=2:=rfl;omega
 have l5:(D4 k).reqs.length<=2:=Z2 (gC k.nm (D4 k).dims.length) k.gaps 2;have hn:(P0 (D4 k).nm).length<=14:=iN dc (by have:=A6 k.nm (show 0 < 5 by decide);omega) _;unfold gH;rw[d6,d6,d6,d6,d6,d6,d6];have e3:([112,114,111,100,117,99,116,32]:d8).length=8:=rfl;have e4:([59,10]:d8).length=2:=rfl;omega
theorem So {k:UI} (g:HF k):(rG (gH (D4 k))).1.e=0/\(rG (gH (D4 k))).2=D4 k:=Sq (AH (FI g)) (by have:=VP g;omega)
theorem Sb (k:Nat):(Rn k).length<=9:=by
 unfold Rn;have:k=0\/k=1\/k=2\/k=3\/4<=k:=om
 rcases this with rfl | rfl | rfl | rfl | h
 ·decide
 ·decide
 ·decide
 ·decide
 ·rw[e8,cT (by simpa using h)];decide
theorem Tb {k:UI} (g:HF k) (f:Nat->Nat):(rG (Rq (λi=>Rn (f i % 4)) 0 (gH (D4 k))++Ri)).1.e=0/\(rG (Rq (λi=>Rn (f i % 4)) 0 (gH (D4 k))++Ri)).2=D4 k:=
 Td (AH (FI g)) (Tp f) (by
  have h1:=VP g;have h2:=Se (λi=>Rn (f i % 4)) 9 dc (λi=>Sb _) (gH (D4 k)) 0;rw[d6];have e:Ri.length=5:=rfl;omega)
end Go.Proofs.YtpjhmeicbjkcdaaGreatDoor
namespace Go.Proofs.YtpjhmeicbjkcdaaGreatDoor
open Go
theorem bL {s:d8} (h:D8 s=true):(P0 s).length<=82:=GJ (V1 h).2.1
theorem KJ {n:Int} {nt:Int->d8} {f:uZ} (g:mT n f) (hn :∀i:Int,0<=i->i < n->(nt i).length<=82):(fD nt f).length<=31640:=by
 have h0:=N8 g.c;unfold fD;rw[d7,d6,d6,p7];have:=dQ (g:=tA nt) (m:=488) (l:=f.2) λt ht=>by
  obtain⟨⟨t1,t2⟩,t3⟩:=g.all t ht;have hx:=hn t.1 t1 t2;have hy:=N8 t3;unfold tA;rw[d6,d6];have e3:([32,42,32]:d8).length=3:=rfl;have e1:(if t.2.getD 0 0=45 then ([32,45,32]:d8)++t.2.drop 1 else [32,43,32]++t.2).length<=403:=by
   split
   ·rw[d6,j9];have e:([32,45,32]:d8).length=3:=rfl;omega
   ·rw[d6];have e:([32,43,32]:d8).length=3:=rfl;omega
  omega
 have h4:488*f.2.length<=488*64:=x7 488 g.l;omega
theorem KO {n:Int} {nt:Int->d8} {d:Nat} (ih :∀(k:Nat) (x:Ex),(M5 n d k x).1=0->k<=(M5 n d k x).2/\(M5 n d k x).2<=64/\(H7 nt d x).length+2+32100*k<=32100*(M5 n d k x).2) :
  ∀(L:List Ex) (k:Nat),k<=64->(W5 (M5 n d) k L).1=0->k<=(W5 (M5 n d) k L).2/\(W5 (M5 n d) k L).2<=64/\(T5 (L.map (H7 nt d))).length+32100*k<=32100*(W5 (M5 n d) k L).2
 | [],k,hk,_=>by
  unfold W5;exact⟨j8 _,hk,by show 0+32100*k<=32100*k;omega⟩
 | [x],k,hk,he=>by
  unfold W5 at he ⊢;by_cases h0:(M5 n d k x).1=0
  ·rw[if_neg (λc=>c h0)] at he ⊢;unfold W5 at he ⊢;obtain⟨h1,h2,h3⟩:=ih k x h0;exact⟨h1,h2,by show (H7 nt d x).length+32100*k<=32100*(M5 n d k x).2;omega⟩
  ·rw[if_pos h0] at he;exact absurd he h0
 | x::y::r,k,hk,he=>by
  unfold W5 at he ⊢;by_cases h0:(M5 n d k x).1=0
  ·rw[if_neg (λc=>c h0)] at he ⊢;obtain⟨h1,h2,h3⟩:=ih k x h0;obtain⟨g1,g2,g3⟩:=KO ih (y::r) (M5 n d k x).2 h2 he;refine⟨om,g2,?_⟩;show (H7 nt d x++44::32::T5 ((y::r).map (H7 nt d))).length+32100*k<=_
   rw[d6,d7,d7];omega
  ·rw[if_pos h0] at he;exact absurd he h0
theorem KP {n:Int} {nt:Int->d8} (hn :∀i:Int,0<=i->i < n->(nt i).length<=82) :∀(d k:Nat) (x:Ex),(M5 n d k x).1=0->k<=(M5 n d k x).2/\(M5 n d k x).2<=64/\(H7 nt d x).length+2+32100*k<=32100*(M5 n d k x).2
 | 0,k,x,he=>by
  unfold M5 at he;exact absurd he (show ¬ (15:Int)=0 by decide)
 | d+1,k,.mk op f fac args,he=>by
  unfold M5 at he ⊢;split at he
  ·exact absurd he (show ¬ (6:Int)=0 by decide)
  ·rename_i hk
   split at he
   ·rename_i h2;exact absurd he h2
   ·rename_i h2
    have h2:=B9.1 h2;rw[if_neg hk,if_neg (λc=>c h2)];obtain⟨e1,e2,e3⟩:=KO (KP hn d) args (k+1) om he;refine⟨om,e2,?_⟩;by_cases h0:op=0
    ·subst h0;obtain⟨gf,rfl,rfl⟩:=nS h2;have e:H7 nt (d+1) (.mk 0 f [] [])=fD nt f:=if_pos rfl;rw[e];have:=KJ gf hn;omega
    ·obtain⟨ho,_,hfa,hfn,_,_⟩:=AM h0 h2;have e:H7 nt (d+1) (.mk op f fac args)=jQ op++((if op=2 then 32::(fac++[32]) else [])++(40::(T5 (args.map (H7 nt d))++[41]))):=if_neg h0;rw[e,d6,d6,d7,d6,p7];have how:=PM op;have hf:(if op=2 then (32::(fac++[32]):d8) else []).length<=402:=by
      split
      ·rename_i h5
       have:=N8 (hfn h5);rw[d7,d6,p7];omega
      ·exact j0 _
     omega
theorem XQ {n:Int} {nt:Int->d8} (hn :∀i:Int,0<=i->i < n->(nt i).length<=82) {x:Ex} (h:AZ n x=0):(H7 nt 8 x).length<=2054400:=by
 obtain⟨_,h2,h3⟩:=KP hn 8 0 x h;omega
theorem z7 {z:Int} (h:z.natAbs < 10000000000):(zT z).length<=11:=mW (k:=10) dc h
def SB (p:kR):d8:=[112,114,111,100,117,99,116,32]++(P0 p.nm++([59,10]++(p.parts.flatMap iZ++p.insts.flatMap jI)))
theorem IZ {p:kR} (g:vY p):(SB p).length<=400000:=by
 have h1:=dQ (g:=iZ) (m:=5000) (l:=p.parts) λx hx=>by
  have gx:=L6 g.gp.2 x hx;have hn:=bL gx.n;have hz:=z7 (z:=x.2.1) (by have:=gx.d;omega);have:=dQ (g:=lM) (m:=776) (l:=x.2.2) λc hc=>by
   obtain⟨c1,c2⟩:=gx.v c hc;have:=dQ (g:=mZ) (m:=48) (l:=c) λv hv=>by
    obtain⟨v1,v2,v3⟩:=c2 v hv;unfold mZ;rw[d7];have:=yN (m:=11) (l:=[v.1,v.2.1,v.2.2]) λz hz=>by
     simp only[p9,G4,or_false] at hz;rcases hz with rfl | rfl | rfl <;> exact z7 om
    have e:[v.1,v.2.1,v.2.2].length=3:=rfl;rw[e] at this;omega
   unfold lM;rw[d6,d6];have e1:([32,32,99,101,108,108]:d8).length=6:=rfl;have e2:([59,10]:d8).length=2:=rfl;have h4:48*c.length<=48*16:=x7 48 c1;omega
  have h4:776*x.2.2.length<=776*6:=x7 776 gx.c;unfold iZ;simp only[d6,d7,i6];omega
 have h2:=dQ (g:=jI) (m:=1600) (l:=p.insts) λx hx=>by
  have gx:=L6 g.gi.2 x hx;have hn:=bL gx.n;have hp:D8 x.2.1=true:=by
   obtain⟨y,hy,e⟩:=y7.1 gx.p;rw[<-e];exact (L6 g.gp.2 y hy).n
  have hpn:=bL hp;obtain⟨t1,t2,t3,t4⟩:=gx.t;have:=yN (m:=11) (l:=[x.2.2.1.1,x.2.2.1.2.1,x.2.2.1.2.2.1,x.2.2.1.2.2.2]) λz hz=>by
   simp only[p9,G4,or_false] at hz;rcases hz with rfl | rfl | rfl | rfl <;> exact z7 om
  have e:[x.2.2.1.1,x.2.2.1.2.1,x.2.2.1.2.2.1,x.2.2.1.2.2.2].length=4:=rfl;rw[e] at this;have s1:=N8 gx.s.1;have s2:=N8 gx.s.2.1;have s3:=N8 gx.s.2.2;unfold jI;simp only[d6,d7,i6];omega
 have hn:=bL g.gn;have l1:=g.gp.1;have l2:=g.gi.1;unfold SB;simp only[d6,d7,i6];omega
theorem PJ (p:kR):gH p=SB p++(p.dims.flatMap lK++(p.cons.flatMap (mP p.dims)++p.reqs.flatMap (iY p.dims))):=by
 unfold gH SB;simp only[f8]
theorem WL {p:kR} (g:vY p):(gH p).length<=200000000:=by
 have h0:=IZ g;have hd :∀d∈p.dims,D8 d.1=true:=λd h=>(L6 g.gd.2 d h).n;have hnm :∀i:Int,0<=i->i < p.dims.length->(H3 p.dims i).length<=82:=λi i0 i1=>bL (NS hd i0 i1);have h1:=dQ (g:=lK) (m:=200) (l:=p.dims) λx hx=>by
  have gx:=L6 g.gd.2 x hx;have hn:=bL gx.n;obtain⟨a,b,c⟩:=gx.r;have z1:=z7 (z:=x.2.1) om;have z2:=z7 (z:=x.2.2.1) om;have z3:=z7 (z:=x.2.2.2) om;unfold lK;simp only[d6,d7,i6];omega
 have hc:=L6 (Q:=λx:kT=>D8 x.1=true/\mT p.dims.length x.2) g.gc.2;have h2:=dQ (g:=mP p.dims) (m:=32000) (l:=p.cons) λx hx=>by
  obtain⟨c1,c2⟩:=hc x hx;have hn:=bL c1;have hf:=KJ c2 hnm;unfold mP;simp only[d6,d7,i6];omega
 have h3:=dQ (g:=iY p.dims) (m:=2060000) (l:=p.reqs) λx hx=>by
  have gx:=L6 g.gr.2 x hx;have hn:=bL gx.nm;have hg:=XQ hnm gx.g;have e1:(if x.2.2.1 = [] then ([]:d8) else [32,102,114,111,109,32]++x.2.2.1).length<=410:=by
   split
   ·decide
   ·rename_i c
    have:=N8 (gx.l.resolve_left c);rw[d6];have e:([32,102,114,111,109,32]:d8).length=6:=rfl;omega
  have e2:(if x.2.2.2 = [] then ([]:d8) else [32,116,111,32]++x.2.2.2).length<=410:=by
   split
   ·decide
   ·rename_i c
    have:=N8 (gx.h.resolve_left c);rw[d6];have e:([32,116,111,32]:d8).length=4:=rfl;omega
  unfold iY;rw[d6,d6,d6,d6,d6,d6];have e3:([114,101,113,117,105,114,101,32]:d8).length=8:=rfl;have e4:([58,32]:d8).length=2:=rfl;have e5:([59,10]:d8).length=2:=rfl;omega
 have l1:=g.gd.1;have l2:=g.gc.1;have l3:=g.gr.1;rw[PJ,d6,d6,d6];omega
end Go.Proofs.YtpjhmeicbjkcdaaGreatDoor
namespace Go.Proofs.YtpjhmeicbjkcdaaGreatDoor
open Go Go.RowKit Go.Dw
theorem SN {body:(Dw.Ex->Tm->List Ch->Prop)->Tm->List Ch->Prop} {Q:Dw.Ex->Tm->List Ch->Prop} {t:Tm} {s:List Ch} (h:HG s->z6 body Q t s):z6 body Q t s:=by
 by_cases hs:HG s
 ·exact h hs
 ·exact z6.mkS Unit (λ_=>t) (λ_=>s) (λ_=>True) (λ_=>0) () trivial (λn w0 w a hok _=>absurd ⟨w0,w,hok⟩ hs) (λg _ hsat=>absurd hsat hs)
section
variable {s:List Ch} {i b:Nat} {h:Hp} {dv:Value} {t:d8} {q:TV->List Ch->Prop}
theorem Fi {c k bb T m off:Nat} {H:Hp} {cs:List Value} {L:List Int} (hi:l7 s i=some (.hp h)) (hI:mS h b dv t) (hc:l7 s c=some (.hp H)) (hci:c≠i) (hk:l7 s k=some (.box bb cs T)) (hki:k≠i)
  (hcs :∀x (hx:x < L.length),cs[off+x]?=some (iQ L[x])) (hm:m=L.length) (hP:dY H) (h0:0 < L.length) (hn:L.length < 1000) (hz :∀z∈L,NQ z) (hlen:t.length+(bN L).length < 1000000)
  (hq :∀v h',mS h' b dv (t++bN L)->q v (w8 s i (.hp h'))):P4 Tryz.prog s 59 [pQ b,.slice (some ⟨bb,off,none⟩) m m] q:=by
 subst hm;refine k6 (i:=i) hi (λw0 w hok=>SV w (hok.mem i _ hi) hI (Sl.mono (j7 _) (Hp.le_minus (hok.mem k _ hk).whole (hok.disj k i _ _ hki hk hi)) (MJ (f:=Jc) (off:=off) (λ_=>rfl) (λkk hkk jj v hv=>?_))) (hP.mono (Hp.le_minus (hok.mem c _ hc).whole (hok.disj c i _ _ hci hc hi))) h0 hn hz hlen) ?_
 ·match jj,hv with
  | 0,hv=>
   have hv:some (Value.int .i64 L[kk])=some v:=hv;rw[D7,E7,<-hv];exact hcs kk hkk
 ·rintro v h' _ ⟨rfl,hI2⟩;rw[k8];exact hq _ _ hI2
theorem Km {c:Nat} {H:Hp} {ad a:Option Addr} {nd cd n c':Nat} {D:List O7} {f:uZ} (hi:l7 s i=some (.hp h)) (hI:mS h b (.slice ad nd cd) t) (hc:l7 s c=some (.hp H)) (hci:c≠i)
  (hL:Sl (E0 bO) 2 H a n c' f.2) (hD:Sl (E0 P2) 4 H ad nd cd D) (hn:f.2.length < 1000000) (hdn :∀d∈D,d.1.length < 1000000) (hix :∀x∈f.2,0<=x.1/\x.1 < D.length) (hlen:t.length+(fD (H3 D) f).length < 1000000000)
  (hq :∀v h',mS h' b (.slice ad nd cd) (t++fD (H3 D) f)->q v (w8 s i (.hp h'))):P4 Tryz.prog s 60 [pQ b,.agg #[sv f.1,.slice a n c']] q:=by
 refine k6 (i:=i) hi (λw0 w hok=>EE (fc:=f.1) (L:=f.2) w (hok.mem i _ hi) hI (hL.mono (j7 _) (Hp.le_minus (hok.mem c _ hc).whole (hok.disj c i _ _ hci hc hi))) (hD.mono (j7 _) (Hp.le_minus (hok.mem c _ hc).whole (hok.disj c i _ _ hci hc hi))) hn hdn hix hlen) ?_;rintro v h' _ ⟨rfl,hI2⟩;rw[k8];exact hq _ _ hI2
theorem Ko {c d e:Nat} {H:Hp} {ad:Option Addr} {nd cd:Nat} {D:List O7} {x:Ex} {xs:List Value} (hi:l7 s i=some (.hp h)) (hI:mS h b (.slice ad nd cd) t) (hc:l7 s c=some (.hp H)) (hci:c≠i)
  (hx:bE e H x xs) (hD:Sl (E0 P2) 4 H ad nd cd D) (hg:UY D.length d x) (hs:RA x) (hdn :∀d∈D,d.1.length < 1000000) (hlen:t.length+(H7 (H3 D) d x).length < 1000000000)
  (hq :∀v h',mS h' b (.slice ad nd cd) (t++H7 (H3 D) d x)->q v (w8 s i (.hp h'))):P4 Tryz.prog s 61 [pQ b,.agg xs.toArray] q:=by
 refine k6 (i:=i) hi (λw0 w hok=>EG hdn d e _ t x xs w (hok.mem i _ hi) hI hg hs (D6 e _ _ _ _ (Hp.le_minus (hok.mem c _ hc).whole (hok.disj c i _ _ hci hc hi)) hx) (hD.mono (j7 _) (Hp.le_minus (hok.mem c _ hc).whole (hok.disj c i _ _ hci hc hi))) hlen) ?_;rintro v h' _ ⟨rfl,hI2⟩;rw[k8];exact hq _ _ hI2
end
theorem pL {z:Int} (h:z.natAbs < 9000000000000000000):NQ z:=by unfold NQ;omega
theorem GV {x:d8} (h:decide (x≠[])=false):x = []:=j3 λc=>by rw[decide_eq_true c] at h;cases h
theorem GI {x:d8} (h:decide (x≠[])=true) : ¬ x = []:=of_decide_eq_true h
set_option maxRecDepth 10000 in
set_option maxHeartbeats 4000000 in
theorem BW {d:Nat} {p:kR} {cs:List Value} (w:World) (hp:vX d (Hp.whole w) p cs) (hs:Ek p) (hT:dY (Hp.whole w)) :
  j2 Tryz.prog 13 #[.agg cs.toArray] w (v8 w (.tuple #[sv (SA p).1,iQ (SA p).2])):=by
 have hp':=hp;obtain⟨a1,n1,c1,a2,n2,c2,a3,n3,c3,a4,n4,c4,a5,n5,c5,rfl,h1,h2,h3,h4,h5⟩:=hp.ex;have hl1:=h1.len;have hl2:=h2.len;have hl3:=h3.len;have hl4:=h4.len;have hl5:=h5.len;refine enterZ (cx 205) [.agg #[sv p.nm,.slice a1 n1 c1,.slice a2 n2 c2,.slice a3 n3 c3,.slice a4 n4 c4,.slice a5 n5 c5]] [.tmp 2,.tmp 3] Tryz.func13 ?_;obtain⟨c0,hc0⟩ :∃c0,c0=Hp.whole w:=⟨_,rfl⟩
 rw[<-hc0] at h1 h2 h3 h4 h5 hT hp' ⊢;intro b1;refine k7 _ (λw' hm=>OO w' (hp'.mono (hm 0 _ rfl).whole) hs) ?_;unfold SA;refine d9 (λg1=>?_) λg1=>?_
 ·rw[if_pos g1];exact⟨[],⟨rfl,rfl⟩,pk [0]⟩
 rw[if_neg g1];have g:vY p:=AH (B9.1 g1);have hdn :∀d∈p.dims,d.1.length < 1000000:=λd hd=>by have:=(V1 (L6 g.gd.2 d hd).n).2.1;omega
 have q1:=g.gp.1;have q2:=g.gi.1;have q3:=g.gd.1;have q4:=g.gc.1;have q5:=g.gr.1;have hpre:=IZ g;have hall:=WL g;have hpe:=PJ p;intro b29;refine k7 _ (λw' hm=>Y3 p.nm hs.nm w') ?_;intro b34;have hnm:=bL g.gn;refine Jv (i:=2) (k:=3) (fl:=.pointer none) (L:=[[112,114,111,100,117,99,116,32],P0 p.nm,[59,10]]) rfl rfl dc (.inl rfl) rfl sQ (by simp only[s6,x9,d6,d7,i6];omega) λv fl0 o0 hfl0 ho0=>?_;obtain⟨hd0,hhd⟩ :∃x,x=([[112,114,111,100,117,99,116,32],P0 p.nm,[59,10]]:List d8).flatten:=⟨_,rfl⟩
 rw[<-hhd] at ho0;have hP:SB p=hd0++(p.parts.flatMap iZ++p.insts.flatMap jI):=by rw[hhd];unfold SB;simp
 rw[hP] at hpre hpe;have hpl:=congrArg H4 hpe;simp only[d6] at hpre hpl;refine SN λhsat=>?_;have hdj0:(Ch.box b29 [fl0,o0.v,.slice a3 n3 c3] 118).h.dj o0.h:=by
  obtain⟨w0,w1,hok⟩:=hsat;exact hok.disj 2 4 _ _ dc rfl rfl
 refine z6.mk (Nat×Hp) (λg=>[(1,.bx 2 0),(5,.v (pQ b29)),(38,.v (.slice a1 n1 c1)),(39,.v (iQ n1)),(40,.v (iQ g.1))]) (λg=>[.hp c0,.hp g.2,.box b1 [sv p.nm,.slice a1 n1 c1,.slice a2 n2 c2,.slice a3 n3 c3,.slice a4 n4 c4,.slice a5 n5 c5] 30])
  (λg=>g.1<=n1/\mS g.2 b29 (.slice a3 n3 c3) (hd0++(p.parts.take g.1).flatMap iZ)) (λg=>n1 - g.1) (0,(Ch.box b29 [fl0,o0.v,.slice a3 n3 c3] 118).h.join o0.h) ⟨j0 _,fl0,o0,rfl,hdj0,hfl0,by simpa using ho0⟩ (y6.mk (λ_ _ h=>Ok.join (c:=.hp c0) (d:=.box b29 [fl0,o0.v,.slice a3 n3 c3] 118) (e:=.hp o0.h) (s:=[.box b1 [sv p.nm,.slice a1 n1 c1,.slice a2 n2 c2,.slice a3 n3 c3,.slice a4 n4 c4,.slice a5 n5 c5] 30]) (h.pick [0,2,4,1] rfl rfl)) rfl rfl) ?_
 rintro⟨k,h⟩ ⟨hk,hI⟩;dsimp only at hk hI ⊢;refine d9 (λg2=>?_) λg2=>?_
 ·have hkl:k < p.parts.length:=om
  obtain⟨⟨nm,dens,cells⟩,hx⟩ :∃x,x=p.parts[k]:=⟨_,rfl⟩
  have hxm:(nm,dens,cells)∈p.parts:=by rw[hx];exact j5 hkl
  have gx:=L6 g.gp.2 _ hxm;have hcc:cells.length<=6:=gx.c;have hfle:=xB (g:=iZ) hkl;have hft:=fE (g:=iZ) hkl;rw[<-hx] at hfle hft;have hxl:(iZ (nm,dens,cells)).length=5+((P0 nm).length+(9+((zT dens).length+(3+((cells.flatMap lM).length+2))))):=by unfold iZ;simp only[d6,d7,i6]
  refine R2 cQ (e:=83) rfl h1 k rfl hkl λb9 o9 cs hcs hR hcell=>?_;rw[<-hx] at hR;obtain⟨ac,nc,cc,rfl,hcel⟩:=hR;have hcl:=hcel.len;dsimp only at hcl hcel;refine nX cQ (i:=0) rfl hcell rfl ?_;intro b7;refine u6.by_order0 cQ (.take 0 <| .take 1 <| .take 2 <| .take 4 <| .take 5 <| .run 3 <| .run 6 <| .run 7 <| .run 8 <| .done) kr (J5 _ 1) ?_;refine k7 _ (λw' hm=>Y3 nm (by have:=(V1 gx.n).2.1;dsimp only at this;omega) w') ?_;refine⟨sK,?_⟩;refine k7 _ (λw' hm=>gQ dens (pL (by have:=gx.d;dsimp only at this;omega)) w' (hT.mono (hm 0 _ rfl).whole)) ?_;refine⟨sK,?_⟩;intro b51;refine⟨sK,?_⟩;refine aI (i:=1) (j:=4) dc rfl hI (L:=[[112,97,114,116,32],P0 nm,[32,100,101,110,115,105,116,121,32],zT dens,[32,123,10]]) rfl rfl sQ (by simp only[s6,x9,d6,d7,i6];omega) λv h hI=>?_;refine⟨sK,?_⟩;obtain⟨T2,hT2⟩ :∃T2,T2=hd0++(p.parts.take k).flatMap iZ++([[112,97,114,116,32],P0 nm,[32,100,101,110,115,105,116,121,32],zT dens,[32,123,10]]:List d8).flatten:=⟨_,rfl⟩
  rw[<-hT2] at hI;have hT2l:T2.length=hd0.length+((p.parts.take k).flatMap iZ).length+(5+((P0 nm).length+(9+((zT dens).length+3)))):=by rw[hT2];simp only[s6,x9,d6,d7,i6]
  refine z6.mk (Nat×Hp) (λg=>[(1,.bx 2 0),(5,.v (pQ b29)),(38,.v (.slice a1 n1 c1)),(39,.v (iQ n1)),(40,.v (iQ k)),(54,.v (.slice ac nc cc)),(55,.v (iQ nc)),(56,.v (iQ g.1))]) (λg=>[.hp c0,.hp g.2,.box b1 [sv p.nm,.slice a1 n1 c1,.slice a2 n2 c2,.slice a3 n3 c3,.slice a4 n4 c4,.slice a5 n5 c5] 30])
   (λg=>g.1<=nc/\mS g.2 b29 (.slice a3 n3 c3) (T2++(cells.take g.1).flatMap lM)) (λg=>nc - g.1) (0,h) ⟨j0 _,by simpa using hI⟩ (y6.mk (pj [0,1,2]) rfl rfl) ?_
  rintro⟨j,h⟩ ⟨hj,hI⟩;dsimp only at hj hI ⊢;refine d9 (λg3=>?_) λg3=>?_
  ·have hjl:j < cells.length:=om
   obtain⟨c,hc⟩ :∃c,c=cells[j]:=⟨_,rfl⟩
   have hcm:c∈cells:=by rw[hc];exact j5 hjl
   obtain⟨hc16,hcv⟩:=gx.v c hcm;have hcle:=xB (g:=lM) hjl;have hct:=fE (g:=lM) hjl;rw[<-hc] at hcle hct;have hcl2:(lM c).length=6+((c.flatMap mZ).length+2):=by unfold lM;simp only[d6,d7,i6]
   refine R2 cQ (e:=86) rfl hcel j rfl hjl λb9 o9 cs hcs hR hcell=>?_;rw[<-hc] at hR;obtain⟨av,nv,cv,rfl,hver⟩:=hR;have hvl:=hver.len;refine nX cQ (i:=0) rfl hcell rfl ?_;intro b9' b61;refine aI (i:=1) (j:=4) dc rfl hI (L:=[[32,32,99,101,108,108]]) rfl rfl sQ (by simp only[s6,x9,d6,d7,i6];omega) λv h hI=>?_;obtain⟨T3,hT3⟩ :∃T3,T3=T2++(cells.take j).flatMap lM++([[32,32,99,101,108,108]]:List d8).flatten:=⟨_,rfl⟩
   rw[<-hT3] at hI;have hT3l:T3.length=T2.length+((cells.take j).flatMap lM).length+6:=by rw[hT3];simp only[s6,x9,d6,d7,i6]
   refine z6.mk (Nat×Hp) (λg=>[(1,.bx 2 0),(5,.v (pQ b29)),(38,.v (.slice a1 n1 c1)),(39,.v (iQ n1)),(40,.v (iQ k)),(54,.v (.slice ac nc cc)),(55,.v (iQ nc)),(56,.v (iQ j)),(64,.v (.slice av nv cv)),(65,.v (iQ nv)),(66,.v (iQ g.1))]) (λg=>[.hp c0,.hp g.2,.box b1 [sv p.nm,.slice a1 n1 c1,.slice a2 n2 c2,.slice a3 n3 c3,.slice a4 n4 c4,.slice a5 n5 c5] 30])
    (λg=>g.1<=nv/\mS g.2 b29 (.slice a3 n3 c3) (T3++(c.take g.1).flatMap mZ)) (λg=>nv - g.1) (0,h) ⟨j0 _,by simpa using hI⟩ (y6.mk (pj [0,1,2]) rfl rfl) ?_
   rintro⟨m,h⟩ ⟨hm,hI⟩;dsimp only at hm hI ⊢;refine d9 (λg4=>?_) λg4=>?_
   ·have hml:m < c.length:=om
    obtain⟨⟨x,y,z⟩,hv⟩ :∃v,v=c[m]:=⟨_,rfl⟩
    obtain⟨v1,v2,v3⟩:=hcv (x,y,z) (by rw[hv];exact j5 hml);dsimp only at v1 v2 v3;have hvle:=xB (g:=mZ) hml;have hvt:=fE (g:=mZ) hml;rw[<-hv] at hvle hvt;have hvl2:(mZ (x,y,z)).length=(bN [x,y,z]).length+1:=by unfold mZ;rw[d7]
    refine R2 cQ (e:=122) rfl hver m rfl hml λb9 o9 cs hcs hR hcell=>?_;rw[<-hv] at hR;have hR:cs = [iQ x,iQ y,iQ z]:=hR;subst hR;refine nX cQ (i:=0) rfl hcell rfl ?_;intro b11 b71;refine aI (i:=1) (j:=4) dc rfl hI (L:=[[32]]) rfl rfl sQ (by simp only[s6,x9,d6,d7,i6];omega) λv h hI=>?_;refine Lt cQ rfl rfl (e:=3) rfl ?_;refine Fi (i:=1) (c:=0) (k:=3) (off:=0) (L:=[x,y,z]) rfl hI rfl dc rfl dc (λx hx=>by
     match x,hx with
     | 0,_=>rfl
     | 1,_=>rfl
     | 2,_=>rfl
     | n+3,hx=>exact absurd hx sQ) rfl hT sQ sQ (λz hz=>by
     simp only[p9,G4,or_false] at hz;rcases hz with rfl | rfl | rfl <;> exact pL om) (by simp only[s6,x9,d6,d7,i6];omega) λv h hI=>?_
    refine nwo ?_;refine⟨(m+1,h),⟨by dsimp only;omega,?_⟩,by dsimp only;omega,y6.mk (pj [0,1,2]) rfl rfl⟩;dsimp only;have e:T3++(c.take (m+1)).flatMap mZ=T3++(c.take m).flatMap mZ++([[32]]:List d8).flatten++bN [x,y,z]:=by rw[hvt];unfold mZ;simp
    rw[e];exact hI
   ·have hm2:m=c.length:=om
    subst hm2;rw[q8] at hI;intro b78;refine aI (i:=1) (j:=3) dc rfl hI (L:=[[59,10]]) rfl rfl sQ (by simp only[s6,x9,d6,d7,i6];omega) λv h hI=>?_;refine nwo ?_;refine⟨(j+1,h),⟨by dsimp only;omega,?_⟩,by dsimp only;omega,y6.mk (pj [0,1,2]) rfl rfl⟩;dsimp only;have e:T2++(cells.take (j+1)).flatMap lM=T3++c.flatMap mZ++([[59,10]]:List d8).flatten:=by rw[hct,hT3];unfold lM;simp
    rw[e];exact hI
  ·have hj2:j=cells.length:=om
   subst hj2;rw[q8] at hI;intro b82;refine aI (i:=1) (j:=3) dc rfl hI (L:=[[125,10]]) rfl rfl sQ (by simp only[s6,x9,d6,d7,i6];omega) λv h hI=>?_;refine nwo ?_;refine⟨(k+1,h),⟨by dsimp only;omega,?_⟩,by dsimp only;omega,y6.mk (pj [0,1,2]) rfl rfl⟩;dsimp only;have e:hd0++(p.parts.take (k+1)).flatMap iZ=T2++cells.flatMap lM++([[125,10]]:List d8).flatten:=by rw[hft,hT2];unfold iZ;simp
   rw[e];exact hI
 have hk2:k=p.parts.length:=om
 subst hk2;rw[q8] at hI;clear g2 hk;obtain⟨B1,hB1⟩ :∃x,x=hd0++p.parts.flatMap iZ:=⟨_,rfl⟩
 rw[<-hB1] at hI;have lB1:B1.length=hd0.length+(p.parts.flatMap iZ).length:=by rw[hB1,d6]
 refine z6.mk (Nat×Hp) (λg=>[(1,.bx 2 0),(5,.v (pQ b29)),(87,.v (.slice a2 n2 c2)),(88,.v (iQ n2)),(89,.v (iQ g.1))]) (λg=>[.hp c0,.hp g.2,.box b1 [sv p.nm,.slice a1 n1 c1,.slice a2 n2 c2,.slice a3 n3 c3,.slice a4 n4 c4,.slice a5 n5 c5] 30])
  (λg=>g.1<=n2/\mS g.2 b29 (.slice a3 n3 c3) (B1++(p.insts.take g.1).flatMap jI)) (λg=>n2 - g.1) (0,h) ⟨j0 _,by simpa using hI⟩ (y6.mk (pj [0,1,2]) rfl rfl) ?_
 rintro⟨k,h⟩ ⟨hk,hI⟩;dsimp only at hk hI ⊢;refine d9 (λg2=>?_) λg2=>?_
 ·have hkl:k < p.insts.length:=om
  obtain⟨⟨nm,pn,⟨t1,t2,t3,t4⟩,⟨s1,s2,s3⟩⟩,hx⟩ :∃x,x=p.insts[k]:=⟨_,rfl⟩
  have hxm:(nm,pn,(t1,t2,t3,t4),(s1,s2,s3))∈p.insts:=by rw[hx];exact j5 hkl
  have gx:=L6 g.gi.2 _ hxm;obtain⟨u1,u2,u3,u4⟩:=gx.t;dsimp only at u1 u2 u3 u4;have hpn:D8 pn=true:=by
   obtain⟨y,hy,e⟩:=y7.1 gx.p;have e:y.1=pn:=e;rw[<-e];exact (L6 g.gp.2 y hy).n
  have hfle:=xB (g:=jI) hkl;have hft:=fE (g:=jI) hkl;rw[<-hx] at hfle hft;have hxl:(jI (nm,pn,(t1,t2,t3,t4),(s1,s2,s3))).length=9+((P0 nm).length+(4+((P0 pn).length+(6+((bN [t1,t2,t3,t4]).length+(8+(s1.length+(2+(s2.length+(2+(s3.length+3))))))))))):=by unfold jI;simp only[d6,d7,i6]
  refine R2 cQ (e:=93) rfl h2 k rfl hkl λb9 o9 cs hcs hR hcell=>?_;rw[<-hx] at hR;have hR:cs = [sv nm,sv pn,iQ t1,iQ t2,iQ t3,iQ t4,sv s1,sv s2,sv s3]:=hR;subst hR;refine nX cQ (i:=0) rfl hcell rfl ?_;intro b13;obtain⟨T2,hT2⟩ :∃T2,T2=B1++(p.insts.take k).flatMap jI++([[105,110,115,116,97,110,99,101,32],P0 nm,[32,111,102,32],P0 pn,[32,116,117,114,110,32]]:List d8).flatten:=⟨_,rfl⟩
  have hT2l:T2.length=B1.length+((p.insts.take k).flatMap jI).length+(9+((P0 nm).length+(4+((P0 pn).length+6)))):=by rw[hT2];simp only[s6,x9,d6,d7,i6]
  refine u6.cut Hp (λ_=>[(1,.bx 2 0),(5,.v (pQ b29)),(13,.bx 3 0),(87,.v (.slice a2 n2 c2)),(88,.v (iQ n2)),(89,.v (iQ k))]) (λg=>[.hp c0,.hp g,.box b1 [sv p.nm,.slice a1 n1 c1,.slice a2 n2 c2,.slice a3 n3 c3,.slice a4 n4 c4,.slice a5 n5 c5] 30,.box b13 [sv nm,sv pn,iQ t1,iQ t2,iQ t3,iQ t4,sv s1,sv s2,sv s3] 93])
   (λg=>mS g b29 (.slice a3 n3 c3) T2) (u6.by_order0 cQ (.take 0 <| .take 1 <| .take 2 <| .take 4 <| .take 5 <| .run 3 <| .run 6 <| .run 7 <| .run 8 <| .done) kr (J5 _ 1) ?_) ?_
  ·refine k7 _ (λw' hm=>Y3 nm (by have:=(V1 gx.n).2.1;dsimp only at this;omega) w') ?_;refine⟨sK,?_⟩;refine k7 _ (λw' hm=>Y3 pn (by have:=(V1 hpn).2.1;omega) w') ?_;refine⟨sK,?_⟩;intro b100;refine⟨sK,?_⟩;refine aI (i:=1) (j:=4) dc rfl hI (L:=[[105,110,115,116,97,110,99,101,32],P0 nm,[32,111,102,32],P0 pn,[32,116,117,114,110,32]]) rfl rfl sQ (by simp only[s6,x9,d6,d7,i6];omega) λv h hI=>?_;refine⟨sK,?_⟩;exact⟨h,by rw[hT2];exact hI,y6.mk (pj [0,1,2,3]) rfl rfl⟩
  intro h hI _;have hcs4 :∀x (hx:x < [t1,t2,t3,t4].length),([sv nm,sv pn,iQ t1,iQ t2,iQ t3,iQ t4,sv s1,sv s2,sv s3]:List Value)[2+x]?=some (.int .i64 [t1,t2,t3,t4][x]):=λx hx=>by
   match x,hx with
   | 0,_=>rfl
   | 1,_=>rfl
   | 2,_=>rfl
   | 3,_=>rfl
   | n+4,hx=>exact absurd hx sQ
  have hz4 :∀z∈[t1,t2,t3,t4],NQ z:=λz hz=>by
   simp only[p9,G4,or_false] at hz;rcases hz with rfl | rfl | rfl | rfl <;> exact pL om
  have hl4':T2.length+(bN [t1,t2,t3,t4]).length < 1000000:=om
  refine m9 λq' hq'=>?_;refine Lt cQ rfl rfl (e:=3) rfl ?_;refine Fi (i:=1) (c:=0) (k:=3) (off:=2) (m:=4) (L:=[t1,t2,t3,t4]) rfl hI rfl dc rfl dc hcs4 rfl hT sQ sQ hz4 hl4' λv h hI=>?_;apply hq';refine m9 λq' hq'=>?_;intro b14;apply hq';refine m9 λq' hq'=>?_;intro b117;refine aI (i:=1) (j:=5) dc rfl hI (L:=[[32,115,104,105,102,116,32,40],s1,[44,32],s2,[44,32],s3,[41,59,10]]) rfl rfl sQ (by simp only[s6,x9,d6,d7,i6];omega) λv h hI=>?_;apply hq';refine nwo ?_;refine⟨(k+1,h),⟨by dsimp only;omega,?_⟩,by dsimp only;omega,y6.mk (pj [0,1,2]) rfl rfl⟩;dsimp only;have e:B1++(p.insts.take (k+1)).flatMap jI=T2++bN [t1,t2,t3,t4]++([[32,115,104,105,102,116,32,40],s1,[44,32],s2,[44,32],s3,[41,59,10]]:List d8).flatten:=by rw[hft,hT2];unfold jI;simp
  rw[e];exact hI
 have hk2:k=p.insts.length:=om
 subst hk2;rw[q8] at hI;clear g2 hk;obtain⟨B2,hB2⟩ :∃x,x=B1++p.insts.flatMap jI:=⟨_,rfl⟩
 rw[<-hB2] at hI;have lB2:B2.length=B1.length+(p.insts.flatMap jI).length:=by rw[hB2,d6]
 refine z6.mk (Nat×Hp) (λg=>[(1,.bx 2 0),(5,.v (pQ b29)),(121,.v (.slice a3 n3 c3)),(122,.v (iQ n3)),(123,.v (iQ g.1))]) (λg=>[.hp c0,.hp g.2,.box b1 [sv p.nm,.slice a1 n1 c1,.slice a2 n2 c2,.slice a3 n3 c3,.slice a4 n4 c4,.slice a5 n5 c5] 30])
  (λg=>g.1<=n3/\mS g.2 b29 (.slice a3 n3 c3) (B2++(p.dims.take g.1).flatMap lK)) (λg=>n3 - g.1) (0,h) ⟨j0 _,by simpa using hI⟩ (y6.mk (pj [0,1,2]) rfl rfl) ?_
 rintro⟨k,h⟩ ⟨hk,hI⟩;dsimp only at hk hI ⊢;refine d9 (λg2=>?_) λg2=>?_
 ·have hkl:k < p.dims.length:=om
  obtain⟨⟨nm,z1,z2,z3⟩,hx⟩ :∃x,x=p.dims[k]:=⟨_,rfl⟩
  have hxm:(nm,z1,z2,z3)∈p.dims:=by rw[hx];exact j5 hkl
  have gx:=L6 g.gd.2 _ hxm;obtain⟨u1,u2,u3⟩:=gx.r;dsimp only at u1 u2 u3;have hfle:=xB (g:=lK) hkl;have hft:=fE (g:=lK) hkl;rw[<-hx] at hfle hft;have hxl:(lK (nm,z1,z2,z3)).length=10+((P0 nm).length+(3+((zT z1).length+(2+((zT z2).length+(2+((zT z3).length+3))))))):=by unfold lK;simp only[d6,d7,i6]
  refine R2 cQ (e:=48) rfl h3 k rfl hkl λb9 o9 cs hcs hR hcell=>?_;rw[<-hx] at hR;have hR:cs = [sv nm,iQ z1,iQ z2,iQ z3]:=hR;subst hR;refine nX cQ (i:=0) rfl hcell rfl ?_;intro b16;refine u6.by_order0 cQ (.take 0 <| .take 1 <| .take 2 <| .take 4 <| .take 5 <| .take 7 <| .take 8 <| .take 10 <| .take 11 <| .run 3 <| .run 6 <| .run 9 <| .run 12 <| .run 13 <| .run 14 <| .done) kr (J5 _ 1) ?_;refine k7 _ (λw' hm=>Y3 nm (by have:=(V1 gx.n).2.1;dsimp only at this;omega) w') ?_;refine⟨sK,?_⟩;refine k7 _ (λw' hm=>gQ z1 (pL om) w' (hT.mono (hm 0 _ rfl).whole)) ?_;refine⟨sK,?_⟩;refine k7 _ (λw' hm=>gQ z2 (pL om) w' (hT.mono (hm 0 _ rfl).whole)) ?_;refine⟨sK,?_⟩;refine k7 _ (λw' hm=>gQ z3 (pL om) w' (hT.mono (hm 0 _ rfl).whole)) ?_;refine⟨sK,?_⟩;intro b140;refine⟨sK,?_⟩;refine aI (i:=1) (j:=4) dc rfl hI (L:=[[100,105,109,101,110,115,105,111,110,32],P0 nm,[32,61,32],zT z1,[32,91],zT z2,[44,32],zT z3,[93,59,10]]) rfl rfl sQ (by simp only[s6,x9,d6,d7,i6];omega) λv h hI=>?_;refine⟨sK,?_⟩;refine nwo ?_;refine⟨(k+1,h),⟨by dsimp only;omega,?_⟩,by dsimp only;omega,y6.mk (pj [0,1,2]) rfl rfl⟩;dsimp only;have e:B2++(p.dims.take (k+1)).flatMap lK=B2++(p.dims.take k).flatMap lK++([[100,105,109,101,110,115,105,111,110,32],P0 nm,[32,61,32],zT z1,[32,91],zT z2,[44,32],zT z3,[93,59,10]]:List d8).flatten:=by rw[hft];unfold lK;simp
  rw[e];exact hI
 have hk2:k=p.dims.length:=om
 subst hk2;rw[q8] at hI;clear g2 hk;obtain⟨B3,hB3⟩ :∃x,x=B2++p.dims.flatMap lK:=⟨_,rfl⟩
 rw[<-hB3] at hI;have lB3:B3.length=B2.length+(p.dims.flatMap lK).length:=by rw[hB3,d6]
 have hcon:=L6 (Q:=λx:kT=>D8 x.1=true/\mT p.dims.length x.2) g.gc.2;refine z6.mk (Nat×Hp) (λg=>[(1,.bx 2 0),(5,.v (pQ b29)),(144,.v (.slice a4 n4 c4)),(145,.v (iQ n4)),(146,.v (iQ g.1))]) (λg=>[.hp c0,.hp g.2,.box b1 [sv p.nm,.slice a1 n1 c1,.slice a2 n2 c2,.slice a3 n3 c3,.slice a4 n4 c4,.slice a5 n5 c5] 30])
  (λg=>g.1<=n4/\mS g.2 b29 (.slice a3 n3 c3) (B3++(p.cons.take g.1).flatMap (mP p.dims))) (λg=>n4 - g.1) (0,h) ⟨j0 _,by simpa using hI⟩ (y6.mk (pj [0,1,2]) rfl rfl) ?_
 rintro⟨k,h⟩ ⟨hk,hI⟩;dsimp only at hk hI ⊢;refine d9 (λg2=>?_) λg2=>?_
 ·have hkl:k < p.cons.length:=om
  obtain⟨⟨nm,f⟩,hx⟩ :∃x,x=p.cons[k]:=⟨_,rfl⟩
  have hxm:(nm,f)∈p.cons:=by rw[hx];exact j5 hkl
  obtain⟨gx,gf⟩:=hcon _ hxm;dsimp only at gx gf;have hfle:=xB (g:=mP p.dims) hkl;have hft:=fE (g:=mP p.dims) hkl;rw[<-hx] at hfle hft;have hxl:(mP p.dims (nm,f)).length=11+((P0 nm).length+(2+((fD (H3 p.dims) f).length+7))):=by unfold mP;simp only[d6,d7,i6]
  refine R2 cQ (e:=96) rfl h4 k rfl hkl λb9 o9 cs hcs hR hcell=>?_;rw[<-hx] at hR;obtain⟨af,nf,cf,rfl,hfs⟩:=hR;dsimp only at hfs;refine nX cQ (i:=0) rfl hcell rfl ?_;intro b18;refine m9 λq' hq'=>?_;apply hq';refine m9 λq' hq'=>?_;refine k7 _ (λw' hm=>Y3 nm (by have:=(V1 gx).2.1;omega) w') ?_;intro b154;refine aI (i:=1) (j:=4) dc rfl hI (L:=[[99,111,110,115,116,114,97,105,110,116,32],P0 nm,[58,32]]) rfl rfl sQ (by simp only[s6,x9,d6,d7,i6];omega) λv h hI=>?_;apply hq';refine m9 λq' hq'=>?_;refine Km (i:=1) (c:=0) (D:=p.dims) (f:=f) rfl hI rfl dc hfs h3 (by have:=gf.l;omega) hdn (λt ht=>(gf.all t ht).1) (by simp only[s6,x9,d6,d7,i6];omega) λv h hI=>?_;apply hq';refine m9 λq' hq'=>?_;intro b161;refine aI (i:=1) (j:=5) dc rfl hI (L:=[[32,60,61,32,48,59,10]]) rfl rfl sQ (by simp only[s6,x9,d6,d7,i6];omega) λv h hI=>?_;apply hq';refine nwo ?_;refine⟨(k+1,h),⟨by dsimp only;omega,?_⟩,by dsimp only;omega,y6.mk (pj [0,1,2]) rfl rfl⟩;dsimp only;have e:B3++(p.cons.take (k+1)).flatMap (mP p.dims)=B3++(p.cons.take k).flatMap (mP p.dims)++([[99,111,110,115,116,114,97,105,110,116,32],P0 nm,[58,32]]:List d8).flatten++fD (H3 p.dims) f++([[32,60,61,32,48,59,10]]:List d8).flatten:=by rw[hft];unfold mP;simp
  rw[e];exact hI
 have hk2:k=p.cons.length:=om
 subst hk2;rw[q8] at hI;clear g2 hk;obtain⟨B4,hB4⟩ :∃x,x=B3++p.cons.flatMap (mP p.dims):=⟨_,rfl⟩
 rw[<-hB4] at hI;have lB4:B4.length=B3.length+(p.cons.flatMap (mP p.dims)).length:=by rw[hB4,d6]
 refine z6.mk (Nat×Hp) (λg=>[(1,.bx 2 0),(5,.v (pQ b29)),(165,.v (.slice a5 n5 c5)),(166,.v (iQ n5)),(167,.v (iQ g.1))]) (λg=>[.hp c0,.hp g.2,.box b1 [sv p.nm,.slice a1 n1 c1,.slice a2 n2 c2,.slice a3 n3 c3,.slice a4 n4 c4,.slice a5 n5 c5] 30])
  (λg=>g.1<=n5/\mS g.2 b29 (.slice a3 n3 c3) (B4++(p.reqs.take g.1).flatMap (iY p.dims))) (λg=>n5 - g.1) (0,h) ⟨j0 _,by simpa using hI⟩ (y6.mk (pj [0,1,2]) rfl rfl) ?_
 rintro⟨k,h⟩ ⟨hk,hI⟩;dsimp only at hk hI ⊢;refine d9 (λg2=>?_) λg2=>?_
 ·have hkl:k < p.reqs.length:=om
  obtain⟨⟨nm,x,lo,hi⟩,hx⟩ :∃x,x=p.reqs[k]:=⟨_,rfl⟩
  have hxm:(nm,x,lo,hi)∈p.reqs:=by rw[hx];exact j5 hkl
  have gx:=L6 g.gr.2 _ hxm;have hsx:=hs.sr _ hxm;have hfle:=xB (g:=iY p.dims) hkl;have hft:=fE (g:=iY p.dims) hkl;rw[<-hx] at hfle hft;obtain⟨LO,hLO⟩ :∃y,y=(if lo = [] then ([]:d8) else [32,102,114,111,109,32]++lo):=⟨_,rfl⟩
  obtain⟨HI,hHI⟩ :∃y,y=(if hi = [] then ([]:d8) else [32,116,111,32]++hi):=⟨_,rfl⟩
  have hrt:iY p.dims (nm,x,lo,hi) = [114,101,113,117,105,114,101,32]++(P0 nm++([58,32]++(H7 (H3 p.dims) 8 x++(LO++(HI++[59,10]))))):=by rw[hLO,hHI];rfl
  have hxl:(iY p.dims (nm,x,lo,hi)).length=8+((P0 nm).length+(2+((H7 (H3 p.dims) 8 x).length+(LO.length+(HI.length+2))))):=by rw[hrt];simp only[d6,d7,i6]
  have hex:UY p.dims.length 8 x:=uH 8 0 _ gx.g;refine R2 cQ (e:=74) rfl h5 k rfl hkl λb9 o9 cs hcs hR hcell=>?_;rw[<-hx] at hR;obtain⟨xs,rfl,hxs⟩:=hR;dsimp only at hxs hcell;match d,hxs with
  | d+1,hxs=>
  obtain⟨op,f,fac,args⟩:=x;have hxs':=hxs;obtain⟨ax,nx,cx,ay,ny,cy,rfl,hf,ha⟩:=hxs;refine nX cQ (i:=0) rfl hcell rfl ?_;intro b20;refine m9 λq' hq'=>?_;apply hq';refine m9 λq' hq'=>?_;refine k7 _ (λw' hm=>Y3 nm (by have:=(V1 gx.nm).2.1;dsimp only at this;omega) w') ?_;intro b175;refine aI (i:=1) (j:=4) dc rfl hI (L:=[[114,101,113,117,105,114,101,32],P0 nm,[58,32]]) rfl rfl sQ (by simp only[s6,x9,d6,d7,i6];omega) λv h hI=>?_;apply hq';refine m9 λq' hq'=>?_;refine Ko (i:=1) (c:=0) (D:=p.dims) (d:=8) (e:=d+1) rfl hI rfl dc hxs' h3 hex hsx.ex hdn (by simp only[s6,x9,d6,d7,i6];omega) λv h hI=>?_;apply hq';obtain⟨T2,hT2⟩ :∃T2,T2=B4++(p.reqs.take k).flatMap (iY p.dims)++([[114,101,113,117,105,114,101,32],P0 nm,[58,32]]:List d8).flatten++H7 (H3 p.dims) 8 (.mk op f fac args):=⟨_,rfl⟩
  rw[<-hT2] at hI;have hT2l:T2.length=B4.length+((p.reqs.take k).flatMap (iY p.dims)).length+(8+((P0 nm).length+2))+(H7 (H3 p.dims) 8 (.mk op f fac args)).length:=by rw[hT2];simp only[s6,x9,d6,d7,i6]
  refine pZ (b:=[]) ?_;refine v7 (λg4=>?_) λg4=>?_
  ·have g4 : ¬ lo = []:=GI g4;have hLl:LO.length=6+lo.length:=by rw[hLO,if_neg g4];simp only[d6,d7,i6]
   refine m9 λq' hq'=>?_;intro b187;refine aI (i:=1) (j:=5) dc rfl hI (L:=[[32,102,114,111,109,32],lo]) rfl rfl sQ (by simp only[s6,x9,d6,d7,i6];omega) λv h hI=>?_;apply hq';refine pZ (b:=[]) ?_;refine v7 (λg5=>?_) λg5=>?_
   ·have g5 : ¬ hi = []:=GI g5;have hHl:HI.length=4+hi.length:=by rw[hHI,if_neg g5];simp only[d6,d7,i6]
    refine m9 λq' hq'=>?_;intro b195;refine aI (i:=1) (j:=6) dc rfl hI (L:=[[32,116,111,32],hi]) rfl rfl sQ (by simp only[s6,x9,d6,d7,i6];omega) λv h hI=>?_;apply hq';refine m9 λq' hq'=>?_;intro b198;refine aI (i:=1) (j:=7) dc rfl hI (L:=[[59,10]]) rfl rfl sQ (by simp only[s6,x9,d6,d7,i6];omega) λv h hI=>?_;apply hq';refine nwo ?_;refine⟨(k+1,h),⟨by dsimp only;omega,?_⟩,by dsimp only;omega,y6.mk (pj [0,1,2]) rfl rfl⟩;dsimp only;have e:B4++(p.reqs.take (k+1)).flatMap (iY p.dims)=T2++([[32,102,114,111,109,32],lo]:List d8).flatten++([[32,116,111,32],hi]:List d8).flatten++([[59,10]]:List d8).flatten:=by rw[hft,hrt,hT2,hLO,hHI,if_neg g4,if_neg g5];simp
    rw[e];exact hI
   ·have g5:hi = []:=GV g5;have hHl:HI.length=0:=by rw[hHI,if_pos g5];rfl
    refine m9 λq' hq'=>?_;intro b198;refine aI (i:=1) (j:=6) dc rfl hI (L:=[[59,10]]) rfl rfl sQ (by simp only[s6,x9,d6,d7,i6];omega) λv h hI=>?_;apply hq';refine nwo ?_;refine⟨(k+1,h),⟨by dsimp only;omega,?_⟩,by dsimp only;omega,y6.mk (pj [0,1,2]) rfl rfl⟩;dsimp only;have e:B4++(p.reqs.take (k+1)).flatMap (iY p.dims)=T2++([[32,102,114,111,109,32],lo]:List d8).flatten++([[59,10]]:List d8).flatten:=by rw[hft,hrt,hT2,hLO,hHI,if_neg g4,if_pos g5];simp
    rw[e];exact hI
  ·have g4:lo = []:=GV g4;have hLl:LO.length=0:=by rw[hLO,if_pos g4];rfl
   refine pZ (b:=[]) ?_;refine v7 (λg5=>?_) λg5=>?_
   ·have g5 : ¬ hi = []:=GI g5;have hHl:HI.length=4+hi.length:=by rw[hHI,if_neg g5];simp only[d6,d7,i6]
    refine m9 λq' hq'=>?_;intro b195;refine aI (i:=1) (j:=5) dc rfl hI (L:=[[32,116,111,32],hi]) rfl rfl sQ (by simp only[s6,x9,d6,d7,i6];omega) λv h hI=>?_;apply hq';refine m9 λq' hq'=>?_;intro b198;refine aI (i:=1) (j:=6) dc rfl hI (L:=[[59,10]]) rfl rfl sQ (by simp only[s6,x9,d6,d7,i6];omega) λv h hI=>?_;apply hq';refine nwo ?_;refine⟨(k+1,h),⟨by dsimp only;omega,?_⟩,by dsimp only;omega,y6.mk (pj [0,1,2]) rfl rfl⟩;dsimp only;have e:B4++(p.reqs.take (k+1)).flatMap (iY p.dims)=T2++([[32,116,111,32],hi]:List d8).flatten++([[59,10]]:List d8).flatten:=by rw[hft,hrt,hT2,hLO,hHI,if_pos g4,if_neg g5];simp
    rw[e];exact hI
   ·have g5:hi = []:=GV g5;have hHl:HI.length=0:=by rw[hHI,if_pos g5];rfl
    refine m9 λq' hq'=>?_;intro b198;refine aI (i:=1) (j:=5) dc rfl hI (L:=[[59,10]]) rfl rfl sQ (by simp only[s6,x9,d6,d7,i6];omega) λv h hI=>?_;apply hq';refine nwo ?_;refine⟨(k+1,h),⟨by dsimp only;omega,?_⟩,by dsimp only;omega,y6.mk (pj [0,1,2]) rfl rfl⟩;dsimp only;have e:B4++(p.reqs.take (k+1)).flatMap (iY p.dims)=T2++([[59,10]]:List d8).flatten:=by rw[hft,hrt,hT2,hLO,hHI,if_pos g4,if_pos g5];simp
    rw[e];exact hI
 have hk2:k=p.reqs.length:=om
 subst hk2;rw[q8] at hI;clear g2 hk;obtain⟨B5,hB5⟩ :∃x,x=B4++p.reqs.flatMap (iY p.dims):=⟨_,rfl⟩
 rw[<-hB5] at hI;have lB5:B5.length=B4.length+(p.reqs.flatMap (iY p.dims)).length:=by rw[hB5,d6]
 have hB5:B5=gH p:=by rw[hB5,hB4,hB3,hB2,hB1,hpe];simp
 rw[hB5] at hI;refine k6 (i:=1) rfl (λw0 w1 hok=>wP w1 (hok.mem 1 _ rfl) hI (by rw[hpe,hhd];simp)) ?_;rintro _ h2 _ ⟨rfl,rfl,_⟩;refine⟨[],⟨?_,rfl⟩,pk [0]⟩;unfold FA;split <;> rfl
end Go.Proofs.YtpjhmeicbjkcdaaGreatDoor
namespace Go.Proofs.YtpjhmeicbjkcdaaGreatDoor
open Go
def Kg:d8:=[112,114,111,100,117,99,116,32,112,59,32,100,105,109,101,110,115,105,111,110,32,97,32,61,32,49,48,32,91,49,44,32,45,49,93,59]
def Ja:d8:=[112,114,111,100,117,99,116,10,34,112,34,59,32,35,32,97,32,112,114,111,100,117,99,116,10,100,105,109,101,110,115,105,111,110,32,49,97,32,61,32,49,32,91,48,44,32,48,93,59]
def Mu:Ex:=.mk 4 ([],[]) [] [.mk 0 ([48],[(0,[49])]) [] [],.mk 0 ([53],[]) [] []]
theorem Hq:((rG Kg).1.ln,(rG Kg).1.co,(rG Kg).1.e)=(1,36,8):=by decide +kernel
theorem Ho:(rG Ja).1.e=14:=by decide +kernel
theorem Hn:SA ⟨[112],[],[],[],[],[]⟩=([112,114,111,100,117,99,116,32,112,59,10],0):=by decide +kernel
theorem Hm:Bh [([97],0,0,0)] Mu=([109,97,120,40,91,48,32,43,32,49,32,42,32,97,93,44,32,91,53,93,41],0):=by decide +kernel
end Go.Proofs.YtpjhmeicbjkcdaaGreatDoor
namespace Go.Proofs.YtpjhmeicbjkcdaaGreatDoor
open Go
theorem uI {d:Nat} {r:RS} {k:Nat} (h:(expS d r k).e=0):d≠0/\k < 64/\expS d r k=r/\r.e=0/\(nZ (z8 r)=true\/S7 r [91]=true):=by
 unfold expS at h ⊢;by_cases h1:nZ (z8 r)=false/\S7 r [91]=false
 ·rw[if_pos h1] at h;exact absurd h (aK r dc)
 ·rw[if_neg h1] at h ⊢;by_cases h2:d=0
  ·rw[if_pos h2] at h;exact absurd h (aK r dc)
  ·rw[if_neg h2] at h ⊢;unfold H6 at h ⊢;by_cases h3:64<=k
   ·rw[if_pos h3] at h;exact absurd h (aK r dc)
   ·rw[if_neg h3] at h ⊢;refine⟨h2,om,rfl,h,?_⟩;cases a:nZ (z8 r) with
    | true=>exact .inl rfl
    | false=>
     cases b:S7 r [91] with
     | true=>exact .inr rfl
     | false=>exact absurd ⟨a,b⟩ h1
theorem YY {g:RS->Nat->RS×Nat×Ex} (hg :∀r k,k<=64->k+1<=(g r k).2.1/\(g r k).2.1<=65/\((g r k).1.e=0->(g r k).2.1<=64)) :
  ∀f r k out,k<=65->(r.e=0->k<=64)->k<=(Z0 g f r k out).2.1/\(Z0 g f r k out).2.1<=65/\((Z0 g f r k out).1.e=0->(Z0 g f r k out).2.1<=64)
 | 0,_,k,_,h1,h2=>⟨j8 k,h1,h2⟩
 | f+1,r,k,out,h1,h2=>by
  unfold Z0;split
  ·rename_i h
   obtain⟨a,b,c⟩:=hg (C6 r) k (h2 (P5 h).1);obtain⟨a',b',c'⟩:=YY hg f (g (C6 r) k).1 (g (C6 r) k).2.1 (out++[(g (C6 r) k).2.2]) b c;exact⟨om,b',c'⟩
  ·exact⟨j8 k,h1,h2⟩
theorem vO (names:List d8) :∀d r k,k<=64->k+1<=(J8 names d r k).2.1/\(J8 names d r k).2.1<=65/\((J8 names d r k).1.e=0->(J8 names d r k).2.1<=64)
 | 0,r,k,hk=>⟨j8 _,Nat.succ_le_succ hk,λh=>absurd rfl (uI h).1⟩
 | d+1,r,k,hk=>by
  unfold J8;by_cases h1:(expS (d+1) r k).e≠0
  ·rw[if_pos h1];exact⟨j8 _,Nat.succ_le_succ hk,λh=>absurd h h1⟩
  ·rw[if_neg h1];obtain⟨_,h64,_,_,_⟩:=uI (B9.1 h1);split
   ·exact⟨j8 _,by dsimp only;omega,λ_=>by dsimp only;omega⟩
   ·dsimp only;generalize (if (JG (z8 r).2.1).getD 0=2 then L9 (C6 r) else (C6 r,[]))=p;obtain⟨a1,a2,a3⟩:=vO names d (s8 p.1 [40]) (k+1) om;generalize J8 names d (s8 p.1 [40]) (k+1)=a at a1 a2 a3;split
    ·obtain⟨b1,b2,b3⟩:=YY (vO names d) (G2 a.1) a.1 a.2.1 [a.2.2] a2 a3;exact⟨om,b2,λh=>b3 ((o7.exp _ _).ok h)⟩
    ·exact⟨by dsimp only;omega,a2,λh=>a3 ((o7.exp _ _).ok h)⟩
theorem YZ (names:List d8) (d:Nat) {r:RS} (he:r.e=0->cU r.ts) (h:S7 r [44]=true) (k:Nat):G2 (J8 names d (C6 r) k).1 < G2 r:=by
 obtain⟨h0,h5,_⟩:=P5 h;exact p8 (o7.expr names d _ _).rem (GH he h0 om)
theorem pN (names:List d8) (d:Nat) {r:RS} {k:Nat} (h:(expS d r k).e≠0):J8 names d r k=(expS d r k,k+1,Nd):=by
 cases d with
 | zero=>rfl
 | succ d=>unfold J8;rw[if_pos h]
theorem BE (names:List d8) (d:Nat) {r:RS} {k:Nat} (h:(expS (d+1) r k).e=0) (ho:nZ (z8 r)=false):J8 names (d+1) r k=((qD names r).1,k+1,.mk 0 (qD names r).2 [] []):=by
 unfold J8;rw[if_neg (λc=>c h),if_pos ho]
end Go.Proofs.YtpjhmeicbjkcdaaGreatDoor
namespace Go.Proofs.YtpjhmeicbjkcdaaGreatDoor
open Go Go.RowKit Go.Dw
theorem KG (t:d8):mJ (bs t) (mX.map Ke)=(JG t).map λz=>Value.int .i64 z:=by
 have e :∀z:Int,(bs (jQ z)=bs t)=(t=jQ z):=λz=>propext (OA.trans eq_comm);show mJ (bs t) [(bs (jQ 1),iQ 1),(bs (jQ 2),iQ 2),(bs (jQ 3),iQ 3),(bs (jQ 4),iQ 4),(bs (jQ 5),iQ 5)]=_
 simp only[mJ,e];unfold JG;have o1:jQ 1 = [97,100,100]:=dc
 have o2:jQ 2 = [115,99,97,108,101]:=dc
 have o3:jQ 3 = [109,105,110]:=dc
 have o4:jQ 4 = [109,97,120]:=dc
 have o5:jQ 5 = [97,98,115]:=dc
 rw[o1,o2,o3,o4,o5];split
 ·rfl
 ·split
  ·rfl
  ·split
   ·rfl
   ·split
    ·rfl
    ·split <;> rfl
theorem TG (t:d8):(mJ (bs t) (mX.map Ke)).getD (iQ 0)=iQ ((JG t).getD 0):=by
 rw[KG];cases JG t <;> rfl
theorem TF (t:d8):(mJ (bs t) (mX.map Ke)).isSome=(JG t).isSome:=by
 rw[KG];cases JG t <;> rfl
end Go.Proofs.YtpjhmeicbjkcdaaGreatDoor
namespace Go.Dw
open Go Go.RowKit
theorem Pr {X:Q2} {s:List Ch} {α:Type} {R:yV α} (hX:X.Good) {T e ty:Nat} {te:TI} (hT:bQ X T=some (e,te)) {H:Hp} {j b e':Nat} (x:α) (cs:List Value) (hj:l7 s j=some (.box b cs e')) (hf:cs.length=te.size) (h1:Z7 cs=true)
  (hby:P9 te.bytes 140=true) {q:TV->List Ch->Prop} (hx:HG s->R H x cs)
  (hq :∀o',HG s->aR R e te.size H o' [x]->q (.v o'.v) (s++[.hp o'.h])) :
  uV X.P s #[T,T] ty zl (.bs j 1) q:=by
 by_cases hs:HG s
 ·have hset :∀c:Ch,w8 (s++[.hp Hp.emp]) s.length c=s++[c]:=λc=>by rw[S0];simp
  obtain⟨yv,hy,h2⟩:=qM (R:=R) (s:=s++[.hp Hp.emp]) (ty:=ty) hX hT (i:=s.length) (o:=Os.nil) (fL s _) (H:=H) (L:=[]) (λ_=>aR.nil) x cs (pC hj) hf h1 hby (by show 0 < 1000000000000;decide) (q:=q) (λ_=>hx hs) (λo' _ hg=>by rw[hset];exact hq o' hs hg);refine⟨yv,?_,h2.emp⟩;simp only[TV.val,pC hj] at hy;simp only[TV.val,hj];exact hy
 ·exact⟨.slice (some ⟨b,0,none⟩) 1 1,by simp[TV.val,hj],⟨λw0 w hok=>absurd ⟨w0,w,hok⟩ hs⟩⟩
end Go.Dw
namespace Go.Proofs.YtpjhmeicbjkcdaaGreatDoor
open Go Go.RowKit Go.Dw
abbrev H8 (b kk:Nat) (ad:Option Addr) (nd cd:Nat):List Value:=[pQ b,.slice ad nd cd,iQ kk]
abbrev MR (rb b kk:Nat) (ad:Option Addr) (nd cd:Nat):Ch:=.box rb (H8 b kk ad nd cd) 155
def Od (D:List O7) (d:Nat):Prop:=∀(k h:Hp) (rb b:Nat) (r:RS) (kk:Nat) (ad:Option Addr) (nd cd:Nat) (lv:Int) (w:World),lv=9 - d->((MR rb b kk ad nd cd).h.join h).In w->(MR rb b kk ad nd cd).h.dj h->k.le ((Hp.whole w).minus ((MR rb b kk ad nd cd).h.join h))->G0 k h b r->Sl (E0 P2) 4 ((Hp.whole w).minus ((MR rb b kk ad nd cd).h.join h)) ad nd cd D->kk<=64->
 j2 Tryz.prog 174 #[pQ rb,iQ lv] w (O3 w ((MR rb b kk ad nd cd).h.join h) λv h' cs=>∃ys H,cs = [.box rb ys 155,.hp H]/\((∃xs,v=.agg xs.toArray/\xs.length=5/\bE (d+1) H (J8 (D.map λx:O7=>x.1) d r kk).2.2 xs)/\ys=H8 b (J8 (D.map λx:O7=>x.1) d r kk).2.1 ad nd cd/\G0 k h' b (J8 (D.map λx:O7=>x.1) d r kk).1))
set_option maxHeartbeats 4000000 in
set_option maxRecDepth 10000 in
theorem xD {D:List O7} (hDn:D.length < 1000000) (d:Nat) (hd9:d<=9) (ih :∀d',d=d'+1->Od D d'):Od D d:=by
 intro k h rb b r kk ad nd cd lv w hlv hin hdj hk hR hD hkk;have ok0:=Ok.startB hin hdj;refine enterMSZ (cx 126) [pQ rb,iQ lv] ok0 [.cell 4 44] Tryz.func174 ?_;obtain⟨c0,hc0⟩ :∃c0,c0=(Hp.whole w).minus ((MR rb b kk ad nd cd).h.join h):=⟨_,rfl⟩
 rw[<-hc0] at hk hD ⊢;obtain⟨names,hnames⟩ :∃l,l=D.map λx:O7=>x.1:=⟨_,rfl⟩
 rw[<-hnames];intro b4;refine m9 λq' hq'=>?_;apply hq';refine nQ [.hp c0,.hp h,MR rb b kk ad nd cd,.box b4 [iQ 0,zs,zl,zs,zl] 44] λq' hq'=>?_;refine lR 2 0 ?_;refine k7 _ (λw' hm=>R7 w' (hm 1 _ rfl) (hk.trans (hm 0 _ rfl).whole) hR) ?_;obtain⟨⟨K,T,ln,co⟩,hP⟩ :∃p,p=z8 r:=⟨_,rfl⟩
 rw[<-hP];intro b5;apply hq';refine u6.cut Unit (λ_=>[(0,.v (pQ rb)),(1,.v (iQ lv)),(4,.bx 3 0),(5,.bx 4 0),(6,.v (iQ ((JG T).getD 0))),(7,.v (.bool (JG T).isSome))]) (λ_=>[.hp c0,.hp h,MR rb b kk ad nd cd,.box b4 [iQ 0,zs,zl,zs,zl] 44,.box b5 [iQ K,sv T,iQ ln,iQ co] 211]) (λ_=>True) (u6.by_order0 cQ (.take 1 <| .take 2 <| .run 0 <| .run 3 <| .take 4 <| .take 5 <| .take 6 <| .take 7 <| .take 8 <| .done) kr (fK _) ?_) ?_
 ·refine call (λw' hm=>yZ w') ?_;rintro _ _ ⟨bw,hw,rfl,rfl,hM⟩;refine⟨sK,?_⟩;refine Hl (i:=5) Tryz.underlying203 Tryz.underlying9 (z:=iQ 0) (λw=>by rfl) rfl hM (bs T) ?_;rw[TG,TF];first | exact⟨sK,(),trivial,y6.mk (pj [0,1,2,3,4]) rfl rfl⟩ | exact⟨(),trivial,y6.mk (pj [0,1,2,3,4]) rfl rfl⟩
 intro _ _ _;dsimp only;refine nQ [.hp c0,.hp h,.box rb (H8 b (kk) ad nd cd) 155,.box b4 [iQ 0,zs,zl,zs,zl] 44,.box b5 [iQ K,sv T,iQ ln,iQ co] 211] λq' hq'=>?_;refine v7 (λs1=>?_) λs1=>?_;focus
  apply hq';refine m9 λq' hq'=>?_;refine v7 (λk1=>?_) λk1=>?_;focus
   have no:nZ (z8 r)=false:=by rw[<-hP];unfold nZ;rw[s1,D9];exact (by simpa using k1:decide (K=1)=false)
   refine lR 2 0 ?_;refine k7 _ (λw' hm=>R1 w' (hm 1 _ rfl) (hk.trans (hm 0 _ rfl).whole) hR) ?_;apply hq';refine v7 (λq1=>?_) λq1=>?_;focus
    skip
   rotate_left
   ·have q1:S7 r [91]=true:=by simpa using q1
    refine nQ [.hp c0,.hp h,.box rb (H8 b (kk) ad nd cd) 155,.box b4 [iQ 0,zs,zl,zs,zl] 44,.box b5 [iQ K,sv T,iQ ln,iQ co] 211] λq' hq'=>?_;apply hq';refine d9 (λv1=>?_) λv1=>?_;focus
     refine nQ [.hp c0,.hp h,.box rb (H8 b (kk) ad nd cd) 155,.box b4 [iQ 0,zs,zl,zs,zl] 44,.box b5 [iQ K,sv T,iQ ln,iQ co] 211] λq' hq'=>?_;refine lR 2 0 ?_;refine k6 (i:=1) rfl (λw0 w' hok=>F9 w' (hok.mem 1 _ rfl) (hok.kle rfl rfl hk) hR) ?_;rintro _ h11 _ ⟨rfl,hR11⟩;have hR11:G0 k h11 b (w9 r 15):=hR11;have eS:expS d r kk=w9 r 15:=by unfold expS;rw[if_neg (λc=>by rw[q1] at c;cases c.2),if_pos om]
     apply hq';refine nQ [.hp c0,.hp h11,.box rb (H8 b (kk) ad nd cd) 155,.box b4 [iQ 0,zs,zl,zs,zl] 44,.box b5 [iQ K,sv T,iQ ln,iQ co] 211] λq' hq'=>?_;refine lR 2 2 ?_;refine nwo ?_;refine iW cQ (i:=2) (j:=2) rfl rfl rfl (by show 2 < 3;decide) rfl rfl ?_;apply hq';refine nQ [.hp c0,.hp h11,.box rb (H8 b (kk+1) ad nd cd) 155,.box b4 [iQ 0,zs,zl,zs,zl] 44,.box b5 [iQ K,sv T,iQ ln,iQ co] 211] λq' hq'=>?_;refine k7 _ (λw' hm=>S4 w' (hm 1 _ rfl) hR11 ((hm 2 _ rfl).whole.cell (I0 rb (cs:=H8 b (kk+1) ad nd cd) _ rfl))) ?_;apply hq';refine d9 (λf1=>?_) λf1=>?_;focus
      skip
     rotate_left
     ·exact absurd (aK r dc) f1
    rotate_left
    focus
     refine nQ [.hp c0,.hp h,.box rb (H8 b (kk) ad nd cd) 155,.box b4 [iQ 0,zs,zl,zs,zl] 44,.box b5 [iQ K,sv T,iQ ln,iQ co] 211] λq' hq'=>?_;refine lR 2 2 ?_;refine k6 (i:=1) rfl (λw0 w' hok=>M6 (n:=kk) (m:=64) rfl rfl w' (hok.mem 1 _ rfl) (DR.mk (hk.trans (hok.le01 rfl rfl)) hR (hok.bx1 (j:=2) (n:=0) rfl rfl dc rfl))) ?_;rintro _ h11 _ ⟨rfl,hR11⟩;have hR11:G0 k h11 b (H6 r kk 64):=hR11;have eS:expS d r kk=H6 r kk 64:=by unfold expS;rw[if_neg (λc=>by rw[q1] at c;cases c.2),if_neg om]
     apply hq';refine nQ [.hp c0,.hp h11,.box rb (H8 b (kk) ad nd cd) 155,.box b4 [iQ 0,zs,zl,zs,zl] 44,.box b5 [iQ K,sv T,iQ ln,iQ co] 211] λq' hq'=>?_;refine lR 2 2 ?_;refine nwo ?_;refine iW cQ (i:=2) (j:=2) rfl rfl rfl (by show 2 < 3;decide) rfl rfl ?_;apply hq';refine nQ [.hp c0,.hp h11,.box rb (H8 b (kk+1) ad nd cd) 155,.box b4 [iQ 0,zs,zl,zs,zl] 44,.box b5 [iQ K,sv T,iQ ln,iQ co] 211] λq' hq'=>?_;refine k7 _ (λw' hm=>S4 w' (hm 1 _ rfl) hR11 ((hm 2 _ rfl).whole.cell (I0 rb (cs:=H8 b (kk+1) ad nd cd) _ rfl))) ?_;apply hq';refine d9 (λf1=>?_) λf1=>?_;focus
      skip
     rotate_left
     ·have h0:(expS d r kk).e=0:=by rw[eS];exact B9.1 f1
      obtain⟨hd0,hk64,eR,h00,_⟩:=uI h0;obtain⟨d',rfl⟩ :∃d',d=d'+1:=⟨d - 1,om⟩
      have eL:H6 r kk 64=r:=by rw[<-eS];exact eR
      rw[eL] at hR11;refine nQ [.hp c0,.hp h11,.box rb (H8 b (kk+1) ad nd cd) 155,.box b4 [iQ 0,zs,zl,zs,zl] 44,.box b5 [iQ K,sv T,iQ ln,iQ co] 211] λq' hq'=>?_;apply hq';refine v7 (λt1=>?_) λt1=>?_
      ·refine nQ [.hp c0,.hp h11,.box rb (H8 b (kk+1) ad nd cd) 155,.box b4 [iQ 0,zs,zl,zs,zl] 44,.box b5 [iQ K,sv T,iQ ln,iQ co] 211] λq' hq'=>?_;refine k6 (i:=1) rfl (λw0 w' hok=>oG w' (hok.mem 1 _ rfl) (DR.mk (hk.trans (hok.le01 rfl rfl)) hR11 (hok.bx1 (j:=2) (n:=0) rfl rfl dc rfl)) (hok.bx1 (j:=2) (n:=1) rfl rfl dc rfl) (hD.mono (j7 _) (hok.le01 rfl rfl)) hDn) ?_;rintro _ hF _ ⟨o,rfl,rfl,hO,hRF⟩;rw[<-hnames] at hO hRF ⊢;apply hq';rw[BE names d' h0 no];exact⟨hF,[.box rb (H8 b (kk+1) ad nd cd) 155,.hp o.h],⟨_,_,rfl,⟨_,rfl,rfl,⟨o.a,o.n,o.c,none,0,0,rfl,w5.sl (f:=bO) (sz:=2) (λ_=>rfl) dc hO,Sl.nil _ _ _ _ _⟩⟩,rfl,hRF⟩,pk [0,1,2,5]⟩
      ·exact absurd no (by rw[<-hP];unfold nZ;rw[s1];simpa using t1)
    all_goals
     rw[pN names d (r:=r) (k:=kk) (by rw[eS];exact f1),eS];exact⟨h11,[.box rb (H8 b (kk+1) ad nd cd) 155,.hp Hp.emp],⟨_,_,rfl,⟨_,rfl,rfl,⟨none,0,0,none,0,0,rfl,Sl.nil _ _ _ _ _,Sl.nil _ _ _ _ _⟩⟩,rfl,hR11⟩,λw' h=>(h.pick [0,1,2] rfl rfl).emp⟩
  rotate_left
  ·apply hq';refine dU rfl ?_;have k1:K=1:=by simpa using k1
   have yo:nZ (z8 r)=true:=by rw[<-hP];unfold nZ;rw[s1,D9];exact decide_eq_true k1
   refine nQ [.hp c0,.hp h,.box rb (H8 b (kk) ad nd cd) 155,.box b4 [iQ 0,zs,zl,zs,zl] 44,.box b5 [iQ K,sv T,iQ ln,iQ co] 211] λq' hq'=>?_;apply hq';refine d9 (λv1=>?_) λv1=>?_;focus
    refine nQ [.hp c0,.hp h,.box rb (H8 b (kk) ad nd cd) 155,.box b4 [iQ 0,zs,zl,zs,zl] 44,.box b5 [iQ K,sv T,iQ ln,iQ co] 211] λq' hq'=>?_;refine lR 2 0 ?_;refine k6 (i:=1) rfl (λw0 w' hok=>F9 w' (hok.mem 1 _ rfl) (hok.kle rfl rfl hk) hR) ?_;rintro _ h11 _ ⟨rfl,hR11⟩;have hR11:G0 k h11 b (w9 r 15):=hR11;have eS:expS d r kk=w9 r 15:=by unfold expS;rw[if_neg (λc=>by rw[yo] at c;cases c.1),if_pos om]
    apply hq';refine nQ [.hp c0,.hp h11,.box rb (H8 b (kk) ad nd cd) 155,.box b4 [iQ 0,zs,zl,zs,zl] 44,.box b5 [iQ K,sv T,iQ ln,iQ co] 211] λq' hq'=>?_;refine lR 2 2 ?_;refine nwo ?_;refine iW cQ (i:=2) (j:=2) rfl rfl rfl (by show 2 < 3;decide) rfl rfl ?_;apply hq';refine nQ [.hp c0,.hp h11,.box rb (H8 b (kk+1) ad nd cd) 155,.box b4 [iQ 0,zs,zl,zs,zl] 44,.box b5 [iQ K,sv T,iQ ln,iQ co] 211] λq' hq'=>?_;refine k7 _ (λw' hm=>S4 w' (hm 1 _ rfl) hR11 ((hm 2 _ rfl).whole.cell (I0 rb (cs:=H8 b (kk+1) ad nd cd) _ rfl))) ?_;apply hq';refine d9 (λf1=>?_) λf1=>?_;focus
     skip
    rotate_left
    ·exact absurd (aK r dc) f1
   rotate_left
   focus
    refine nQ [.hp c0,.hp h,.box rb (H8 b (kk) ad nd cd) 155,.box b4 [iQ 0,zs,zl,zs,zl] 44,.box b5 [iQ K,sv T,iQ ln,iQ co] 211] λq' hq'=>?_;refine lR 2 2 ?_;refine k6 (i:=1) rfl (λw0 w' hok=>M6 (n:=kk) (m:=64) rfl rfl w' (hok.mem 1 _ rfl) (DR.mk (hk.trans (hok.le01 rfl rfl)) hR (hok.bx1 (j:=2) (n:=0) rfl rfl dc rfl))) ?_;rintro _ h11 _ ⟨rfl,hR11⟩;have hR11:G0 k h11 b (H6 r kk 64):=hR11;have eS:expS d r kk=H6 r kk 64:=by unfold expS;rw[if_neg (λc=>by rw[yo] at c;cases c.1),if_neg om]
    apply hq';refine nQ [.hp c0,.hp h11,.box rb (H8 b (kk) ad nd cd) 155,.box b4 [iQ 0,zs,zl,zs,zl] 44,.box b5 [iQ K,sv T,iQ ln,iQ co] 211] λq' hq'=>?_;refine lR 2 2 ?_;refine nwo ?_;refine iW cQ (i:=2) (j:=2) rfl rfl rfl (by show 2 < 3;decide) rfl rfl ?_;apply hq';refine nQ [.hp c0,.hp h11,.box rb (H8 b (kk+1) ad nd cd) 155,.box b4 [iQ 0,zs,zl,zs,zl] 44,.box b5 [iQ K,sv T,iQ ln,iQ co] 211] λq' hq'=>?_;refine k7 _ (λw' hm=>S4 w' (hm 1 _ rfl) hR11 ((hm 2 _ rfl).whole.cell (I0 rb (cs:=H8 b (kk+1) ad nd cd) _ rfl))) ?_;apply hq';refine d9 (λf1=>?_) λf1=>?_;focus
     skip
    rotate_left
    ·have h0:(expS d r kk).e=0:=by rw[eS];exact B9.1 f1
     obtain⟨hd0,hk64,eR,h00,_⟩:=uI h0;obtain⟨d',rfl⟩ :∃d',d=d'+1:=⟨d - 1,om⟩
     have eL:H6 r kk 64=r:=by rw[<-eS];exact eR
     rw[eL] at hR11;obtain⟨op,hop⟩ :∃x,x=(JG T).getD 0:=⟨_,rfl⟩
     rw[<-hop];refine nQ [.hp c0,.hp h11,.box rb (H8 b (kk+1) ad nd cd) 155,.box b4 [iQ 0,zs,zl,zs,zl] 44,.box b5 [iQ K,sv T,iQ ln,iQ co] 211] λq' hq'=>?_;apply hq';refine v7 (λt1=>?_) λt1=>?_
     ·exact absurd k1 (by simpa using t1)
     ·refine nQ [.hp c0,.hp h11,.box rb (H8 b (kk+1) ad nd cd) 155,.box b4 [iQ 0,zs,zl,zs,zl] 44,.box b5 [iQ K,sv T,iQ ln,iQ co] 211] λq' hq'=>?_;refine lR 2 0 ?_;refine k6 (i:=1) rfl (λw0 w' hok=>cS w' (hok.mem 1 _ rfl) (hok.kle rfl rfl hk) hR11) ?_;rintro _ h12 _ ⟨rfl,rfl,hR12⟩;have hR12:G0 k h12 b (C6 r):=hR12;apply hq';refine nQ [.hp c0,.hp h12,.box rb (H8 b (kk+1) ad nd cd) 155,.box b4 [iQ 0,zs,zl,zs,zl] 44,.box b5 [iQ K,sv T,iQ ln,iQ co] 211] λq' hq'=>?_;intro b8;apply hq';refine nQ [.hp c0,.hp h12,.box rb (H8 b (kk+1) ad nd cd) 155,.box b4 [iQ 0,zs,zl,zs,zl] 44,.box b5 [iQ K,sv T,iQ ln,iQ co] 211,.box b8 [iQ op,zs,zl,zs,zl] 44] λq' hq'=>?_;apply hq';obtain⟨p,hp⟩ :∃x,x=(if op=2 then L9 (C6 r) else (C6 r,[])):=⟨_,rfl⟩
      have hp0:=hp;refine d9 (λo2=>?_) λo2=>?_
      ·refine nQ [.hp c0,.hp h12,.box rb (H8 b (kk+1) ad nd cd) 155,.box b4 [iQ 0,zs,zl,zs,zl] 44,.box b5 [iQ K,sv T,iQ ln,iQ co] 211,.box b8 [iQ op,zs,zl,zs,zl] 44] λq' hq'=>?_;refine k6 (i:=1) rfl (λw0 w' hok=>V0 w' (hok.mem 1 _ rfl) (DR.mk (hk.trans (hok.le01 rfl rfl)) hR12 (hok.bx1 (j:=2) (n:=0) rfl rfl dc rfl))) ?_;rintro _ h13 _ ⟨rfl,rfl,hR13⟩;have hR13:G0 k h13 b ((L9 (C6 r)).1):=hR13;rw[if_pos o2] at hp;rw[<-hp] at hR13 ⊢;apply hq';refine nQ [.hp c0,.hp h13,.box rb (H8 b (kk+1) ad nd cd) 155,.box b4 [iQ 0,zs,zl,zs,zl] 44,.box b5 [iQ K,sv T,iQ ln,iQ co] 211,.box b8 [iQ op,zs,zl,sv p.2,zl] 44] λq' hq'=>?_;refine lR 2 0 ?_;refine k6 (i:=1) rfl (λw0 w' hok=>l6 w' (hok.mem 1 _ rfl) (hok.kle rfl rfl hk) hR13) ?_;rintro _ h14 _ ⟨rfl,hR14⟩;have hR14:G0 k h14 b (s8 p.1 [40]):=hR14;apply hq';obtain⟨A,hA⟩ :∃x,x=J8 names d' (s8 p.1 [40]) (kk+1):=⟨_,rfl⟩
       refine u6.cut (Hp×Hp×Dw.Os) (λ_=>[(0,.v (pQ rb)),(1,.v (iQ lv)),(4,.bx 3 0),(6,.v (iQ op)),(8,.bx 5 0)]) (λg=>[.hp c0,.hp g.1,.box rb (H8 b A.2.1 ad nd cd) 155,.box b4 [iQ 0,zs,zl,zs,zl] 44,.box b5 [iQ K,sv T,iQ ln,iQ co] 211,.box b8 [iQ op,zs,zl,sv p.2,g.2.2.v] 44,.hp g.2.1,.hp g.2.2.h]) (λg=>G0 k g.1 b A.1/\aR (bE (d'+1)) 44 5 g.2.1 g.2.2 [A.2.2]) (u6.by_order0 (s0:=[.hp c0,.hp Hp.emp,.hp Hp.emp,.box b4 [iQ 0,zs,zl,zs,zl] 44,.box b5 [iQ K,sv T,iQ ln,iQ co] 211,.box b8 [iQ op,zs,zl,sv p.2,zl] 44]) cQ (.take 0 <| .take 1 <| .take 2 <| .take 3 <| .take 4 <| .run 5 <| .run 6 <| .run 7 <| .run 8 <| .run 9 <| .done) kr (sK) ?_) ?_
       ·refine nwo ?_;refine pS (i:=2) (j:=1) dc rfl rfl (λw0 w' hok=>ih d' rfl k h14 rb b (s8 p.1 [40]) (kk+1) ad nd cd (lv+1) w' om (hok.inJ (i:=2) (j:=1) (c:=.box rb (H8 b (kk+1) ad nd cd) 155) (d:=.hp h14) rfl rfl) (hok.disj 2 1 _ _ dc rfl rfl) (hk.trans (hok.le2 (i:=2) (j:=1) (m:=0) dc dc rfl rfl rfl)) hR14 (hD.mono (j7 _) (hok.le2 (i:=2) (j:=1) (m:=0) dc dc rfl rfl rfl)) om) ?_;rintro _ _ h9 H9 ⟨⟨xs,rfl,hx5,hE⟩,rfl,hR9⟩;rw[<-hnames,<-hA] at hE hR9 ⊢;have hE2:=hE;obtain⟨X,hX⟩ :∃X,X=A.2.2:=⟨_,rfl⟩
        rw[<-hX] at hE2;obtain⟨op9,f9,fac9,args9⟩:=X;obtain⟨a9,n9,c9,a8,n8,c8,rfl,_,_⟩:=hE2;refine⟨sK,?_⟩;intro b9;refine⟨sK,?_⟩;refine Pr (R:=bE (d'+1)) (H:=H9) cQ (e:=44) rfl A.2.2 [iQ op9,sv f9.1,.slice a9 n9 c9,sv fac9,.slice a8 n8 c8] (j:=7) rfl rfl rfl rfl (λ_=>hE) λo9 _ hG9=>?_;refine⟨sK,?_⟩;exact⟨(h9,H9,o9),⟨hR9,hG9⟩,y6.mk (pj [0,1,2,3,4,5,6,8]) rfl rfl⟩
       rintro⟨h9,H9,o9⟩ ⟨hR9,hG9⟩ _;dsimp only at hR9 hG9 ⊢;obtain⟨tot,htot⟩ :∃x,x=(if op≠2/\op≠5 then Z0 (J8 names d') (G2 A.1) A.1 A.2.1 [A.2.2] else (A.1,A.2.1,[A.2.2])):=⟨_,rfl⟩
       have hAk:=vO names d' (s8 p.1 [40]) (kk+1) om;rw[<-hA] at hAk;refine z6.mkS (RS×Nat×List Ex×Hp×Hp×Dw.Os) (λ_=>[(0,.v (pQ rb)),(1,.v (iQ lv)),(4,.bx 3 0),(6,.v (iQ op)),(8,.bx 5 0)]) (λg=>[.hp c0,.hp g.2.2.2.1,.box rb (H8 b g.2.1 ad nd cd) 155,.box b4 [iQ 0,zs,zl,zs,zl] 44,.box b5 [iQ K,sv T,iQ ln,iQ co] 211,.box b8 [iQ op,zs,zl,sv p.2,g.2.2.2.2.2.v] 44,.hp g.2.2.2.2.1,.hp g.2.2.2.2.2.h])
        (λg=>G0 k g.2.2.2.1 b g.1/\aR (bE (d'+1)) 44 5 g.2.2.2.2.1 g.2.2.2.2.2 g.2.2.1/\(∃f,G2 g.1<=f/\(if op≠2/\op≠5 then Z0 (J8 names d') f g.1 g.2.1 g.2.2.1 else (g.1,g.2.1,g.2.2.1))=tot)/\g.2.1<=65/\(g.1.e=0->g.2.1<=64)/\g.2.2.1.length<=g.2.1) (λg=>G2 g.1) (A.1,A.2.1,[A.2.2],h9,H9,o9)
        ⟨hR9,hG9,⟨G2 A.1,j8 _,htot.symm⟩,hAk.2.1,hAk.2.2,by have:=hAk.1;simp only[d7,i6];omega⟩ (y6.mk (λ_ _ h=>h) rfl rfl) ?_
       rintro⟨rr,ka,out,hh,H,o⟩ ⟨hRr,hG,⟨f,hf,htr⟩,hka,hke,hlo⟩ hsat;have hHo:H.dj o.h:=by obtain⟨w0,w1,hok⟩:=hsat;exact hok.disj 6 7 _ _ dc rfl rfl
       dsimp only at hRr hG hf htr hka hke hlo ⊢;have hRend:rr.e=0->cU rr.ts:=by obtain⟨_,_,_,_,_,hE,_⟩:=hRr;exact hE
       have hpk:(JG (z8 r).2.1).getD 0=op:=by rw[<-hP,hop]
       have fin_:tot=(rr,ka,out)->J8 names (d'+1) r kk=(s8 rr [41],ka,.mk op ([],[]) p.2 out):=λeT=>by
        unfold J8;rw[if_neg (λc=>c h0),if_neg (by rw[yo];decide)];dsimp only;rw[hpk,<-hp0,<-hA,<-htot,eT]
       refine nQ [.hp c0,.hp hh,.box rb (H8 b (ka) ad nd cd) 155,.box b4 [iQ 0,zs,zl,zs,zl] 44,.box b5 [iQ K,sv T,iQ ln,iQ co] 211,.box b8 [iQ op,zs,zl,sv p.2,o.v] 44,.hp H,.hp o.h] λq' hq'=>?_;refine d9 (λq2=>?_) λq2=>?_
       ·refine d9 (λq5=>?_) λq5=>?_;focus
         refine lR 2 0 ?_;refine k6 (i:=1) rfl (λw0 w' hok=>cR (s:=[44]) w' (hok.mem 1 _ rfl) (hok.kle rfl rfl hk) hRr) ?_;rintro _ h20 _ ⟨rfl,rfl,hR20⟩;apply hq';refine v7 (λg1=>?_) λg1=>?_
         ·have hR20:G0 k h20 b (C6 rr):=by unfold R3 at hR20;rw[if_pos g1] at hR20;exact hR20
          obtain⟨A2,hA2⟩ :∃x,x=J8 names d' (C6 rr) ka:=⟨_,rfl⟩
          have hk2:=vO names d' (C6 rr) ka (hke (P5 g1).1);have hlt:=YZ names d' hRend g1 ka;have hka2:ka<=64:=hke (P5 g1).1;rw[<-hA2] at hk2 hlt;refine u6.cut (Hp×Hp×Dw.Os) (λ_=>[(0,.v (pQ rb)),(1,.v (iQ lv)),(4,.bx 3 0),(6,.v (iQ op)),(8,.bx 5 0)]) (λg=>[.hp c0,.hp g.1,.box rb (H8 b A2.2.1 ad nd cd) 155,.box b4 [iQ 0,zs,zl,zs,zl] 44,.box b5 [iQ K,sv T,iQ ln,iQ co] 211,.box b8 [iQ op,zs,zl,sv p.2,g.2.2.v] 44,.hp g.2.1,.hp g.2.2.h]) (λg=>G0 k g.1 b A2.1/\aR (bE (d'+1)) 44 5 g.2.1 g.2.2 (out++[A2.2.2])) (u6.by_order0 (s0:=[.hp c0,.hp Hp.emp,.hp Hp.emp,.box b4 [iQ 0,zs,zl,zs,zl] 44,.box b5 [iQ K,sv T,iQ ln,iQ co] 211,.box b8 [iQ op,zs,zl,sv p.2,o.v] 44,.hp H,.hp Hp.emp]) cQ (.take 0 <| .take 1 <| .take 2 <| .take 3 <| .take 4 <| .run 5 <| .run 6 <| .run 7 <| .run 8 <| .run 9 <| .done) kr (sK) ?_) ?_
          ·refine nwo ?_;refine pS (i:=2) (j:=1) dc rfl rfl (λw0 w' hok=>ih d' rfl k h20 rb b (C6 rr) ka ad nd cd (lv+1) w' om (hok.inJ (i:=2) (j:=1) (c:=.box rb (H8 b ka ad nd cd) 155) (d:=.hp h20) rfl rfl) (hok.disj 2 1 _ _ dc rfl rfl) (hk.trans (hok.le2 (i:=2) (j:=1) (m:=0) dc dc rfl rfl rfl)) hR20 (hD.mono (j7 _) (hok.le2 (i:=2) (j:=1) (m:=0) dc dc rfl rfl rfl)) hka2) ?_;rintro _ _ h22 H22 ⟨⟨xs,rfl,hx5,hE⟩,rfl,hR22⟩;rw[<-hnames,<-hA2] at hE hR22 ⊢;have hE2:=hE;obtain⟨X,hX⟩ :∃X,X=A2.2.2:=⟨_,rfl⟩
           rw[<-hX] at hE2;obtain⟨op9,f9,fac9,args9⟩:=X;obtain⟨a9,n9,c9,a8,n8,c8,rfl,_,_⟩:=hE2;refine⟨sK,?_⟩;intro b9;refine⟨sK,?_⟩;refine qM (R:=bE (d'+1)) (o:=o) (L:=out) (H:=H.join H22) cQ (e:=44) rfl (i:=7) rfl (λ_=>hG.mono (D6 _) (Hp.le_join_l _ _)) A2.2.2 [iQ op9,sv f9.1,.slice a9 n9 c9,sv fac9,.slice a8 n8 c8] (j:=9) rfl rfl rfl rfl om (λhs=>?_) λo23 _ hG23=>?_
           ·obtain⟨w0,w',hok⟩:=hs;exact D6 _ _ _ _ _ (Hp.le_join_r (hok.disj 6 8 _ _ dc rfl rfl)) hE
           refine⟨sK,?_⟩;exact⟨(h22,H.join H22,o23),⟨hR22,hG23⟩,y6.mk (λ_ _ h=>(Ok.join (h.pick [0,6,8,1,2,3,4,5,7] rfl rfl)).pick [0,2,3,4,5,6,1,7] rfl rfl) rfl rfl⟩
          rintro⟨h21,H21,o21⟩ ⟨hR21,hG21⟩ _;dsimp only at hR21 hG21 ⊢;refine⟨(A2.1,A2.2.1,out++[A2.2.2],h21,H21,o21),⟨hR21,hG21,?_,hk2.2.1,hk2.2.2,?_⟩,hlt,y6.mk (λ_ _ h=>h) rfl rfl⟩
          ·cases f with
           | zero=>exact absurd hf (by have:=kX hRend g1;omega)
           | succ f=>
            refine⟨f,by dsimp only;omega,?_⟩;dsimp only;rw[<-htr,if_pos ⟨q2,q5⟩,if_pos ⟨q2,q5⟩];conv=>rhs;unfold Z0
            rw[if_pos g1,<-hA2]
          ·have:=hk2.1;simp only[d6,d7,i6];omega
         focus
          have hR20:G0 k h20 b rr:=by unfold R3 at hR20;rw[if_neg (by rw[g1];decide)] at hR20;exact hR20
          have eX:=fin_ (by rw[<-htr,if_pos ⟨q2,q5⟩];cases f with | zero=>rfl | succ f=>(unfold Z0;rw[if_neg (by rw[g1];decide)]));refine nQ [.hp c0,.hp h20,.box rb (H8 b (ka) ad nd cd) 155,.box b4 [iQ 0,zs,zl,zs,zl] 44,.box b5 [iQ K,sv T,iQ ln,iQ co] 211,.box b8 [iQ op,zs,zl,sv p.2,o.v] 44,.hp H,.hp o.h] λq' hq'=>?_;refine lR 2 0 ?_;refine k6 (i:=1) rfl (λw0 w' hok=>l6 w' (hok.mem 1 _ rfl) (hok.kle rfl rfl hk) hR20) ?_
        rotate_left
        focus
         apply hq';refine dU rfl ?_;have eX:=fin_ (by rw[<-htr,if_neg (λc=>q5 c.2)]);refine nQ [.hp c0,.hp hh,.box rb (H8 b (ka) ad nd cd) 155,.box b4 [iQ 0,zs,zl,zs,zl] 44,.box b5 [iQ K,sv T,iQ ln,iQ co] 211,.box b8 [iQ op,zs,zl,sv p.2,o.v] 44,.hp H,.hp o.h] λq' hq'=>?_;refine lR 2 0 ?_;refine k6 (i:=1) rfl (λw0 w' hok=>l6 w' (hok.mem 1 _ rfl) (hok.kle rfl rfl hk) hRr) ?_
        all_goals
         rintro _ h15 _ ⟨rfl,hR15⟩;have hR15:G0 k h15 b (s8 rr [41]):=hR15;apply hq';rw[eX];exact⟨h15,[.box rb (H8 b ka ad nd cd) 155,.hp (H.join o.h)],⟨_,_,rfl,⟨_,rfl,rfl,⟨none,0,0,o.a,o.n,o.c,rfl,Sl.nil _ _ _ _ _,hG.sl (D6 _) (by decide:0 < 5) (Hp.le_join_l _ _) (Hp.le_join_r hHo)⟩⟩,rfl,hR15⟩,λw' h=>(Ok.join (h.pick [0,6,7,1,2] rfl rfl)).pick [0,2,3,1] rfl rfl⟩
       ·apply hq';refine dU rfl ?_;have eX:=fin_ (by rw[<-htr,if_neg (λc=>q2 c.1)]);refine nQ [.hp c0,.hp hh,.box rb (H8 b (ka) ad nd cd) 155,.box b4 [iQ 0,zs,zl,zs,zl] 44,.box b5 [iQ K,sv T,iQ ln,iQ co] 211,.box b8 [iQ op,zs,zl,sv p.2,o.v] 44,.hp H,.hp o.h] λq' hq'=>?_;refine lR 2 0 ?_;refine k6 (i:=1) rfl (λw0 w' hok=>l6 w' (hok.mem 1 _ rfl) (hok.kle rfl rfl hk) hRr) ?_;rintro _ h15 _ ⟨rfl,hR15⟩;have hR15:G0 k h15 b (s8 rr [41]):=hR15;apply hq';rw[eX];exact⟨h15,[.box rb (H8 b ka ad nd cd) 155,.hp (H.join o.h)],⟨_,_,rfl,⟨_,rfl,rfl,⟨none,0,0,o.a,o.n,o.c,rfl,Sl.nil _ _ _ _ _,hG.sl (D6 _) (by decide:0 < 5) (Hp.le_join_l _ _) (Hp.le_join_r hHo)⟩⟩,rfl,hR15⟩,λw' h=>(Ok.join (h.pick [0,6,7,1,2] rfl rfl)).pick [0,2,3,1] rfl rfl⟩
      ·rw[if_neg o2] at hp;have p1:p.1=C6 r:=by rw[hp]
       have p2:p.2 = []:=by rw[hp]
       rw[<-p1] at hR12;have hb8:(Value.string (bs ([]:d8)))=sv p.2:=by rw[p2]
       refine cD [.hp c0,.hp h12,.box rb (H8 b (kk+1) ad nd cd) 155,.box b4 [iQ 0,zs,zl,zs,zl] 44,.box b5 [iQ K,sv T,iQ ln,iQ co] 211,.box b8 [iQ op,zs,zl,sv p.2,zl] 44] (by rw[p2]) ?_;refine m9 λq' hq'=>?_;refine lR 2 0 ?_;refine k6 (i:=1) rfl (λw0 w' hok=>l6 w' (hok.mem 1 _ rfl) (hok.kle rfl rfl hk) hR12) ?_;rintro _ h13 _ ⟨rfl,hR13⟩;have hR13:G0 k h13 b (s8 p.1 [40]):=hR13;apply hq';obtain⟨A,hA⟩ :∃x,x=J8 names d' (s8 p.1 [40]) (kk+1):=⟨_,rfl⟩
       refine u6.cut (Hp×Hp×Dw.Os) (λ_=>[(0,.v (pQ rb)),(1,.v (iQ lv)),(4,.bx 3 0),(6,.v (iQ op)),(8,.bx 5 0)]) (λg=>[.hp c0,.hp g.1,.box rb (H8 b A.2.1 ad nd cd) 155,.box b4 [iQ 0,zs,zl,zs,zl] 44,.box b5 [iQ K,sv T,iQ ln,iQ co] 211,.box b8 [iQ op,zs,zl,sv p.2,g.2.2.v] 44,.hp g.2.1,.hp g.2.2.h]) (λg=>G0 k g.1 b A.1/\aR (bE (d'+1)) 44 5 g.2.1 g.2.2 [A.2.2]) (u6.by_order0 (s0:=[.hp c0,.hp Hp.emp,.hp Hp.emp,.box b4 [iQ 0,zs,zl,zs,zl] 44,.box b5 [iQ K,sv T,iQ ln,iQ co] 211,.box b8 [iQ op,zs,zl,sv p.2,zl] 44]) cQ (.take 0 <| .take 1 <| .take 2 <| .take 3 <| .take 4 <| .run 5 <| .run 6 <| .run 7 <| .run 8 <| .run 9 <| .done) kr (sK) ?_) ?_
       ·refine nwo ?_;refine pS (i:=2) (j:=1) dc rfl rfl (λw0 w' hok=>ih d' rfl k h13 rb b (s8 p.1 [40]) (kk+1) ad nd cd (lv+1) w' om (hok.inJ (i:=2) (j:=1) (c:=.box rb (H8 b (kk+1) ad nd cd) 155) (d:=.hp h13) rfl rfl) (hok.disj 2 1 _ _ dc rfl rfl) (hk.trans (hok.le2 (i:=2) (j:=1) (m:=0) dc dc rfl rfl rfl)) hR13 (hD.mono (j7 _) (hok.le2 (i:=2) (j:=1) (m:=0) dc dc rfl rfl rfl)) om) ?_;rintro _ _ h9 H9 ⟨⟨xs,rfl,hx5,hE⟩,rfl,hR9⟩;rw[<-hnames,<-hA] at hE hR9 ⊢;have hE2:=hE;obtain⟨X,hX⟩ :∃X,X=A.2.2:=⟨_,rfl⟩
        rw[<-hX] at hE2;obtain⟨op9,f9,fac9,args9⟩:=X;obtain⟨a9,n9,c9,a8,n8,c8,rfl,_,_⟩:=hE2;refine⟨sK,?_⟩;intro b9;refine⟨sK,?_⟩;refine Pr (R:=bE (d'+1)) (H:=H9) cQ (e:=44) rfl A.2.2 [iQ op9,sv f9.1,.slice a9 n9 c9,sv fac9,.slice a8 n8 c8] (j:=7) rfl rfl rfl rfl (λ_=>hE) λo9 _ hG9=>?_;refine⟨sK,?_⟩;exact⟨(h9,H9,o9),⟨hR9,hG9⟩,y6.mk (pj [0,1,2,3,4,5,6,8]) rfl rfl⟩
       rintro⟨h9,H9,o9⟩ ⟨hR9,hG9⟩ _;dsimp only at hR9 hG9 ⊢;obtain⟨tot,htot⟩ :∃x,x=(if op≠2/\op≠5 then Z0 (J8 names d') (G2 A.1) A.1 A.2.1 [A.2.2] else (A.1,A.2.1,[A.2.2])):=⟨_,rfl⟩
       have hAk:=vO names d' (s8 p.1 [40]) (kk+1) om;rw[<-hA] at hAk;refine z6.mkS (RS×Nat×List Ex×Hp×Hp×Dw.Os) (λ_=>[(0,.v (pQ rb)),(1,.v (iQ lv)),(4,.bx 3 0),(6,.v (iQ op)),(8,.bx 5 0)]) (λg=>[.hp c0,.hp g.2.2.2.1,.box rb (H8 b g.2.1 ad nd cd) 155,.box b4 [iQ 0,zs,zl,zs,zl] 44,.box b5 [iQ K,sv T,iQ ln,iQ co] 211,.box b8 [iQ op,zs,zl,sv p.2,g.2.2.2.2.2.v] 44,.hp g.2.2.2.2.1,.hp g.2.2.2.2.2.h])
        (λg=>G0 k g.2.2.2.1 b g.1/\aR (bE (d'+1)) 44 5 g.2.2.2.2.1 g.2.2.2.2.2 g.2.2.1/\(∃f,G2 g.1<=f/\(if op≠2/\op≠5 then Z0 (J8 names d') f g.1 g.2.1 g.2.2.1 else (g.1,g.2.1,g.2.2.1))=tot)/\g.2.1<=65/\(g.1.e=0->g.2.1<=64)/\g.2.2.1.length<=g.2.1) (λg=>G2 g.1) (A.1,A.2.1,[A.2.2],h9,H9,o9)
        ⟨hR9,hG9,⟨G2 A.1,j8 _,htot.symm⟩,hAk.2.1,hAk.2.2,by have:=hAk.1;simp only[d7,i6];omega⟩ (y6.mk (λ_ _ h=>h) rfl rfl) ?_
       rintro⟨rr,ka,out,hh,H,o⟩ ⟨hRr,hG,⟨f,hf,htr⟩,hka,hke,hlo⟩ hsat;have hHo:H.dj o.h:=by obtain⟨w0,w1,hok⟩:=hsat;exact hok.disj 6 7 _ _ dc rfl rfl
       dsimp only at hRr hG hf htr hka hke hlo ⊢;have hRend:rr.e=0->cU rr.ts:=by obtain⟨_,_,_,_,_,hE,_⟩:=hRr;exact hE
       have hpk:(JG (z8 r).2.1).getD 0=op:=by rw[<-hP,hop]
       have fin_:tot=(rr,ka,out)->J8 names (d'+1) r kk=(s8 rr [41],ka,.mk op ([],[]) p.2 out):=λeT=>by
        unfold J8;rw[if_neg (λc=>c h0),if_neg (by rw[yo];decide)];dsimp only;rw[hpk,<-hp0,<-hA,<-htot,eT]
       refine nQ [.hp c0,.hp hh,.box rb (H8 b (ka) ad nd cd) 155,.box b4 [iQ 0,zs,zl,zs,zl] 44,.box b5 [iQ K,sv T,iQ ln,iQ co] 211,.box b8 [iQ op,zs,zl,sv p.2,o.v] 44,.hp H,.hp o.h] λq' hq'=>?_;refine d9 (λq2=>?_) λq2=>?_
       ·refine d9 (λq5=>?_) λq5=>?_;focus
         refine lR 2 0 ?_;refine k6 (i:=1) rfl (λw0 w' hok=>cR (s:=[44]) w' (hok.mem 1 _ rfl) (hok.kle rfl rfl hk) hRr) ?_;rintro _ h20 _ ⟨rfl,rfl,hR20⟩;apply hq';refine v7 (λg1=>?_) λg1=>?_
         ·have hR20:G0 k h20 b (C6 rr):=by unfold R3 at hR20;rw[if_pos g1] at hR20;exact hR20
          obtain⟨A2,hA2⟩ :∃x,x=J8 names d' (C6 rr) ka:=⟨_,rfl⟩
          have hk2:=vO names d' (C6 rr) ka (hke (P5 g1).1);have hlt:=YZ names d' hRend g1 ka;have hka2:ka<=64:=hke (P5 g1).1;rw[<-hA2] at hk2 hlt;refine u6.cut (Hp×Hp×Dw.Os) (λ_=>[(0,.v (pQ rb)),(1,.v (iQ lv)),(4,.bx 3 0),(6,.v (iQ op)),(8,.bx 5 0)]) (λg=>[.hp c0,.hp g.1,.box rb (H8 b A2.2.1 ad nd cd) 155,.box b4 [iQ 0,zs,zl,zs,zl] 44,.box b5 [iQ K,sv T,iQ ln,iQ co] 211,.box b8 [iQ op,zs,zl,sv p.2,g.2.2.v] 44,.hp g.2.1,.hp g.2.2.h]) (λg=>G0 k g.1 b A2.1/\aR (bE (d'+1)) 44 5 g.2.1 g.2.2 (out++[A2.2.2])) (u6.by_order0 (s0:=[.hp c0,.hp Hp.emp,.hp Hp.emp,.box b4 [iQ 0,zs,zl,zs,zl] 44,.box b5 [iQ K,sv T,iQ ln,iQ co] 211,.box b8 [iQ op,zs,zl,sv p.2,o.v] 44,.hp H,.hp Hp.emp]) cQ (.take 0 <| .take 1 <| .take 2 <| .take 3 <| .take 4 <| .run 5 <| .run 6 <| .run 7 <| .run 8 <| .run 9 <| .done) kr (sK) ?_) ?_
          ·refine nwo ?_;refine pS (i:=2) (j:=1) dc rfl rfl (λw0 w' hok=>ih d' rfl k h20 rb b (C6 rr) ka ad nd cd (lv+1) w' om (hok.inJ (i:=2) (j:=1) (c:=.box rb (H8 b ka ad nd cd) 155) (d:=.hp h20) rfl rfl) (hok.disj 2 1 _ _ dc rfl rfl) (hk.trans (hok.le2 (i:=2) (j:=1) (m:=0) dc dc rfl rfl rfl)) hR20 (hD.mono (j7 _) (hok.le2 (i:=2) (j:=1) (m:=0) dc dc rfl rfl rfl)) hka2) ?_;rintro _ _ h22 H22 ⟨⟨xs,rfl,hx5,hE⟩,rfl,hR22⟩;rw[<-hnames,<-hA2] at hE hR22 ⊢;have hE2:=hE;obtain⟨X,hX⟩ :∃X,X=A2.2.2:=⟨_,rfl⟩
           rw[<-hX] at hE2;obtain⟨op9,f9,fac9,args9⟩:=X;obtain⟨a9,n9,c9,a8,n8,c8,rfl,_,_⟩:=hE2;refine⟨sK,?_⟩;intro b9;refine⟨sK,?_⟩;refine qM (R:=bE (d'+1)) (o:=o) (L:=out) (H:=H.join H22) cQ (e:=44) rfl (i:=7) rfl (λ_=>hG.mono (D6 _) (Hp.le_join_l _ _)) A2.2.2 [iQ op9,sv f9.1,.slice a9 n9 c9,sv fac9,.slice a8 n8 c8] (j:=9) rfl rfl rfl rfl om (λhs=>?_) λo23 _ hG23=>?_
           ·obtain⟨w0,w',hok⟩:=hs;exact D6 _ _ _ _ _ (Hp.le_join_r (hok.disj 6 8 _ _ dc rfl rfl)) hE
           refine⟨sK,?_⟩;exact⟨(h22,H.join H22,o23),⟨hR22,hG23⟩,y6.mk (λ_ _ h=>(Ok.join (h.pick [0,6,8,1,2,3,4,5,7] rfl rfl)).pick [0,2,3,4,5,6,1,7] rfl rfl) rfl rfl⟩
          rintro⟨h21,H21,o21⟩ ⟨hR21,hG21⟩ _;dsimp only at hR21 hG21 ⊢;refine⟨(A2.1,A2.2.1,out++[A2.2.2],h21,H21,o21),⟨hR21,hG21,?_,hk2.2.1,hk2.2.2,?_⟩,hlt,y6.mk (λ_ _ h=>h) rfl rfl⟩
          ·cases f with
           | zero=>exact absurd hf (by have:=kX hRend g1;omega)
           | succ f=>
            refine⟨f,by dsimp only;omega,?_⟩;dsimp only;rw[<-htr,if_pos ⟨q2,q5⟩,if_pos ⟨q2,q5⟩];conv=>rhs;unfold Z0
            rw[if_pos g1,<-hA2]
          ·have:=hk2.1;simp only[d6,d7,i6];omega
         focus
          have hR20:G0 k h20 b rr:=by unfold R3 at hR20;rw[if_neg (by rw[g1];decide)] at hR20;exact hR20
          have eX:=fin_ (by rw[<-htr,if_pos ⟨q2,q5⟩];cases f with | zero=>rfl | succ f=>(unfold Z0;rw[if_neg (by rw[g1];decide)]));refine nQ [.hp c0,.hp h20,.box rb (H8 b (ka) ad nd cd) 155,.box b4 [iQ 0,zs,zl,zs,zl] 44,.box b5 [iQ K,sv T,iQ ln,iQ co] 211,.box b8 [iQ op,zs,zl,sv p.2,o.v] 44,.hp H,.hp o.h] λq' hq'=>?_;refine lR 2 0 ?_;refine k6 (i:=1) rfl (λw0 w' hok=>l6 w' (hok.mem 1 _ rfl) (hok.kle rfl rfl hk) hR20) ?_
        rotate_left
        focus
         apply hq';refine dU rfl ?_;have eX:=fin_ (by rw[<-htr,if_neg (λc=>q5 c.2)]);refine nQ [.hp c0,.hp hh,.box rb (H8 b (ka) ad nd cd) 155,.box b4 [iQ 0,zs,zl,zs,zl] 44,.box b5 [iQ K,sv T,iQ ln,iQ co] 211,.box b8 [iQ op,zs,zl,sv p.2,o.v] 44,.hp H,.hp o.h] λq' hq'=>?_;refine lR 2 0 ?_;refine k6 (i:=1) rfl (λw0 w' hok=>l6 w' (hok.mem 1 _ rfl) (hok.kle rfl rfl hk) hRr) ?_
        all_goals
         rintro _ h14 _ ⟨rfl,hR14⟩;have hR14:G0 k h14 b (s8 rr [41]):=hR14;apply hq';rw[eX];exact⟨h14,[.box rb (H8 b ka ad nd cd) 155,.hp (H.join o.h)],⟨_,_,rfl,⟨_,rfl,rfl,⟨none,0,0,o.a,o.n,o.c,rfl,Sl.nil _ _ _ _ _,hG.sl (D6 _) (by decide:0 < 5) (Hp.le_join_l _ _) (Hp.le_join_r hHo)⟩⟩,rfl,hR14⟩,λw' h=>(Ok.join (h.pick [0,6,7,1,2] rfl rfl)).pick [0,2,3,1] rfl rfl⟩
       ·apply hq';refine dU rfl ?_;have eX:=fin_ (by rw[<-htr,if_neg (λc=>q2 c.1)]);refine nQ [.hp c0,.hp hh,.box rb (H8 b (ka) ad nd cd) 155,.box b4 [iQ 0,zs,zl,zs,zl] 44,.box b5 [iQ K,sv T,iQ ln,iQ co] 211,.box b8 [iQ op,zs,zl,sv p.2,o.v] 44,.hp H,.hp o.h] λq' hq'=>?_;refine lR 2 0 ?_;refine k6 (i:=1) rfl (λw0 w' hok=>l6 w' (hok.mem 1 _ rfl) (hok.kle rfl rfl hk) hRr) ?_;rintro _ h14 _ ⟨rfl,hR14⟩;have hR14:G0 k h14 b (s8 rr [41]):=hR14;apply hq';rw[eX];exact⟨h14,[.box rb (H8 b ka ad nd cd) 155,.hp (H.join o.h)],⟨_,_,rfl,⟨_,rfl,rfl,⟨none,0,0,o.a,o.n,o.c,rfl,Sl.nil _ _ _ _ _,hG.sl (D6 _) (by decide:0 < 5) (Hp.le_join_l _ _) (Hp.le_join_r hHo)⟩⟩,rfl,hR14⟩,λw' h=>(Ok.join (h.pick [0,6,7,1,2] rfl rfl)).pick [0,2,3,1] rfl rfl⟩
   all_goals
    rw[pN names d (r:=r) (k:=kk) (by rw[eS];exact f1),eS];exact⟨h11,[.box rb (H8 b (kk+1) ad nd cd) 155,.hp Hp.emp],⟨_,_,rfl,⟨_,rfl,rfl,⟨none,0,0,none,0,0,rfl,Sl.nil _ _ _ _ _,Sl.nil _ _ _ _ _⟩⟩,rfl,hR11⟩,λw' h=>(h.pick [0,1,2] rfl rfl).emp⟩
 rotate_left
 focus
  apply hq';have no:nZ (z8 r)=false:=by rw[<-hP];unfold nZ;rw[s1,eG]
  refine m9 λq' hq'=>?_;refine lR 2 0 ?_;refine k7 _ (λw' hm=>R1 w' (hm 1 _ rfl) (hk.trans (hm 0 _ rfl).whole) hR) ?_;apply hq';refine v7 (λq1=>?_) λq1=>?_;focus
   skip
  rotate_left
  ·have q1:S7 r [91]=true:=by simpa using q1
   refine nQ [.hp c0,.hp h,.box rb (H8 b (kk) ad nd cd) 155,.box b4 [iQ 0,zs,zl,zs,zl] 44,.box b5 [iQ K,sv T,iQ ln,iQ co] 211] λq' hq'=>?_;apply hq';refine d9 (λv1=>?_) λv1=>?_;focus
    refine nQ [.hp c0,.hp h,.box rb (H8 b (kk) ad nd cd) 155,.box b4 [iQ 0,zs,zl,zs,zl] 44,.box b5 [iQ K,sv T,iQ ln,iQ co] 211] λq' hq'=>?_;refine lR 2 0 ?_;refine k6 (i:=1) rfl (λw0 w' hok=>F9 w' (hok.mem 1 _ rfl) (hok.kle rfl rfl hk) hR) ?_;rintro _ h11 _ ⟨rfl,hR11⟩;have hR11:G0 k h11 b (w9 r 15):=hR11;have eS:expS d r kk=w9 r 15:=by unfold expS;rw[if_neg (λc=>by rw[q1] at c;cases c.2),if_pos om]
    apply hq';refine nQ [.hp c0,.hp h11,.box rb (H8 b (kk) ad nd cd) 155,.box b4 [iQ 0,zs,zl,zs,zl] 44,.box b5 [iQ K,sv T,iQ ln,iQ co] 211] λq' hq'=>?_;refine lR 2 2 ?_;refine nwo ?_;refine iW cQ (i:=2) (j:=2) rfl rfl rfl (by show 2 < 3;decide) rfl rfl ?_;apply hq';refine nQ [.hp c0,.hp h11,.box rb (H8 b (kk+1) ad nd cd) 155,.box b4 [iQ 0,zs,zl,zs,zl] 44,.box b5 [iQ K,sv T,iQ ln,iQ co] 211] λq' hq'=>?_;refine k7 _ (λw' hm=>S4 w' (hm 1 _ rfl) hR11 ((hm 2 _ rfl).whole.cell (I0 rb (cs:=H8 b (kk+1) ad nd cd) _ rfl))) ?_;apply hq';refine d9 (λf1=>?_) λf1=>?_;focus
     skip
    rotate_left
    ·exact absurd (aK r dc) f1
   rotate_left
   focus
    refine nQ [.hp c0,.hp h,.box rb (H8 b (kk) ad nd cd) 155,.box b4 [iQ 0,zs,zl,zs,zl] 44,.box b5 [iQ K,sv T,iQ ln,iQ co] 211] λq' hq'=>?_;refine lR 2 2 ?_;refine k6 (i:=1) rfl (λw0 w' hok=>M6 (n:=kk) (m:=64) rfl rfl w' (hok.mem 1 _ rfl) (DR.mk (hk.trans (hok.le01 rfl rfl)) hR (hok.bx1 (j:=2) (n:=0) rfl rfl dc rfl))) ?_;rintro _ h11 _ ⟨rfl,hR11⟩;have hR11:G0 k h11 b (H6 r kk 64):=hR11;have eS:expS d r kk=H6 r kk 64:=by unfold expS;rw[if_neg (λc=>by rw[q1] at c;cases c.2),if_neg om]
    apply hq';refine nQ [.hp c0,.hp h11,.box rb (H8 b (kk) ad nd cd) 155,.box b4 [iQ 0,zs,zl,zs,zl] 44,.box b5 [iQ K,sv T,iQ ln,iQ co] 211] λq' hq'=>?_;refine lR 2 2 ?_;refine nwo ?_;refine iW cQ (i:=2) (j:=2) rfl rfl rfl (by show 2 < 3;decide) rfl rfl ?_;apply hq';refine nQ [.hp c0,.hp h11,.box rb (H8 b (kk+1) ad nd cd) 155,.box b4 [iQ 0,zs,zl,zs,zl] 44,.box b5 [iQ K,sv T,iQ ln,iQ co] 211] λq' hq'=>?_;refine k7 _ (λw' hm=>S4 w' (hm 1 _ rfl) hR11 ((hm 2 _ rfl).whole.cell (I0 rb (cs:=H8 b (kk+1) ad nd cd) _ rfl))) ?_;apply hq';refine d9 (λf1=>?_) λf1=>?_;focus
     skip
    rotate_left
    ·have h0:(expS d r kk).e=0:=by rw[eS];exact B9.1 f1
     obtain⟨hd0,hk64,eR,h00,_⟩:=uI h0;obtain⟨d',rfl⟩ :∃d',d=d'+1:=⟨d - 1,om⟩
     have eL:H6 r kk 64=r:=by rw[<-eS];exact eR
     rw[eL] at hR11;refine nQ [.hp c0,.hp h11,.box rb (H8 b (kk+1) ad nd cd) 155,.box b4 [iQ 0,zs,zl,zs,zl] 44,.box b5 [iQ K,sv T,iQ ln,iQ co] 211] λq' hq'=>?_;apply hq';refine TS rfl ?_;refine nQ [.hp c0,.hp h11,.box rb (H8 b (kk+1) ad nd cd) 155,.box b4 [iQ 0,zs,zl,zs,zl] 44,.box b5 [iQ K,sv T,iQ ln,iQ co] 211] λq' hq'=>?_;refine k6 (i:=1) rfl (λw0 w' hok=>oG w' (hok.mem 1 _ rfl) (DR.mk (hk.trans (hok.le01 rfl rfl)) hR11 (hok.bx1 (j:=2) (n:=0) rfl rfl dc rfl)) (hok.bx1 (j:=2) (n:=1) rfl rfl dc rfl) (hD.mono (j7 _) (hok.le01 rfl rfl)) hDn) ?_;rintro _ hF _ ⟨o,rfl,rfl,hO,hRF⟩;rw[<-hnames] at hO hRF ⊢;apply hq';rw[BE names d' h0 no];exact⟨hF,[.box rb (H8 b (kk+1) ad nd cd) 155,.hp o.h],⟨_,_,rfl,⟨_,rfl,rfl,⟨o.a,o.n,o.c,none,0,0,rfl,w5.sl (f:=bO) (sz:=2) (λ_=>rfl) dc hO,Sl.nil _ _ _ _ _⟩⟩,rfl,hRF⟩,pk [0,1,2,5]⟩
   all_goals
    rw[pN names d (r:=r) (k:=kk) (by rw[eS];exact f1),eS];exact⟨h11,[.box rb (H8 b (kk+1) ad nd cd) 155,.hp Hp.emp],⟨_,_,rfl,⟨_,rfl,rfl,⟨none,0,0,none,0,0,rfl,Sl.nil _ _ _ _ _,Sl.nil _ _ _ _ _⟩⟩,rfl,hR11⟩,λw' h=>(h.pick [0,1,2] rfl rfl).emp⟩
 all_goals
  have q1:S7 r [91]=false:=by simpa using q1
  refine nQ [.hp c0,.hp h,.box rb (H8 b (kk) ad nd cd) 155,.box b4 [iQ 0,zs,zl,zs,zl] 44,.box b5 [iQ K,sv T,iQ ln,iQ co] 211] λq' hq'=>?_;refine lR 2 0 ?_;refine k6 (i:=1) rfl (λw0 w' hok=>F9 w' (hok.mem 1 _ rfl) (hok.kle rfl rfl hk) hR) ?_;rintro _ h11 _ ⟨rfl,hR11⟩;have hR11:G0 k h11 b (w9 r 14):=hR11;have eS:expS d r kk=w9 r 14:=by unfold expS;rw[if_pos ⟨no,q1⟩]
  apply hq';refine nQ [.hp c0,.hp h11,.box rb (H8 b (kk) ad nd cd) 155,.box b4 [iQ 0,zs,zl,zs,zl] 44,.box b5 [iQ K,sv T,iQ ln,iQ co] 211] λq' hq'=>?_;refine lR 2 2 ?_;refine nwo ?_;refine iW cQ (i:=2) (j:=2) rfl rfl rfl (by show 2 < 3;decide) rfl rfl ?_;apply hq';refine nQ [.hp c0,.hp h11,.box rb (H8 b (kk+1) ad nd cd) 155,.box b4 [iQ 0,zs,zl,zs,zl] 44,.box b5 [iQ K,sv T,iQ ln,iQ co] 211] λq' hq'=>?_;refine k7 _ (λw' hm=>S4 w' (hm 1 _ rfl) hR11 ((hm 2 _ rfl).whole.cell (I0 rb (cs:=H8 b (kk+1) ad nd cd) _ rfl))) ?_;apply hq';refine d9 (λf1=>?_) λf1=>?_
  ·rw[pN names d (r:=r) (k:=kk) (by rw[eS];exact f1),eS];exact⟨h11,[.box rb (H8 b (kk+1) ad nd cd) 155,.hp Hp.emp],⟨_,_,rfl,⟨_,rfl,rfl,⟨none,0,0,none,0,0,rfl,Sl.nil _ _ _ _ _,Sl.nil _ _ _ _ _⟩⟩,rfl,hR11⟩,λw' h=>(h.pick [0,1,2] rfl rfl).emp⟩
  ·exact absurd (aK r dc) f1
end Go.Proofs.YtpjhmeicbjkcdaaGreatDoor
namespace Go.Proofs.YtpjhmeicbjkcdaaGreatDoor
open Go Go.RowKit Go.Dw
theorem xE {D:List O7} (hDn:D.length < 1000000) :∀d,d<=9->Od D d
 | 0,h=>xD hDn 0 h (λd' e=>by omega)
 | d+1,h=>xD hDn (d+1) h (λd' e=>by
  have:d'=d:=om
  subst this;exact xE hDn d' om)
end Go.Proofs.YtpjhmeicbjkcdaaGreatDoor
namespace Go.Proofs.YtpjhmeicbjkcdaaGreatDoor
open Go
theorem TE {r:RS} (g:X4 r) (h0:r.e=0):Gd (z8 r):=by
 have hp:=(g.l h0).pos;unfold z8;rw[if_neg (λc=>c h0)];cases e:r.ts with
 | nil=>rw[e] at hp;cases hp
 | cons x l=>exact g.t x (by rw[e];exact wF)
theorem Hf {t:d8} (h:NE t) :∃k,CW t k/\V8 t k=true:=by
 obtain⟨hl,a,b,ha,h0,h⟩:=h;rcases h with ⟨rfl,hc⟩ | ⟨rfl,hb,hb0,hc⟩
 ·exact⟨t.length,⟨hl,t,b,ha,h0,rfl,.inl rfl⟩,by unfold V8;rw[if_pos rfl];exact hc⟩
 ·exact⟨a.length,⟨hl,a,b,ha,h0,rfl,.inr ⟨rfl,hb,hb0⟩⟩,hc⟩
theorem pG {r:RS} (g:X4 r) (h:(L9 r).1.e=0):H5 (L9 r).2=0:=by
 unfold L9 at h ⊢;by_cases hl:400 < (X0 r).2.length
 ·rw[if_pos hl] at h;exact absurd h (aK _ dc)
 rw[if_neg hl] at h;dsimp only at h ⊢;unfold X0 at h hl ⊢;dsimp only at h hl ⊢;have hs0:(qU r).e=0:=(o7.kind (qU r) 2).ok h;have hk:(z8 (qU r)).1=2:=by
  refine j3 λc=>?_;unfold J9 at h;rw[if_pos c] at h;exact absurd h (aK _ dc)
 have hk2:(J9 (qU r) 2).2=(z8 (qU r)).2.1:=by unfold J9;rw[if_neg (λc=>c hk)]
 have gs:X4 (qU r):=(((o7.take r [45]).trans (o7.fail _ 3)).ite (o7.take r [45])).good g;have ht:=(TE gs hs0).2 hk;have hne:(z8 (qU r)).2.1≠[]:=by
  obtain⟨_,a,b,_,h0,h⟩:=ht;rcases h with ⟨e,_⟩ | ⟨e,_⟩
  ·rw[e];exact D1.1 h0
  ·rw[e];intro c;cases a <;> cases c
 rw[hk2] at hl ⊢;rw[if_neg hne] at hl ⊢;refine AL (sg:=S7 r [45]) (t:=(z8 (qU r)).2.1) ⟨rfl,Hf ht,λhi c=>?_⟩ om;have e:qU r=R3 r [45]:=by
  unfold qU;by_cases hc:S7 r [45]=true/\(z8 (R3 r [45])).1=2/\(z8 (R3 r [45])).2.1 = [48]
  ·unfold qU at hs0;rw[if_pos hc] at hs0;exact absurd hs0 (aK _ dc)
  ·rw[if_neg hc]
 rw[e] at hk c;unfold qU at hs0;rw[if_pos ⟨hi,hk,c⟩] at hs0;exact absurd hs0 (aK _ dc)
theorem MP {x:d8} (h:H5 x=0):X9 65536 x=0:=by
 have hl:x.length<=400:=N8 h;unfold H5 X9 at h;unfold X9;rw[if_neg om] at h ⊢;exact h
end Go.Proofs.YtpjhmeicbjkcdaaGreatDoor
namespace Go.Proofs.YtpjhmeicbjkcdaaGreatDoor
open Go Go.RowKit Go.Dw
theorem fU (s:d8) (hs:s.length < 1000000) (w:World) :
  j2 Tryz.prog 175 #[sv s] w (fQ w λv cs=>∃g,cs = [.hp g]/\HH 65536 s g v):=by
 refine enterZ (cx 8) [sv s] [.cell 2 141,.tmp 3] Tryz.func175 ?_;intro b2;refine call (λw' hm=>DM s 65536 dc hs w') ?_;rintro _ _ ⟨g,rfl,n1,a1,k1,c1,a2,k2,c2,x,y,rfl,hr⟩;exact⟨[.hp g],⟨g,rfl,n1,a1,k1,c1,a2,k2,c2,x,y,rfl,hr⟩,pk [0,2]⟩
theorem fM {s:d8} {g:Hp} {v:Value} (h:HH 65536 s g v) (hn:H5 s=0) :∃r,v=.tuple #[.agg (fR r).toArray,iQ 0]/\UK s g r:=by
 have h2:HH 400 s g v:=by
  have e:X9 400 s=0:=hn;unfold HH at h ⊢;rw[MP hn] at h;rw[e];exact h
 obtain⟨r,h3,h4⟩:=PD h2 hn;rw[hn] at h3;exact⟨r,h3,h4⟩
set_option maxHeartbeats 4000000 in
set_option maxRecDepth 10000 in
theorem rE {k h:Hp} {rb b kk dd:Nat} {r:RS} {a:Option Addr} {n c:Nat} {L:List kP} {ad:Option Addr} {nd cd:Nat} {DD:List O7} (w:World) (hin:((MR rb b kk ad nd cd).h.join h).In w) (hdj:(MR rb b kk ad nd cd).h.dj h) (hk:k.le ((Hp.whole w).minus ((MR rb b kk ad nd cd).h.join h))) (hR:G0 k h b r) (hg:X4 r)
  (hL:Sl (mK dd) 8 ((Hp.whole w).minus ((MR rb b kk ad nd cd).h.join h)) a n c L) (hn:L.length < 1000000) (hD:Sl (E0 P2) 4 ((Hp.whole w).minus ((MR rb b kk ad nd cd).h.join h)) ad nd cd DD) (hdn:DD.length < 1000000) :
  j2 Tryz.prog 84 #[pQ rb,.slice a n c] w (O3 w ((MR rb b kk ad nd cd).h.join h) λv h' cs=>∃ys H,cs = [.box rb ys 155,.hp H]/\((∃xs,v=.agg xs.toArray/\xs.length=8/\mK 9 H (eQ (L.map λx:kP=>x.1) (DD.map λx:O7=>x.1) r).2 xs)/\(∃kk',ys=H8 b kk' ad nd cd)/\G0 k h' b (eQ (L.map λx:kP=>x.1) (DD.map λx:O7=>x.1) r).1)):=by
 have hlen:=hL.len;have ok0:=Ok.startB hin hdj;refine enterMSZ (cx 95) [pQ rb,.slice a n c] ok0 [.cell 4 74] Tryz.func84 ?_;obtain⟨c0,hc0⟩ :∃c0,c0=(Hp.whole w).minus ((MR rb b kk ad nd cd).h.join h):=⟨_,rfl⟩
 rw[<-hc0] at hk hD hL ⊢;obtain⟨names,hnames⟩ :∃l,l=L.map λx:kP=>x.1:=⟨_,rfl⟩
 rw[<-hnames];have hnl:n=names.length:=by rw[hnames,j6];exact hlen
 obtain⟨dims,hdims⟩ :∃l,l=DD.map λx:O7=>x.1:=⟨_,rfl⟩
 rw[<-hdims];intro b3 b4;refine m9 λq' hq'=>?_;apply hq';refine nQ [.hp c0,.hp h,.box rb (H8 b (kk) ad nd cd) 155,.box b3 [.slice a n c] 28,.box b4 [zs,iQ 0,zs,zl,zs,zl,zs,zs] 74] λq' hq'=>?_;refine k6 (i:=1) rfl (λw0 w' hok=>M6 (n:=names.length) (m:=64) (by rw[hnl]) rfl w' (hok.mem 1 _ rfl) (DR.mk (hk.trans (hok.le01 rfl rfl)) hR (hok.bx1 (j:=2) (n:=0) rfl rfl dc rfl))) ?_;rintro _ h1 _ ⟨rfl,hR1⟩;have hR1:G0 k h1 b (H6 (r) names.length 64):=hR1;apply hq';refine nQ [.hp c0,.hp h1,.box rb (H8 b (kk) ad nd cd) 155,.box b3 [.slice a n c] 28,.box b4 [zs,iQ 0,zs,zl,zs,zl,zs,zs] 74] λq' hq'=>?_;refine lR 2 0 ?_;refine k6 (i:=1) rfl (λw0 w' hok=>l6 w' (hok.mem 1 _ rfl) (hok.kle rfl rfl hk) hR1) ?_;rintro _ h2 _ ⟨rfl,hR2⟩;have hR2:G0 k h2 b (s8 (H6 (r) names.length 64) W7):=hR2;obtain⟨r2,er2⟩ :∃x,x=s8 (H6 (r) names.length 64) W7:=⟨_,rfl⟩
 rw[<-er2] at hR2;apply hq';refine nQ [.hp c0,.hp h2,.box rb (H8 b (kk) ad nd cd) 155,.box b3 [.slice a n c] 28,.box b4 [zs,iQ 0,zs,zl,zs,zl,zs,zs] 74] λq' hq'=>?_;refine call (λw' hm=>U4 _ _ _ w') ?_;rintro _ _ ⟨b5,b6,rfl,rfl⟩;refine k6 (i:=1) rfl (λw0 w' hok=>O6 (cap:=[pQ b5,pQ b6]) (chk:=Z6 names) w' (hok.mem 1 _ rfl) (DR.mk (hk.trans (hok.le01 rfl rfl)) hR2 (hok.bx1 (j:=2) (n:=0) rfl rfl dc rfl)) (λw1 hi1 s _=>S2 (cap:=[pQ b3]) s w1 om (by rw[<-hnl];exact hi1.whole.cell (hok.bx1 (j:=5) (n:=0) rfl rfl dc rfl)) (hi1.whole.cell (hok.bx1 (j:=6) (n:=0) rfl rfl dc rfl)) (λw2 hi2 i hi=>by
   have hle:c0.le (Hp.whole w2):=((hok.le01 rfl rfl).trans hi1.whole).trans hi2.whole;subst hnames;exact IS (L:=L) i w2 ((hi1.whole.trans hi2.whole).cell (hok.bx1 (j:=3) (n:=0) rfl rfl dc rfl)) (hL.mono (O2 _) hle) hi))) ?_
 rintro _ h3 _ ⟨rfl,rfl,hR3⟩;obtain⟨A,hA⟩ :∃x,x=L0 r2 (Z6 names):=⟨_,rfl⟩
 rw[<-hA] at hR3 ⊢;intro b7;apply hq';refine nQ [.hp c0,.hp h3,.box rb (H8 b (kk) ad nd cd) 155,.box b3 [.slice a n c] 28,.box b4 [zs,iQ 0,zs,zl,zs,zl,zs,zs] 74,.box b5 [iQ n] 3,.box b6 [.func (.func 173) #[] #[pQ b3]] 110,.box b7 [sv A.2,iQ 0,zs,zl,zs,zl,zs,zs] 74] λq' hq'=>?_;refine lR 2 0 ?_;refine k6 (i:=1) rfl (λw0 w' hok=>l6 w' (hok.mem 1 _ rfl) (hok.kle rfl rfl hk) hR3) ?_;rintro _ h4 _ ⟨rfl,hR4⟩;have hR4:G0 k h4 b (s8 A.1 [58]):=hR4;obtain⟨r4,er4⟩ :∃x,x=s8 A.1 [58]:=⟨_,rfl⟩
 rw[<-er4] at hR4;apply hq';refine nQ [.hp c0,.hp h4,.box rb (H8 b (kk) ad nd cd) 155,.box b3 [.slice a n c] 28,.box b4 [zs,iQ 0,zs,zl,zs,zl,zs,zs] 74,.box b5 [iQ n] 3,.box b6 [.func (.func 173) #[] #[pQ b3]] 110,.box b7 [sv A.2,iQ 0,zs,zl,zs,zl,zs,zs] 74] λq' hq'=>?_;refine iW cQ (i:=2) (j:=2) rfl rfl rfl (by show 2 < 3;decide) rfl rfl ?_;apply hq';refine nQ [.hp c0,.hp h4,.box rb (H8 b (0) ad nd cd) 155,.box b3 [.slice a n c] 28,.box b4 [zs,iQ 0,zs,zl,zs,zl,zs,zs] 74,.box b5 [iQ n] 3,.box b6 [.func (.func 173) #[] #[pQ b3]] 110,.box b7 [sv A.2,iQ 0,zs,zl,zs,zl,zs,zs] 74] λq' hq'=>?_;obtain⟨E,hE⟩ :∃x,x=J8 dims 8 r4 0:=⟨_,rfl⟩
 refine pS (i:=2) (j:=1) dc rfl rfl (λw0 w' hok=>xE hdn 8 dc k h4 rb b r4 0 ad nd cd 1 w' dc (hok.inJ (i:=2) (j:=1) (c:=.box rb (H8 b 0 ad nd cd) 155) (d:=.hp h4) rfl rfl) (hok.disj 2 1 _ _ dc rfl rfl) (hk.trans (hok.le2 (i:=2) (j:=1) (m:=0) dc dc rfl rfl rfl)) hR4 (hD.mono (j7 _) (hok.le2 (i:=2) (j:=1) (m:=0) dc dc rfl rfl rfl)) dc) ?_;rintro _ _ h9 H9 ⟨⟨xs,rfl,hx5,hE9⟩,rfl,hR9⟩;rw[<-hdims,<-hE] at hE9 hR9 ⊢;have hE2:=hE9;obtain⟨Y,hY⟩ :∃Y,Y=E.2.2:=⟨_,rfl⟩
 rw[<-hY] at hE2;obtain⟨op9,f9,fac9,args9⟩:=Y;obtain⟨a9,n9,c9,a8,n8,c8,rfl,_,_⟩:=hE2;obtain⟨kx,hkx⟩ :∃kx,kx=E.2.1:=⟨_,rfl⟩
 rw[<-hkx];have gE:X4 E.1:=by
  rw[hE,er4,hA,er2];exact o7.good ((((o7.lim r _ 64).trans (o7.exp _ _)).trans ((o7.nam _ _).trans (o7.exp _ _))).trans (o7.expr dims 8 _ 0)) hg
 apply hq';refine nQ [.hp c0,.hp h9,.box rb (H8 b (kx) ad nd cd) 155,.box b3 [.slice a n c] 28,.box b4 [zs,iQ 0,zs,zl,zs,zl,zs,zs] 74,.box b5 [iQ n] 3,.box b6 [.func (.func 173) #[] #[pQ b3]] 110,.box b7 [sv A.2,iQ op9,sv f9.1,.slice a9 n9 c9,sv fac9,.slice a8 n8 c8,zs,zs] 74,.hp H9] λq' hq'=>?_;refine lR 2 0 ?_;refine k6 (i:=1) rfl (λw0 w' hok=>cR (s:=iG) w' (hok.mem 1 _ rfl) (hok.kle rfl rfl hk) hR9) ?_;rintro _ h10 _ ⟨rfl,rfl,hR10⟩;obtain⟨lo,hlo⟩ :∃x,x=(if S7 E.1 iG=true then L9 (C6 E.1) else (E.1,[])):=⟨_,rfl⟩
 have hlo0:=hlo;apply hq';refine v7 (λglo=>?_) λglo=>?_;focus
  have hR10:G0 k h10 b (C6 E.1):=by unfold R3 at hR10;rw[if_pos glo] at hR10;exact hR10
  rw[if_pos glo] at hlo;refine nQ [.hp c0,.hp h10,.box rb (H8 b (kx) ad nd cd) 155,.box b3 [.slice a n c] 28,.box b4 [zs,iQ 0,zs,zl,zs,zl,zs,zs] 74,.box b5 [iQ n] 3,.box b6 [.func (.func 173) #[] #[pQ b3]] 110,.box b7 [sv A.2,iQ op9,sv f9.1,.slice a9 n9 c9,sv fac9,.slice a8 n8 c8,zs,zs] 74,.hp H9] λq' hq'=>?_;refine k6 (i:=1) rfl (λw0 w' hok=>V0 w' (hok.mem 1 _ rfl) (DR.mk (hk.trans (hok.le01 rfl rfl)) hR10 (hok.bx1 (j:=2) (n:=0) rfl rfl dc rfl))) ?_;rintro _ h11 _ ⟨rfl,rfl,hR11⟩;have hR11:G0 k h11 b ((L9 (C6 E.1)).1):=hR11;rw[<-hlo] at hR11 ⊢;apply hq';refine nQ [.hp c0,.hp h11,.box rb (H8 b (kx) ad nd cd) 155,.box b3 [.slice a n c] 28,.box b4 [zs,iQ 0,zs,zl,zs,zl,zs,zs] 74,.box b5 [iQ n] 3,.box b6 [.func (.func 173) #[] #[pQ b3]] 110,.box b7 [sv A.2,iQ op9,sv f9.1,.slice a9 n9 c9,sv fac9,.slice a8 n8 c8,sv lo.2,zs] 74,.hp H9] λq' hq'=>?_;refine lR 2 0 ?_;refine k6 (i:=1) rfl (λw0 w' hok=>cR (s:=HW) w' (hok.mem 1 _ rfl) (hok.kle rfl rfl hk) hR11) ?_;rintro _ h12 _ ⟨rfl,rfl,hR12⟩;obtain⟨hi,hhi⟩ :∃x,x=(if S7 lo.1 HW=true then L9 (C6 lo.1) else (lo.1,[])):=⟨_,rfl⟩
  have hhi0:=hhi;apply hq';refine v7 (λghi=>?_) λghi=>?_
  ·have hR12:G0 k h12 b (C6 lo.1):=by unfold R3 at hR12;rw[if_pos ghi] at hR12;exact hR12
   rw[if_pos ghi] at hhi;refine nQ [.hp c0,.hp h12,.box rb (H8 b (kx) ad nd cd) 155,.box b3 [.slice a n c] 28,.box b4 [zs,iQ 0,zs,zl,zs,zl,zs,zs] 74,.box b5 [iQ n] 3,.box b6 [.func (.func 173) #[] #[pQ b3]] 110,.box b7 [sv A.2,iQ op9,sv f9.1,.slice a9 n9 c9,sv fac9,.slice a8 n8 c8,sv lo.2,zs] 74,.hp H9] λq' hq'=>?_;refine k6 (i:=1) rfl (λw0 w' hok=>V0 w' (hok.mem 1 _ rfl) (DR.mk (hk.trans (hok.le01 rfl rfl)) hR12 (hok.bx1 (j:=2) (n:=0) rfl rfl dc rfl))) ?_;rintro _ h13 _ ⟨rfl,rfl,hR13⟩;have hR13:G0 k h13 b ((L9 (C6 lo.1)).1):=hR13;rw[<-hhi] at hR13 ⊢;apply hq';refine nQ [.hp c0,.hp h13,.box rb (H8 b (kx) ad nd cd) 155,.box b3 [.slice a n c] 28,.box b4 [zs,iQ 0,zs,zl,zs,zl,zs,zs] 74,.box b5 [iQ n] 3,.box b6 [.func (.func 173) #[] #[pQ b3]] 110,.box b7 [sv A.2,iQ op9,sv f9.1,.slice a9 n9 c9,sv fac9,.slice a8 n8 c8,sv lo.2,sv hi.2] 74,.hp H9] λq' hq'=>?_;have eF :∀R9,R9=(if (lo.2≠[]/\hi.2≠[])/\S7 hi.1 [59]=true/\dI hi.2*dJ lo.2 < dI lo.2*dJ hi.2 then w9 hi.1 8 else hi.1)->eQ names dims r=(s8 R9 [59],(A.2,E.2.2,lo.2,hi.2)):=by
    rintro _ rfl;unfold eQ;dsimp only;rw[<-er2,<-hA,<-er4,<-hE,<-hlo0,<-hhi0]
   refine pZ (b:=[]) ?_;refine d9 (λs1=>?_) λs1=>?_;focus
    refine pZ (b:=[]) ?_;refine d9 (λs2=>?_) λs2=>?_
    ·refine lR 2 0 ?_;refine k7 _ (λw' hm=>R1 w' (hm 1 _ rfl) (hk.trans (hm 0 _ rfl).whole) hR13) ?_;apply hq';refine v7 (λs3=>?_) λs3=>?_;focus
      have h0:hi.1.e=0:=(P5 s3).1;have gL:X4 lo.1:=by rw[hlo0];exact o7.good (o7.opt E.1 iG) gE
      have nH:H5 hi.2=0:=by
       rw[hhi0] at h0 s2 ⊢;split at h0
       ·rename_i q;rw[if_pos q];exact pG (o7.good (o7.next _) gL) h0
       ·rename_i q;rw[if_neg q] at s2;exact absurd rfl s2
      have l0:lo.1.e=0:=o7.ok (by rw[hhi0];exact o7.opt lo.1 HW) h0;have nL:H5 lo.2=0:=by
       rw[hlo0] at l0 s1 ⊢;split at l0
       ·rename_i q;rw[if_pos q];exact pG (o7.good (o7.next _) gE) l0
       ·rename_i q;rw[if_neg q] at s1;exact absurd rfl s1
      have lnL:=N8 nL;have lnH:=N8 nH;refine nQ [.hp c0,.hp h13,.box rb (H8 b (kx) ad nd cd) 155,.box b3 [.slice a n c] 28,.box b4 [zs,iQ 0,zs,zl,zs,zl,zs,zs] 74,.box b5 [iQ n] 3,.box b6 [.func (.func 173) #[] #[pQ b3]] 110,.box b7 [sv A.2,iQ op9,sv f9.1,.slice a9 n9 c9,sv fac9,.slice a8 n8 c8,sv lo.2,sv hi.2] 74,.hp H9] λq' hq'=>?_;refine call (λw' hm=>fU lo.2 om w') ?_;rintro _ _ ⟨g8,rfl,hRat1⟩;obtain⟨⟨m1,⟨p1,u1,v1⟩,⟨x1,y1,z1⟩⟩,rfl,hS1⟩:=fM hRat1 nL;intro b8;apply hq';refine nQ [.hp c0,.hp h13,.box rb (H8 b (kx) ad nd cd) 155,.box b3 [.slice a n c] 28,.box b4 [zs,iQ 0,zs,zl,zs,zl,zs,zs] 74,.box b5 [iQ n] 3,.box b6 [.func (.func 173) #[] #[pQ b3]] 110,.box b7 [sv A.2,iQ op9,sv f9.1,.slice a9 n9 c9,sv fac9,.slice a8 n8 c8,sv lo.2,sv hi.2] 74,.hp H9,.hp g8,.box b8 [.bool m1,.slice p1 u1 v1,.bool false,.slice x1 y1 z1] 141] λq' hq'=>?_;refine call (λw' hm=>fU hi.2 om w') ?_;rintro _ _ ⟨g9,rfl,hRat2⟩;obtain⟨⟨m2,⟨p2,u2,v2⟩,⟨x2,y2,z2⟩⟩,rfl,hS2⟩:=fM hRat2 nH;intro b9;obtain⟨X1,Y1,q1,q2,q3⟩:=hS1;obtain⟨X2,Y2,w1,w2,w3⟩:=hS2;apply hq';refine nQ [.hp c0,.hp h13,.box rb (H8 b (kx) ad nd cd) 155,.box b3 [.slice a n c] 28,.box b4 [zs,iQ 0,zs,zl,zs,zl,zs,zs] 74,.box b5 [iQ n] 3,.box b6 [.func (.func 173) #[] #[pQ b3]] 110,.box b7 [sv A.2,iQ op9,sv f9.1,.slice a9 n9 c9,sv fac9,.slice a8 n8 c8,sv lo.2,sv hi.2] 74,.hp H9,.hp g8,.box b8 [.bool m1,.slice p1 u1 v1,.bool false,.slice x1 y1 z1] 141,.hp g9,.box b9 [.bool m2,.slice p2 u2 v2,.bool false,.slice x2 y2 z2] 141] λq' hq'=>?_;refine k7 _ (λw' hm=>cX w' (q1.mono (hm 9 _ rfl).whole) (w1.mono (hm 11 _ rfl).whole)) ?_;rw[q2,q3,w2,w3];apply hq';refine d9 (λs4=>?_) λs4=>?_
      ·refine nQ [.hp c0,.hp h13,.box rb (H8 b (kx) ad nd cd) 155,.box b3 [.slice a n c] 28,.box b4 [zs,iQ 0,zs,zl,zs,zl,zs,zs] 74,.box b5 [iQ n] 3,.box b6 [.func (.func 173) #[] #[pQ b3]] 110,.box b7 [sv A.2,iQ op9,sv f9.1,.slice a9 n9 c9,sv fac9,.slice a8 n8 c8,sv lo.2,sv hi.2] 74,.hp H9,.hp g8,.box b8 [.bool m1,.slice p1 u1 v1,.bool false,.slice x1 y1 z1] 141,.hp g9,.box b9 [.bool m2,.slice p2 u2 v2,.bool false,.slice x2 y2 z2] 141] λq' hq'=>?_;refine lR 2 0 ?_;refine k6 (i:=1) rfl (λw0 w' hok=>F9 w' (hok.mem 1 _ rfl) (hok.kle rfl rfl hk) hR13) ?_;rintro _ h14 _ ⟨rfl,hR14⟩;have hR14:G0 k h14 b (w9 hi.1 8):=hR14;apply hq';refine nQ [.hp c0,.hp h14,.box rb (H8 b (kx) ad nd cd) 155,.box b3 [.slice a n c] 28,.box b4 [zs,iQ 0,zs,zl,zs,zl,zs,zs] 74,.box b5 [iQ n] 3,.box b6 [.func (.func 173) #[] #[pQ b3]] 110,.box b7 [sv A.2,iQ op9,sv f9.1,.slice a9 n9 c9,sv fac9,.slice a8 n8 c8,sv lo.2,sv hi.2] 74,.hp H9,.hp g8,.box b8 [.bool m1,.slice p1 u1 v1,.bool false,.slice x1 y1 z1] 141,.hp g9,.box b9 [.bool m2,.slice p2 u2 v2,.bool false,.slice x2 y2 z2] 141] λq' hq'=>?_;refine lR 2 0 ?_;refine k6 (i:=1) rfl (λw0 w' hok=>l6 w' (hok.mem 1 _ rfl) (hok.kle rfl rfl hk) hR14) ?_;rintro _ h15 _ ⟨rfl,hR15⟩;have hR15:G0 k h15 b (s8 (w9 hi.1 8) [59]):=hR15;apply hq';refine nQ [.hp c0,.hp h15,.box rb (H8 b (kx) ad nd cd) 155,.box b3 [.slice a n c] 28,.box b4 [zs,iQ 0,zs,zl,zs,zl,zs,zs] 74,.box b5 [iQ n] 3,.box b6 [.func (.func 173) #[] #[pQ b3]] 110,.box b7 [sv A.2,iQ op9,sv f9.1,.slice a9 n9 c9,sv fac9,.slice a8 n8 c8,sv lo.2,sv hi.2] 74,.hp H9,.hp g8,.box b8 [.bool m1,.slice p1 u1 v1,.bool false,.slice x1 y1 z1] 141,.hp g9,.box b9 [.bool m2,.slice p2 u2 v2,.bool false,.slice x2 y2 z2] 141] λq' hq'=>?_;apply hq';rw[eF (w9 hi.1 8) (by rw[if_pos ⟨⟨s1,s2⟩,s3,gI.1 s4⟩])];exact⟨h15,[.box rb (H8 b kx ad nd cd) 155,.hp H9],⟨_,_,rfl,⟨_,rfl,rfl,⟨[iQ op9,sv f9.1,.slice a9 n9 c9,sv fac9,.slice a8 n8 c8],rfl,hE9⟩⟩,⟨kx,rfl⟩,hR15⟩,pk [0,1,2,8]⟩
      focus
       refine nQ [.hp c0,.hp h13,.box rb (H8 b (kx) ad nd cd) 155,.box b3 [.slice a n c] 28,.box b4 [zs,iQ 0,zs,zl,zs,zl,zs,zs] 74,.box b5 [iQ n] 3,.box b6 [.func (.func 173) #[] #[pQ b3]] 110,.box b7 [sv A.2,iQ op9,sv f9.1,.slice a9 n9 c9,sv fac9,.slice a8 n8 c8,sv lo.2,sv hi.2] 74,.hp H9,.hp g8,.box b8 [.bool m1,.slice p1 u1 v1,.bool false,.slice x1 y1 z1] 141,.hp g9,.box b9 [.bool m2,.slice p2 u2 v2,.bool false,.slice x2 y2 z2] 141] λq' hq'=>?_;refine lR 2 0 ?_;refine k6 (i:=1) rfl (λw0 w' hok=>l6 w' (hok.mem 1 _ rfl) (hok.kle rfl rfl hk) hR13) ?_;rintro _ h14 _ ⟨rfl,hR14⟩;have hR14:G0 k h14 b (s8 (hi.1) [59]):=hR14;apply hq';refine nQ [.hp c0,.hp h14,.box rb (H8 b (kx) ad nd cd) 155,.box b3 [.slice a n c] 28,.box b4 [zs,iQ 0,zs,zl,zs,zl,zs,zs] 74,.box b5 [iQ n] 3,.box b6 [.func (.func 173) #[] #[pQ b3]] 110,.box b7 [sv A.2,iQ op9,sv f9.1,.slice a9 n9 c9,sv fac9,.slice a8 n8 c8,sv lo.2,sv hi.2] 74,.hp H9,.hp g8,.box b8 [.bool m1,.slice p1 u1 v1,.bool false,.slice x1 y1 z1] 141,.hp g9,.box b9 [.bool m2,.slice p2 u2 v2,.bool false,.slice x2 y2 z2] 141] λq' hq'=>?_;apply hq';rw[eF (hi.1) (by rw[if_neg (λc=>s4 (gI.2 c.2.2))])]
     rotate_left
     focus
      refine nQ [.hp c0,.hp h13,.box rb (H8 b (kx) ad nd cd) 155,.box b3 [.slice a n c] 28,.box b4 [zs,iQ 0,zs,zl,zs,zl,zs,zs] 74,.box b5 [iQ n] 3,.box b6 [.func (.func 173) #[] #[pQ b3]] 110,.box b7 [sv A.2,iQ op9,sv f9.1,.slice a9 n9 c9,sv fac9,.slice a8 n8 c8,sv lo.2,sv hi.2] 74,.hp H9] λq' hq'=>?_;refine lR 2 0 ?_;refine k6 (i:=1) rfl (λw0 w' hok=>l6 w' (hok.mem 1 _ rfl) (hok.kle rfl rfl hk) hR13) ?_;rintro _ h14 _ ⟨rfl,hR14⟩;have hR14:G0 k h14 b (s8 (hi.1) [59]):=hR14;apply hq';refine nQ [.hp c0,.hp h14,.box rb (H8 b (kx) ad nd cd) 155,.box b3 [.slice a n c] 28,.box b4 [zs,iQ 0,zs,zl,zs,zl,zs,zs] 74,.box b5 [iQ n] 3,.box b6 [.func (.func 173) #[] #[pQ b3]] 110,.box b7 [sv A.2,iQ op9,sv f9.1,.slice a9 n9 c9,sv fac9,.slice a8 n8 c8,sv lo.2,sv hi.2] 74,.hp H9] λq' hq'=>?_;apply hq';rw[eF (hi.1) (by rw[if_neg (λc=>by rw[s3] at c;cases c.2.1)])]
     all_goals
      exact⟨h14,[.box rb (H8 b kx ad nd cd) 155,.hp H9],⟨_,_,rfl,⟨_,rfl,rfl,⟨[iQ op9,sv f9.1,.slice a9 n9 c9,sv fac9,.slice a8 n8 c8],rfl,hE9⟩⟩,⟨kx,rfl⟩,hR14⟩,pk [0,1,2,8]⟩
    focus
     apply hq';refine dU rfl ?_;refine nQ [.hp c0,.hp h13,.box rb (H8 b (kx) ad nd cd) 155,.box b3 [.slice a n c] 28,.box b4 [zs,iQ 0,zs,zl,zs,zl,zs,zs] 74,.box b5 [iQ n] 3,.box b6 [.func (.func 173) #[] #[pQ b3]] 110,.box b7 [sv A.2,iQ op9,sv f9.1,.slice a9 n9 c9,sv fac9,.slice a8 n8 c8,sv lo.2,sv hi.2] 74,.hp H9] λq' hq'=>?_;refine lR 2 0 ?_;refine k6 (i:=1) rfl (λw0 w' hok=>l6 w' (hok.mem 1 _ rfl) (hok.kle rfl rfl hk) hR13) ?_;rintro _ h14 _ ⟨rfl,hR14⟩;have hR14:G0 k h14 b (s8 (hi.1) [59]):=hR14;apply hq';refine nQ [.hp c0,.hp h14,.box rb (H8 b (kx) ad nd cd) 155,.box b3 [.slice a n c] 28,.box b4 [zs,iQ 0,zs,zl,zs,zl,zs,zs] 74,.box b5 [iQ n] 3,.box b6 [.func (.func 173) #[] #[pQ b3]] 110,.box b7 [sv A.2,iQ op9,sv f9.1,.slice a9 n9 c9,sv fac9,.slice a8 n8 c8,sv lo.2,sv hi.2] 74,.hp H9] λq' hq'=>?_;apply hq';rw[eF (hi.1) (by rw[if_neg (λc=>s2 c.1.2)])]
   rotate_left
   focus
    apply hq';refine dU rfl ?_;refine nQ [.hp c0,.hp h13,.box rb (H8 b (kx) ad nd cd) 155,.box b3 [.slice a n c] 28,.box b4 [zs,iQ 0,zs,zl,zs,zl,zs,zs] 74,.box b5 [iQ n] 3,.box b6 [.func (.func 173) #[] #[pQ b3]] 110,.box b7 [sv A.2,iQ op9,sv f9.1,.slice a9 n9 c9,sv fac9,.slice a8 n8 c8,sv lo.2,sv hi.2] 74,.hp H9] λq' hq'=>?_;refine lR 2 0 ?_;refine k6 (i:=1) rfl (λw0 w' hok=>l6 w' (hok.mem 1 _ rfl) (hok.kle rfl rfl hk) hR13) ?_;rintro _ h14 _ ⟨rfl,hR14⟩;have hR14:G0 k h14 b (s8 (hi.1) [59]):=hR14;apply hq';refine nQ [.hp c0,.hp h14,.box rb (H8 b (kx) ad nd cd) 155,.box b3 [.slice a n c] 28,.box b4 [zs,iQ 0,zs,zl,zs,zl,zs,zs] 74,.box b5 [iQ n] 3,.box b6 [.func (.func 173) #[] #[pQ b3]] 110,.box b7 [sv A.2,iQ op9,sv f9.1,.slice a9 n9 c9,sv fac9,.slice a8 n8 c8,sv lo.2,sv hi.2] 74,.hp H9] λq' hq'=>?_;apply hq';rw[eF (hi.1) (by rw[if_neg (λc=>s1 c.1.1)])]
   all_goals
    exact⟨h14,[.box rb (H8 b kx ad nd cd) 155,.hp H9],⟨_,_,rfl,⟨_,rfl,rfl,⟨[iQ op9,sv f9.1,.slice a9 n9 c9,sv fac9,.slice a8 n8 c8],rfl,hE9⟩⟩,⟨kx,rfl⟩,hR14⟩,pk [0,1,2,8]⟩
  focus
   have hR12:G0 k h12 b lo.1:=by unfold R3 at hR12;rw[if_neg (by rw[ghi];decide)] at hR12;exact hR12
   rw[if_neg (by rw[ghi];decide)] at hhi;have hi1:hi.1=lo.1:=by rw[hhi]
   have hi2:hi.2 = []:=by rw[hhi]
   rw[<-hi1] at hR12;refine cD [.hp c0,.hp h12,.box rb (H8 b (kx) ad nd cd) 155,.box b3 [.slice a n c] 28,.box b4 [zs,iQ 0,zs,zl,zs,zl,zs,zs] 74,.box b5 [iQ n] 3,.box b6 [.func (.func 173) #[] #[pQ b3]] 110,.box b7 [sv A.2,iQ op9,sv f9.1,.slice a9 n9 c9,sv fac9,.slice a8 n8 c8,sv lo.2,sv hi.2] 74,.hp H9] (by rw[hi2];first | done | rfl) ?_
 rotate_left
 focus
  have hR10:G0 k h10 b E.1:=by unfold R3 at hR10;rw[if_neg (by rw[glo];decide)] at hR10;exact hR10
  rw[if_neg (by rw[glo];decide)] at hlo;have lo1:lo.1=E.1:=by rw[hlo]
  have lo2:lo.2 = []:=by rw[hlo]
  rw[<-lo1] at hR10;refine cD [.hp c0,.hp h10,.box rb (H8 b (kx) ad nd cd) 155,.box b3 [.slice a n c] 28,.box b4 [zs,iQ 0,zs,zl,zs,zl,zs,zs] 74,.box b5 [iQ n] 3,.box b6 [.func (.func 173) #[] #[pQ b3]] 110,.box b7 [sv A.2,iQ op9,sv f9.1,.slice a9 n9 c9,sv fac9,.slice a8 n8 c8,sv lo.2,zs] 74,.hp H9] (by rw[lo2];first | done | rfl) ?_;refine m9 λq' hq'=>?_;refine lR 2 0 ?_;refine k6 (i:=1) rfl (λw0 w' hok=>cR (s:=HW) w' (hok.mem 1 _ rfl) (hok.kle rfl rfl hk) hR10) ?_;rintro _ h11 _ ⟨rfl,rfl,hR11⟩;obtain⟨hi,hhi⟩ :∃x,x=(if S7 lo.1 HW=true then L9 (C6 lo.1) else (lo.1,[])):=⟨_,rfl⟩
  have hhi0:=hhi;apply hq';refine v7 (λghi=>?_) λghi=>?_;focus
   have hR11:G0 k h11 b (C6 lo.1):=by unfold R3 at hR11;rw[if_pos ghi] at hR11;exact hR11
   rw[if_pos ghi] at hhi;refine nQ [.hp c0,.hp h11,.box rb (H8 b (kx) ad nd cd) 155,.box b3 [.slice a n c] 28,.box b4 [zs,iQ 0,zs,zl,zs,zl,zs,zs] 74,.box b5 [iQ n] 3,.box b6 [.func (.func 173) #[] #[pQ b3]] 110,.box b7 [sv A.2,iQ op9,sv f9.1,.slice a9 n9 c9,sv fac9,.slice a8 n8 c8,sv lo.2,zs] 74,.hp H9] λq' hq'=>?_;refine k6 (i:=1) rfl (λw0 w' hok=>V0 w' (hok.mem 1 _ rfl) (DR.mk (hk.trans (hok.le01 rfl rfl)) hR11 (hok.bx1 (j:=2) (n:=0) rfl rfl dc rfl))) ?_;rintro _ h12 _ ⟨rfl,rfl,hR12⟩;have hR12:G0 k h12 b ((L9 (C6 lo.1)).1):=hR12;rw[<-hhi] at hR12 ⊢;apply hq';refine cD [.hp c0,.hp h12,.box rb (H8 b (kx) ad nd cd) 155,.box b3 [.slice a n c] 28,.box b4 [zs,iQ 0,zs,zl,zs,zl,zs,zs] 74,.box b5 [iQ n] 3,.box b6 [.func (.func 173) #[] #[pQ b3]] 110,.box b7 [sv A.2,iQ op9,sv f9.1,.slice a9 n9 c9,sv fac9,.slice a8 n8 c8,sv lo.2,sv hi.2] 74,.hp H9] rfl ?_
  rotate_left
  ·have hR11:G0 k h11 b lo.1:=by unfold R3 at hR11;rw[if_neg (by rw[ghi];decide)] at hR11;exact hR11
   rw[if_neg (by rw[ghi];decide)] at hhi;have hi1:hi.1=lo.1:=by rw[hhi]
   have hi2:hi.2 = []:=by rw[hhi]
   rw[<-hi1] at hR11;refine cD [.hp c0,.hp h11,.box rb (H8 b (kx) ad nd cd) 155,.box b3 [.slice a n c] 28,.box b4 [zs,iQ 0,zs,zl,zs,zl,zs,zs] 74,.box b5 [iQ n] 3,.box b6 [.func (.func 173) #[] #[pQ b3]] 110,.box b7 [sv A.2,iQ op9,sv f9.1,.slice a9 n9 c9,sv fac9,.slice a8 n8 c8,sv lo.2,sv hi.2] 74,.hp H9] (by rw[hi2];first | done | rfl) ?_;refine m9 λq' hq'=>?_;have eF :∀R9,R9=(if (lo.2≠[]/\hi.2≠[])/\S7 hi.1 [59]=true/\dI hi.2*dJ lo.2 < dI lo.2*dJ hi.2 then w9 hi.1 8 else hi.1)->eQ names dims r=(s8 R9 [59],(A.2,E.2.2,lo.2,hi.2)):=by
    rintro _ rfl;unfold eQ;dsimp only;rw[<-er2,<-hA,<-er4,<-hE,<-hlo0,<-hhi0]
   refine pZ (b:=[]) ?_;refine d9 (λs1=>?_) λs1=>?_;focus
    refine pZ (b:=[]) ?_;refine d9 (λs2=>?_) λs2=>?_
    ·refine lR 2 0 ?_;refine k7 _ (λw' hm=>R1 w' (hm 1 _ rfl) (hk.trans (hm 0 _ rfl).whole) hR11) ?_;apply hq';refine v7 (λs3=>?_) λs3=>?_;focus
      have h0:hi.1.e=0:=(P5 s3).1;have gL:X4 lo.1:=by rw[hlo0];exact o7.good (o7.opt E.1 iG) gE
      have nH:H5 hi.2=0:=by
       rw[hhi0] at h0 s2 ⊢;split at h0
       ·rename_i q;rw[if_pos q];exact pG (o7.good (o7.next _) gL) h0
       ·rename_i q;rw[if_neg q] at s2;exact absurd rfl s2
      have l0:lo.1.e=0:=o7.ok (by rw[hhi0];exact o7.opt lo.1 HW) h0;have nL:H5 lo.2=0:=by
       rw[hlo0] at l0 s1 ⊢;split at l0
       ·rename_i q;rw[if_pos q];exact pG (o7.good (o7.next _) gE) l0
       ·rename_i q;rw[if_neg q] at s1;exact absurd rfl s1
      have lnL:=N8 nL;have lnH:=N8 nH;refine nQ [.hp c0,.hp h11,.box rb (H8 b (kx) ad nd cd) 155,.box b3 [.slice a n c] 28,.box b4 [zs,iQ 0,zs,zl,zs,zl,zs,zs] 74,.box b5 [iQ n] 3,.box b6 [.func (.func 173) #[] #[pQ b3]] 110,.box b7 [sv A.2,iQ op9,sv f9.1,.slice a9 n9 c9,sv fac9,.slice a8 n8 c8,sv lo.2,sv hi.2] 74,.hp H9] λq' hq'=>?_;refine call (λw' hm=>fU lo.2 om w') ?_;rintro _ _ ⟨g8,rfl,hRat1⟩;obtain⟨⟨m1,⟨p1,u1,v1⟩,⟨x1,y1,z1⟩⟩,rfl,hS1⟩:=fM hRat1 nL;intro b8;apply hq';refine nQ [.hp c0,.hp h11,.box rb (H8 b (kx) ad nd cd) 155,.box b3 [.slice a n c] 28,.box b4 [zs,iQ 0,zs,zl,zs,zl,zs,zs] 74,.box b5 [iQ n] 3,.box b6 [.func (.func 173) #[] #[pQ b3]] 110,.box b7 [sv A.2,iQ op9,sv f9.1,.slice a9 n9 c9,sv fac9,.slice a8 n8 c8,sv lo.2,sv hi.2] 74,.hp H9,.hp g8,.box b8 [.bool m1,.slice p1 u1 v1,.bool false,.slice x1 y1 z1] 141] λq' hq'=>?_;refine call (λw' hm=>fU hi.2 om w') ?_;rintro _ _ ⟨g9,rfl,hRat2⟩;obtain⟨⟨m2,⟨p2,u2,v2⟩,⟨x2,y2,z2⟩⟩,rfl,hS2⟩:=fM hRat2 nH;intro b9;obtain⟨X1,Y1,q1,q2,q3⟩:=hS1;obtain⟨X2,Y2,w1,w2,w3⟩:=hS2;apply hq';refine nQ [.hp c0,.hp h11,.box rb (H8 b (kx) ad nd cd) 155,.box b3 [.slice a n c] 28,.box b4 [zs,iQ 0,zs,zl,zs,zl,zs,zs] 74,.box b5 [iQ n] 3,.box b6 [.func (.func 173) #[] #[pQ b3]] 110,.box b7 [sv A.2,iQ op9,sv f9.1,.slice a9 n9 c9,sv fac9,.slice a8 n8 c8,sv lo.2,sv hi.2] 74,.hp H9,.hp g8,.box b8 [.bool m1,.slice p1 u1 v1,.bool false,.slice x1 y1 z1] 141,.hp g9,.box b9 [.bool m2,.slice p2 u2 v2,.bool false,.slice x2 y2 z2] 141] λq' hq'=>?_;refine k7 _ (λw' hm=>cX w' (q1.mono (hm 9 _ rfl).whole) (w1.mono (hm 11 _ rfl).whole)) ?_;rw[q2,q3,w2,w3];apply hq';refine d9 (λs4=>?_) λs4=>?_
      ·refine nQ [.hp c0,.hp h11,.box rb (H8 b (kx) ad nd cd) 155,.box b3 [.slice a n c] 28,.box b4 [zs,iQ 0,zs,zl,zs,zl,zs,zs] 74,.box b5 [iQ n] 3,.box b6 [.func (.func 173) #[] #[pQ b3]] 110,.box b7 [sv A.2,iQ op9,sv f9.1,.slice a9 n9 c9,sv fac9,.slice a8 n8 c8,sv lo.2,sv hi.2] 74,.hp H9,.hp g8,.box b8 [.bool m1,.slice p1 u1 v1,.bool false,.slice x1 y1 z1] 141,.hp g9,.box b9 [.bool m2,.slice p2 u2 v2,.bool false,.slice x2 y2 z2] 141] λq' hq'=>?_;refine lR 2 0 ?_;refine k6 (i:=1) rfl (λw0 w' hok=>F9 w' (hok.mem 1 _ rfl) (hok.kle rfl rfl hk) hR11) ?_;rintro _ h12 _ ⟨rfl,hR12⟩;have hR12:G0 k h12 b (w9 hi.1 8):=hR12;apply hq';refine nQ [.hp c0,.hp h12,.box rb (H8 b (kx) ad nd cd) 155,.box b3 [.slice a n c] 28,.box b4 [zs,iQ 0,zs,zl,zs,zl,zs,zs] 74,.box b5 [iQ n] 3,.box b6 [.func (.func 173) #[] #[pQ b3]] 110,.box b7 [sv A.2,iQ op9,sv f9.1,.slice a9 n9 c9,sv fac9,.slice a8 n8 c8,sv lo.2,sv hi.2] 74,.hp H9,.hp g8,.box b8 [.bool m1,.slice p1 u1 v1,.bool false,.slice x1 y1 z1] 141,.hp g9,.box b9 [.bool m2,.slice p2 u2 v2,.bool false,.slice x2 y2 z2] 141] λq' hq'=>?_;refine lR 2 0 ?_;refine k6 (i:=1) rfl (λw0 w' hok=>l6 w' (hok.mem 1 _ rfl) (hok.kle rfl rfl hk) hR12) ?_;rintro _ h13 _ ⟨rfl,hR13⟩;have hR13:G0 k h13 b (s8 (w9 hi.1 8) [59]):=hR13;apply hq';refine nQ [.hp c0,.hp h13,.box rb (H8 b (kx) ad nd cd) 155,.box b3 [.slice a n c] 28,.box b4 [zs,iQ 0,zs,zl,zs,zl,zs,zs] 74,.box b5 [iQ n] 3,.box b6 [.func (.func 173) #[] #[pQ b3]] 110,.box b7 [sv A.2,iQ op9,sv f9.1,.slice a9 n9 c9,sv fac9,.slice a8 n8 c8,sv lo.2,sv hi.2] 74,.hp H9,.hp g8,.box b8 [.bool m1,.slice p1 u1 v1,.bool false,.slice x1 y1 z1] 141,.hp g9,.box b9 [.bool m2,.slice p2 u2 v2,.bool false,.slice x2 y2 z2] 141] λq' hq'=>?_;apply hq';rw[eF (w9 hi.1 8) (by rw[if_pos ⟨⟨s1,s2⟩,s3,gI.1 s4⟩])];exact⟨h13,[.box rb (H8 b kx ad nd cd) 155,.hp H9],⟨_,_,rfl,⟨_,rfl,rfl,⟨[iQ op9,sv f9.1,.slice a9 n9 c9,sv fac9,.slice a8 n8 c8],rfl,hE9⟩⟩,⟨kx,rfl⟩,hR13⟩,pk [0,1,2,8]⟩
      focus
       refine nQ [.hp c0,.hp h11,.box rb (H8 b (kx) ad nd cd) 155,.box b3 [.slice a n c] 28,.box b4 [zs,iQ 0,zs,zl,zs,zl,zs,zs] 74,.box b5 [iQ n] 3,.box b6 [.func (.func 173) #[] #[pQ b3]] 110,.box b7 [sv A.2,iQ op9,sv f9.1,.slice a9 n9 c9,sv fac9,.slice a8 n8 c8,sv lo.2,sv hi.2] 74,.hp H9,.hp g8,.box b8 [.bool m1,.slice p1 u1 v1,.bool false,.slice x1 y1 z1] 141,.hp g9,.box b9 [.bool m2,.slice p2 u2 v2,.bool false,.slice x2 y2 z2] 141] λq' hq'=>?_;refine lR 2 0 ?_;refine k6 (i:=1) rfl (λw0 w' hok=>l6 w' (hok.mem 1 _ rfl) (hok.kle rfl rfl hk) hR11) ?_;rintro _ h12 _ ⟨rfl,hR12⟩;have hR12:G0 k h12 b (s8 (hi.1) [59]):=hR12;apply hq';refine nQ [.hp c0,.hp h12,.box rb (H8 b (kx) ad nd cd) 155,.box b3 [.slice a n c] 28,.box b4 [zs,iQ 0,zs,zl,zs,zl,zs,zs] 74,.box b5 [iQ n] 3,.box b6 [.func (.func 173) #[] #[pQ b3]] 110,.box b7 [sv A.2,iQ op9,sv f9.1,.slice a9 n9 c9,sv fac9,.slice a8 n8 c8,sv lo.2,sv hi.2] 74,.hp H9,.hp g8,.box b8 [.bool m1,.slice p1 u1 v1,.bool false,.slice x1 y1 z1] 141,.hp g9,.box b9 [.bool m2,.slice p2 u2 v2,.bool false,.slice x2 y2 z2] 141] λq' hq'=>?_;apply hq';rw[eF (hi.1) (by rw[if_neg (λc=>s4 (gI.2 c.2.2))])]
     rotate_left
     focus
      refine nQ [.hp c0,.hp h11,.box rb (H8 b (kx) ad nd cd) 155,.box b3 [.slice a n c] 28,.box b4 [zs,iQ 0,zs,zl,zs,zl,zs,zs] 74,.box b5 [iQ n] 3,.box b6 [.func (.func 173) #[] #[pQ b3]] 110,.box b7 [sv A.2,iQ op9,sv f9.1,.slice a9 n9 c9,sv fac9,.slice a8 n8 c8,sv lo.2,sv hi.2] 74,.hp H9] λq' hq'=>?_;refine lR 2 0 ?_;refine k6 (i:=1) rfl (λw0 w' hok=>l6 w' (hok.mem 1 _ rfl) (hok.kle rfl rfl hk) hR11) ?_;rintro _ h12 _ ⟨rfl,hR12⟩;have hR12:G0 k h12 b (s8 (hi.1) [59]):=hR12;apply hq';refine nQ [.hp c0,.hp h12,.box rb (H8 b (kx) ad nd cd) 155,.box b3 [.slice a n c] 28,.box b4 [zs,iQ 0,zs,zl,zs,zl,zs,zs] 74,.box b5 [iQ n] 3,.box b6 [.func (.func 173) #[] #[pQ b3]] 110,.box b7 [sv A.2,iQ op9,sv f9.1,.slice a9 n9 c9,sv fac9,.slice a8 n8 c8,sv lo.2,sv hi.2] 74,.hp H9] λq' hq'=>?_;apply hq';rw[eF (hi.1) (by rw[if_neg (λc=>by rw[s3] at c;cases c.2.1)])]
     all_goals
      exact⟨h12,[.box rb (H8 b kx ad nd cd) 155,.hp H9],⟨_,_,rfl,⟨_,rfl,rfl,⟨[iQ op9,sv f9.1,.slice a9 n9 c9,sv fac9,.slice a8 n8 c8],rfl,hE9⟩⟩,⟨kx,rfl⟩,hR12⟩,pk [0,1,2,8]⟩
    focus
     apply hq';refine dU rfl ?_;refine nQ [.hp c0,.hp h11,.box rb (H8 b (kx) ad nd cd) 155,.box b3 [.slice a n c] 28,.box b4 [zs,iQ 0,zs,zl,zs,zl,zs,zs] 74,.box b5 [iQ n] 3,.box b6 [.func (.func 173) #[] #[pQ b3]] 110,.box b7 [sv A.2,iQ op9,sv f9.1,.slice a9 n9 c9,sv fac9,.slice a8 n8 c8,sv lo.2,sv hi.2] 74,.hp H9] λq' hq'=>?_;refine lR 2 0 ?_;refine k6 (i:=1) rfl (λw0 w' hok=>l6 w' (hok.mem 1 _ rfl) (hok.kle rfl rfl hk) hR11) ?_;rintro _ h12 _ ⟨rfl,hR12⟩;have hR12:G0 k h12 b (s8 (hi.1) [59]):=hR12;apply hq';refine nQ [.hp c0,.hp h12,.box rb (H8 b (kx) ad nd cd) 155,.box b3 [.slice a n c] 28,.box b4 [zs,iQ 0,zs,zl,zs,zl,zs,zs] 74,.box b5 [iQ n] 3,.box b6 [.func (.func 173) #[] #[pQ b3]] 110,.box b7 [sv A.2,iQ op9,sv f9.1,.slice a9 n9 c9,sv fac9,.slice a8 n8 c8,sv lo.2,sv hi.2] 74,.hp H9] λq' hq'=>?_;apply hq';rw[eF (hi.1) (by rw[if_neg (λc=>s2 c.1.2)])]
   rotate_left
   focus
    apply hq';refine dU rfl ?_;refine nQ [.hp c0,.hp h11,.box rb (H8 b (kx) ad nd cd) 155,.box b3 [.slice a n c] 28,.box b4 [zs,iQ 0,zs,zl,zs,zl,zs,zs] 74,.box b5 [iQ n] 3,.box b6 [.func (.func 173) #[] #[pQ b3]] 110,.box b7 [sv A.2,iQ op9,sv f9.1,.slice a9 n9 c9,sv fac9,.slice a8 n8 c8,sv lo.2,sv hi.2] 74,.hp H9] λq' hq'=>?_;refine lR 2 0 ?_;refine k6 (i:=1) rfl (λw0 w' hok=>l6 w' (hok.mem 1 _ rfl) (hok.kle rfl rfl hk) hR11) ?_;rintro _ h12 _ ⟨rfl,hR12⟩;have hR12:G0 k h12 b (s8 (hi.1) [59]):=hR12;apply hq';refine nQ [.hp c0,.hp h12,.box rb (H8 b (kx) ad nd cd) 155,.box b3 [.slice a n c] 28,.box b4 [zs,iQ 0,zs,zl,zs,zl,zs,zs] 74,.box b5 [iQ n] 3,.box b6 [.func (.func 173) #[] #[pQ b3]] 110,.box b7 [sv A.2,iQ op9,sv f9.1,.slice a9 n9 c9,sv fac9,.slice a8 n8 c8,sv lo.2,sv hi.2] 74,.hp H9] λq' hq'=>?_;apply hq';rw[eF (hi.1) (by rw[if_neg (λc=>s1 c.1.1)])]
   all_goals
    exact⟨h12,[.box rb (H8 b kx ad nd cd) 155,.hp H9],⟨_,_,rfl,⟨_,rfl,rfl,⟨[iQ op9,sv f9.1,.slice a9 n9 c9,sv fac9,.slice a8 n8 c8],rfl,hE9⟩⟩,⟨kx,rfl⟩,hR12⟩,pk [0,1,2,8]⟩
 all_goals
  refine m9 λq' hq'=>?_;have eF :∀R9,R9=(if (lo.2≠[]/\hi.2≠[])/\S7 hi.1 [59]=true/\dI hi.2*dJ lo.2 < dI lo.2*dJ hi.2 then w9 hi.1 8 else hi.1)->eQ names dims r=(s8 R9 [59],(A.2,E.2.2,lo.2,hi.2)):=by
   rintro _ rfl;unfold eQ;dsimp only;rw[<-er2,<-hA,<-er4,<-hE,<-hlo0,<-hhi0]
  refine pZ (b:=[]) ?_;refine d9 (λs1=>?_) λs1=>?_;focus
   refine pZ (b:=[]) ?_;refine d9 (λs2=>?_) λs2=>?_
   ·refine lR 2 0 ?_;refine k7 _ (λw' hm=>R1 w' (hm 1 _ rfl) (hk.trans (hm 0 _ rfl).whole) hR12) ?_;apply hq';refine v7 (λs3=>?_) λs3=>?_;focus
     have h0:hi.1.e=0:=(P5 s3).1;have gL:X4 lo.1:=by rw[hlo0];exact o7.good (o7.opt E.1 iG) gE
     have nH:H5 hi.2=0:=by
      rw[hhi0] at h0 s2 ⊢;split at h0
      ·rename_i q;rw[if_pos q];exact pG (o7.good (o7.next _) gL) h0
      ·rename_i q;rw[if_neg q] at s2;exact absurd rfl s2
     have l0:lo.1.e=0:=o7.ok (by rw[hhi0];exact o7.opt lo.1 HW) h0;have nL:H5 lo.2=0:=by
      rw[hlo0] at l0 s1 ⊢;split at l0
      ·rename_i q;rw[if_pos q];exact pG (o7.good (o7.next _) gE) l0
      ·rename_i q;rw[if_neg q] at s1;exact absurd rfl s1
     have lnL:=N8 nL;have lnH:=N8 nH;refine nQ [.hp c0,.hp h12,.box rb (H8 b (kx) ad nd cd) 155,.box b3 [.slice a n c] 28,.box b4 [zs,iQ 0,zs,zl,zs,zl,zs,zs] 74,.box b5 [iQ n] 3,.box b6 [.func (.func 173) #[] #[pQ b3]] 110,.box b7 [sv A.2,iQ op9,sv f9.1,.slice a9 n9 c9,sv fac9,.slice a8 n8 c8,sv lo.2,sv hi.2] 74,.hp H9] λq' hq'=>?_;refine call (λw' hm=>fU lo.2 om w') ?_;rintro _ _ ⟨g8,rfl,hRat1⟩;obtain⟨⟨m1,⟨p1,u1,v1⟩,⟨x1,y1,z1⟩⟩,rfl,hS1⟩:=fM hRat1 nL;intro b8;apply hq';refine nQ [.hp c0,.hp h12,.box rb (H8 b (kx) ad nd cd) 155,.box b3 [.slice a n c] 28,.box b4 [zs,iQ 0,zs,zl,zs,zl,zs,zs] 74,.box b5 [iQ n] 3,.box b6 [.func (.func 173) #[] #[pQ b3]] 110,.box b7 [sv A.2,iQ op9,sv f9.1,.slice a9 n9 c9,sv fac9,.slice a8 n8 c8,sv lo.2,sv hi.2] 74,.hp H9,.hp g8,.box b8 [.bool m1,.slice p1 u1 v1,.bool false,.slice x1 y1 z1] 141] λq' hq'=>?_;refine call (λw' hm=>fU hi.2 om w') ?_;rintro _ _ ⟨g9,rfl,hRat2⟩;obtain⟨⟨m2,⟨p2,u2,v2⟩,⟨x2,y2,z2⟩⟩,rfl,hS2⟩:=fM hRat2 nH;intro b9;obtain⟨X1,Y1,q1,q2,q3⟩:=hS1;obtain⟨X2,Y2,w1,w2,w3⟩:=hS2;apply hq';refine nQ [.hp c0,.hp h12,.box rb (H8 b (kx) ad nd cd) 155,.box b3 [.slice a n c] 28,.box b4 [zs,iQ 0,zs,zl,zs,zl,zs,zs] 74,.box b5 [iQ n] 3,.box b6 [.func (.func 173) #[] #[pQ b3]] 110,.box b7 [sv A.2,iQ op9,sv f9.1,.slice a9 n9 c9,sv fac9,.slice a8 n8 c8,sv lo.2,sv hi.2] 74,.hp H9,.hp g8,.box b8 [.bool m1,.slice p1 u1 v1,.bool false,.slice x1 y1 z1] 141,.hp g9,.box b9 [.bool m2,.slice p2 u2 v2,.bool false,.slice x2 y2 z2] 141] λq' hq'=>?_;refine k7 _ (λw' hm=>cX w' (q1.mono (hm 9 _ rfl).whole) (w1.mono (hm 11 _ rfl).whole)) ?_;rw[q2,q3,w2,w3];apply hq';refine d9 (λs4=>?_) λs4=>?_
     ·refine nQ [.hp c0,.hp h12,.box rb (H8 b (kx) ad nd cd) 155,.box b3 [.slice a n c] 28,.box b4 [zs,iQ 0,zs,zl,zs,zl,zs,zs] 74,.box b5 [iQ n] 3,.box b6 [.func (.func 173) #[] #[pQ b3]] 110,.box b7 [sv A.2,iQ op9,sv f9.1,.slice a9 n9 c9,sv fac9,.slice a8 n8 c8,sv lo.2,sv hi.2] 74,.hp H9,.hp g8,.box b8 [.bool m1,.slice p1 u1 v1,.bool false,.slice x1 y1 z1] 141,.hp g9,.box b9 [.bool m2,.slice p2 u2 v2,.bool false,.slice x2 y2 z2] 141] λq' hq'=>?_;refine lR 2 0 ?_;refine k6 (i:=1) rfl (λw0 w' hok=>F9 w' (hok.mem 1 _ rfl) (hok.kle rfl rfl hk) hR12) ?_;rintro _ h13 _ ⟨rfl,hR13⟩;have hR13:G0 k h13 b (w9 hi.1 8):=hR13;apply hq';refine nQ [.hp c0,.hp h13,.box rb (H8 b (kx) ad nd cd) 155,.box b3 [.slice a n c] 28,.box b4 [zs,iQ 0,zs,zl,zs,zl,zs,zs] 74,.box b5 [iQ n] 3,.box b6 [.func (.func 173) #[] #[pQ b3]] 110,.box b7 [sv A.2,iQ op9,sv f9.1,.slice a9 n9 c9,sv fac9,.slice a8 n8 c8,sv lo.2,sv hi.2] 74,.hp H9,.hp g8,.box b8 [.bool m1,.slice p1 u1 v1,.bool false,.slice x1 y1 z1] 141,.hp g9,.box b9 [.bool m2,.slice p2 u2 v2,.bool false,.slice x2 y2 z2] 141] λq' hq'=>?_;refine lR 2 0 ?_;refine k6 (i:=1) rfl (λw0 w' hok=>l6 w' (hok.mem 1 _ rfl) (hok.kle rfl rfl hk) hR13) ?_;rintro _ h14 _ ⟨rfl,hR14⟩;have hR14:G0 k h14 b (s8 (w9 hi.1 8) [59]):=hR14;apply hq';refine nQ [.hp c0,.hp h14,.box rb (H8 b (kx) ad nd cd) 155,.box b3 [.slice a n c] 28,.box b4 [zs,iQ 0,zs,zl,zs,zl,zs,zs] 74,.box b5 [iQ n] 3,.box b6 [.func (.func 173) #[] #[pQ b3]] 110,.box b7 [sv A.2,iQ op9,sv f9.1,.slice a9 n9 c9,sv fac9,.slice a8 n8 c8,sv lo.2,sv hi.2] 74,.hp H9,.hp g8,.box b8 [.bool m1,.slice p1 u1 v1,.bool false,.slice x1 y1 z1] 141,.hp g9,.box b9 [.bool m2,.slice p2 u2 v2,.bool false,.slice x2 y2 z2] 141] λq' hq'=>?_;apply hq';rw[eF (w9 hi.1 8) (by rw[if_pos ⟨⟨s1,s2⟩,s3,gI.1 s4⟩])];exact⟨h14,[.box rb (H8 b kx ad nd cd) 155,.hp H9],⟨_,_,rfl,⟨_,rfl,rfl,⟨[iQ op9,sv f9.1,.slice a9 n9 c9,sv fac9,.slice a8 n8 c8],rfl,hE9⟩⟩,⟨kx,rfl⟩,hR14⟩,pk [0,1,2,8]⟩
     focus
      refine nQ [.hp c0,.hp h12,.box rb (H8 b (kx) ad nd cd) 155,.box b3 [.slice a n c] 28,.box b4 [zs,iQ 0,zs,zl,zs,zl,zs,zs] 74,.box b5 [iQ n] 3,.box b6 [.func (.func 173) #[] #[pQ b3]] 110,.box b7 [sv A.2,iQ op9,sv f9.1,.slice a9 n9 c9,sv fac9,.slice a8 n8 c8,sv lo.2,sv hi.2] 74,.hp H9,.hp g8,.box b8 [.bool m1,.slice p1 u1 v1,.bool false,.slice x1 y1 z1] 141,.hp g9,.box b9 [.bool m2,.slice p2 u2 v2,.bool false,.slice x2 y2 z2] 141] λq' hq'=>?_;refine lR 2 0 ?_;refine k6 (i:=1) rfl (λw0 w' hok=>l6 w' (hok.mem 1 _ rfl) (hok.kle rfl rfl hk) hR12) ?_;rintro _ h13 _ ⟨rfl,hR13⟩;have hR13:G0 k h13 b (s8 (hi.1) [59]):=hR13;apply hq';refine nQ [.hp c0,.hp h13,.box rb (H8 b (kx) ad nd cd) 155,.box b3 [.slice a n c] 28,.box b4 [zs,iQ 0,zs,zl,zs,zl,zs,zs] 74,.box b5 [iQ n] 3,.box b6 [.func (.func 173) #[] #[pQ b3]] 110,.box b7 [sv A.2,iQ op9,sv f9.1,.slice a9 n9 c9,sv fac9,.slice a8 n8 c8,sv lo.2,sv hi.2] 74,.hp H9,.hp g8,.box b8 [.bool m1,.slice p1 u1 v1,.bool false,.slice x1 y1 z1] 141,.hp g9,.box b9 [.bool m2,.slice p2 u2 v2,.bool false,.slice x2 y2 z2] 141] λq' hq'=>?_;apply hq';rw[eF (hi.1) (by rw[if_neg (λc=>s4 (gI.2 c.2.2))])]
    rotate_left
    focus
     refine nQ [.hp c0,.hp h12,.box rb (H8 b (kx) ad nd cd) 155,.box b3 [.slice a n c] 28,.box b4 [zs,iQ 0,zs,zl,zs,zl,zs,zs] 74,.box b5 [iQ n] 3,.box b6 [.func (.func 173) #[] #[pQ b3]] 110,.box b7 [sv A.2,iQ op9,sv f9.1,.slice a9 n9 c9,sv fac9,.slice a8 n8 c8,sv lo.2,sv hi.2] 74,.hp H9] λq' hq'=>?_;refine lR 2 0 ?_;refine k6 (i:=1) rfl (λw0 w' hok=>l6 w' (hok.mem 1 _ rfl) (hok.kle rfl rfl hk) hR12) ?_;rintro _ h13 _ ⟨rfl,hR13⟩;have hR13:G0 k h13 b (s8 (hi.1) [59]):=hR13;apply hq';refine nQ [.hp c0,.hp h13,.box rb (H8 b (kx) ad nd cd) 155,.box b3 [.slice a n c] 28,.box b4 [zs,iQ 0,zs,zl,zs,zl,zs,zs] 74,.box b5 [iQ n] 3,.box b6 [.func (.func 173) #[] #[pQ b3]] 110,.box b7 [sv A.2,iQ op9,sv f9.1,.slice a9 n9 c9,sv fac9,.slice a8 n8 c8,sv lo.2,sv hi.2] 74,.hp H9] λq' hq'=>?_;apply hq';rw[eF (hi.1) (by rw[if_neg (λc=>by rw[s3] at c;cases c.2.1)])]
    all_goals
     exact⟨h13,[.box rb (H8 b kx ad nd cd) 155,.hp H9],⟨_,_,rfl,⟨_,rfl,rfl,⟨[iQ op9,sv f9.1,.slice a9 n9 c9,sv fac9,.slice a8 n8 c8],rfl,hE9⟩⟩,⟨kx,rfl⟩,hR13⟩,pk [0,1,2,8]⟩
   focus
    apply hq';refine dU rfl ?_;refine nQ [.hp c0,.hp h12,.box rb (H8 b (kx) ad nd cd) 155,.box b3 [.slice a n c] 28,.box b4 [zs,iQ 0,zs,zl,zs,zl,zs,zs] 74,.box b5 [iQ n] 3,.box b6 [.func (.func 173) #[] #[pQ b3]] 110,.box b7 [sv A.2,iQ op9,sv f9.1,.slice a9 n9 c9,sv fac9,.slice a8 n8 c8,sv lo.2,sv hi.2] 74,.hp H9] λq' hq'=>?_;refine lR 2 0 ?_;refine k6 (i:=1) rfl (λw0 w' hok=>l6 w' (hok.mem 1 _ rfl) (hok.kle rfl rfl hk) hR12) ?_;rintro _ h13 _ ⟨rfl,hR13⟩;have hR13:G0 k h13 b (s8 (hi.1) [59]):=hR13;apply hq';refine nQ [.hp c0,.hp h13,.box rb (H8 b (kx) ad nd cd) 155,.box b3 [.slice a n c] 28,.box b4 [zs,iQ 0,zs,zl,zs,zl,zs,zs] 74,.box b5 [iQ n] 3,.box b6 [.func (.func 173) #[] #[pQ b3]] 110,.box b7 [sv A.2,iQ op9,sv f9.1,.slice a9 n9 c9,sv fac9,.slice a8 n8 c8,sv lo.2,sv hi.2] 74,.hp H9] λq' hq'=>?_;apply hq';rw[eF (hi.1) (by rw[if_neg (λc=>s2 c.1.2)])]
  rotate_left
  focus
   apply hq';refine dU rfl ?_;refine nQ [.hp c0,.hp h12,.box rb (H8 b (kx) ad nd cd) 155,.box b3 [.slice a n c] 28,.box b4 [zs,iQ 0,zs,zl,zs,zl,zs,zs] 74,.box b5 [iQ n] 3,.box b6 [.func (.func 173) #[] #[pQ b3]] 110,.box b7 [sv A.2,iQ op9,sv f9.1,.slice a9 n9 c9,sv fac9,.slice a8 n8 c8,sv lo.2,sv hi.2] 74,.hp H9] λq' hq'=>?_;refine lR 2 0 ?_;refine k6 (i:=1) rfl (λw0 w' hok=>l6 w' (hok.mem 1 _ rfl) (hok.kle rfl rfl hk) hR12) ?_;rintro _ h13 _ ⟨rfl,hR13⟩;have hR13:G0 k h13 b (s8 (hi.1) [59]):=hR13;apply hq';refine nQ [.hp c0,.hp h13,.box rb (H8 b (kx) ad nd cd) 155,.box b3 [.slice a n c] 28,.box b4 [zs,iQ 0,zs,zl,zs,zl,zs,zs] 74,.box b5 [iQ n] 3,.box b6 [.func (.func 173) #[] #[pQ b3]] 110,.box b7 [sv A.2,iQ op9,sv f9.1,.slice a9 n9 c9,sv fac9,.slice a8 n8 c8,sv lo.2,sv hi.2] 74,.hp H9] λq' hq'=>?_;apply hq';rw[eF (hi.1) (by rw[if_neg (λc=>s1 c.1.1)])]
  all_goals
   exact⟨h13,[.box rb (H8 b kx ad nd cd) 155,.hp H9],⟨_,_,rfl,⟨_,rfl,rfl,⟨[iQ op9,sv f9.1,.slice a9 n9 c9,sv fac9,.slice a8 n8 c8],rfl,hE9⟩⟩,⟨kx,rfl⟩,hR13⟩,pk [0,1,2,8]⟩
end Go.Proofs.YtpjhmeicbjkcdaaGreatDoor
namespace Go.Proofs.YtpjhmeicbjkcdaaGreatDoor
open Go
theorem Fg {r:RS} {c m:Nat} (h:(H6 r c m).e=0):c < m:=by
 unfold H6 at h;split at h
 ·exact absurd h (aK r dc)
 ·omega
theorem JD (names:List d8) (r:RS):o7 (s8 (H6 r names.length 64) S9) (dM names r).1:=by
 unfold dM;dsimp only;exact (((((o7.nam _ _).trans (o7.exp _ _)).trans (o7.int _ _ _)).trans (o7.exp _ _)).trans (o7.cels _ _ _)).trans (o7.exp _ _)
theorem KB (parts names:List d8) (r:RS):o7 (s8 (H6 r names.length 12) dE) (kA parts names r).1:=by
 unfold kA;dsimp only;exact (((((((o7.nam _ _).trans (o7.exp _ _)).trans (o7.nam _ _)).trans (o7.exp _ _)).trans (o7.lst (λr=>o7.int r _ _) 4 _)).trans (o7.exp _ _)).trans (o7.lst o7.numb 3 _)).trans (o7.exp _ _)
theorem KS (names:List d8) (r:RS):o7 (s8 (H6 r names.length 64) Z8) (kI names r).1:=by
 unfold kI rL;dsimp only;have h:=(((((((o7.nam (s8 (H6 r names.length 64) Z8) (Z6 names)).trans (o7.exp _ [61])).trans (o7.int _ (-1073741824) 1073741824)).trans (o7.exp _ [91])).trans (o7.int _ (-1073741824) 1073741824)).trans (o7.exp _ [44])).trans (o7.int _ (-1073741824) 1073741824)).trans (o7.exp _ [93]);exact ((h.trans (o7.fail _ 8)).ite h).trans (o7.exp _ _)
theorem LA (names dims:List d8) (r:RS):o7 (s8 (H6 r names.length 64) Y8) (iC names dims r).1:=by
 unfold iC;dsimp only;have h:=(((o7.nam (s8 (H6 r names.length 64) Y8) (Z6 names)).trans (o7.exp _ [58])).trans (o7.for dims _)).trans (o7.exp _ [60,61]);exact (((h.trans (o7.fail _ 14)).ite h).trans (o7.next _)).trans (o7.exp _ _)
theorem IR (names dims:List d8) (r:RS):o7 (s8 (H6 r names.length 64) W7) (eQ names dims r).1:=by
 unfold eQ;dsimp only;have h:=((((o7.nam (s8 (H6 r names.length 64) W7) (Z6 names)).trans (o7.exp _ [58])).trans (o7.expr dims 8 _ 0)).trans (o7.opt _ iG)).trans (o7.opt _ HW);exact ((h.trans (o7.fail _ 8)).ite h).trans (o7.exp _ _)
structure LQ {α:Type} (w:d8) (tk:List α->RS->RS×α) (m:Nat) (tot:RS×List α) (r:RS) (out:List α):Prop where
 t :∃f,G2 r<=f/\W4 w tk f r out=tot
 l:out.length<=m+1
 k:r.e=0->out.length<=m
 g:X4 r
section
variable {α:Type} {w:d8} {tk:List α->RS->RS×α} {m:Nat} {tot:RS×List α} {r:RS} {out:List α}
theorem LQ.zero (g:X4 r):LQ w tk m (W4 w tk (G2 r) r []) r []:=⟨⟨G2 r,j8 _,rfl⟩,j0 _,λ_=>j0 _,g⟩
theorem LQ.next (ht:o7 (s8 (H6 r out.length m) w) (tk out r).1) (h:LQ w tk m tot r out) (hi:S7 r w=true):LQ w tk m tot (tk out r).1 (out++[(tk out r).2])/\G2 (tk out r).1 < G2 r:=by
 have h0:=(P5 hi).1;have hlt:G2 (tk out r).1 < G2 r:=p8 ht.rem (rK h.g.l hi);have hm:=h.k h0;obtain⟨f,hf,e⟩:=h.t;have ha:o7 r (tk out r).1:=((o7.lim r _ _).trans (o7.exp _ _)).trans ht;refine⟨⟨?_,by rw[d6];simp only[d7,i6];omega,λe0=>?_,ha.good h.g⟩,hlt⟩
 ·cases f with
  | zero=>exact absurd hf om
  | succ f=>
   refine⟨f,om,?_⟩;rw[<-e];conv=>rhs;unfold W4
   rw[if_pos hi]
 ·have:=Fg ((o7.exp _ w).ok (ht.ok e0));rw[d6];simp only[d7,i6];omega
theorem LQ.done (h:LQ w tk m tot r out) (hi:S7 r w=false):tot=(r,out):=by
 obtain⟨f,hf,e⟩:=h.t;rw[<-e];cases f with
 | zero=>rfl
 | succ f=>unfold W4;rw[if_neg (by rw[hi];decide)]
end
end Go.Proofs.YtpjhmeicbjkcdaaGreatDoor
namespace Go.Dw
open Go Go.RowKit
theorem Ok.leI {w0 w:World} {s:List Ch} (hok:Ok w0 s w) {i j:Nat} {h:Hp} {x:Ch} (hne:j≠i) (hj:l7 s j=some x) (hi:l7 s i=some (.hp h)):x.h.le ((Hp.whole w).minus h):=
 Hp.le_minus (hok.mem j _ hj).whole (hok.disj j i _ _ hne hj hi)
end Go.Dw
namespace Go.Proofs.YtpjhmeicbjkcdaaGreatDoor
open Go Go.RowKit Go.Dw
theorem NA {k h:Hp} {rb b:Nat} {r:RS} {a:Option Addr} {n c:Nat} {L:List V9} (w:World) (hin:h.In w) (hd:DR ((Hp.whole w).minus h) k h rb b r) (hL:Sl cN 3 ((Hp.whole w).minus h) a n c L) (hn:L.length < 1000000) :
  j2 Tryz.prog 80 #[pQ rb,.slice a n c] w (O3 w h λv h' cs=>∃H a9 n9 c9,cs = [.hp H]/\(v=.agg #[sv (dM (L.map λx:V9=>x.1) r).2.1,iQ (dM (L.map λx:V9=>x.1) r).2.2.1,.slice a9 n9 c9]/\Sl GW 1 H a9 n9 c9 (dM (L.map λx:V9=>x.1) r).2.2.2/\G0 k h' b (dM (L.map λx:V9=>x.1) r).1)):=by
 have h0:=JB w hin hd hL hn;refine⟨h0.1,h0.2.mono λe w' he=>?_⟩;obtain⟨v,h',cs,rfl,hok,o,H,rfl,rfl,hG,hR⟩:=he;have hdj:H.dj o.h:=hok.disj 2 3 _ _ dc rfl rfl;exact⟨_,h',[.hp (H.join o.h)],rfl,(Ok.join (hok.pick [0,2,3,1] rfl rfl)).pick [0,2,1] rfl rfl,H.join o.h,o.a,o.n,o.c,rfl,rfl,hG.sl fN dc (Hp.le_join_l _ _) (Hp.le_join_r hdj),hR⟩
def WN:kR:=⟨[],[],[],[],[],[]⟩
def jA (s:d8):kR×Int×Int×Int:=if (rG s).1.e≠0 then (WN,(rG s).1.ln,(rG s).1.co,(rG s).1.e) else ((rG s).2,0,0,0)
theorem Gv (d:Nat) (H:Hp):vX d H WN [zs,zl,zl,zl,zl,zl]:=
 ⟨⟨none,0,0,none,0,0,none,0,0,none,0,0,none,0,0,rfl,Sl.nil _ _ _ _ _,Sl.nil _ _ _ _ _,Sl.nil _ _ _ _ _,Sl.nil _ _ _ _ _,Sl.nil _ _ _ _ _⟩⟩
theorem WQ (s:d8):X4 (uA s):=X4.new (vG s).1
set_option maxHeartbeats 4000000 in
set_option maxRecDepth 10000 in
theorem sG (s:d8) (w:World) (hT:uT (Hp.whole w)) :
  j2 Tryz.prog 22 #[sv s] w (fQ w λv cs=>∃H xs,cs = [.hp H]/\v=.tuple #[.agg xs.toArray,iQ (jA s).2.1,iQ (jA s).2.2.1,iQ (jA s).2.2.2]/\xs.length=6/\vX 9 H (jA s).1 xs):=by
 refine enterZ (cx 125) [sv s] [.cell 2 30,.tmp 3,.tmp 4,.tmp 5] Tryz.func22 ?_;intro b2;refine m9 λq' hq'=>?_;apply hq';refine nQ [.hp (Hp.whole w),.box b2 [zs,zl,zl,zl,zl,zl] 30] λq' hq'=>?_;refine call (λw' hm=>ZD s w' (hT.mono (hm 0 _ rfl).whole)) ?_;rintro _ _ ⟨b,h,k,rfl,rfl,hR⟩;obtain⟨r,hr⟩ :∃r,r=uA s:=⟨_,rfl⟩
 have hg:X4 r:=by rw[hr];exact WQ s
 rw[<-hr] at hR;intro rb;apply hq';refine nQ [.hp (Hp.whole w),.box b2 [zs,zl,zl,zl,zl,zl] 30,.hp h,.hp k,.box rb [pQ b,zl,iQ 0] 155] λq' hq'=>?_;refine k6 (i:=2) rfl (λw0 w' hok=>l6 w' (hok.mem 2 _ rfl) (hok.leI (i:=2) (j:=3) dc rfl rfl) hR) ?_;rintro _ h1 _ ⟨rfl,hR1⟩;have hR1:G0 k h1 b (s8 r fY):=hR1;obtain⟨r1,er1⟩ :∃x,x=s8 r fY:=⟨_,rfl⟩
 rw[<-er1] at hR1;apply hq';refine nQ [.hp (Hp.whole w),.box b2 [zs,zl,zl,zl,zl,zl] 30,.hp h1,.hp k,.box rb [pQ b,zl,iQ 0] 155] λq' hq'=>?_;refine k6 (i:=2) rfl (λw0 w' hok=>O6 (cap:=[]) (chk:=λ_=>0) w' (hok.mem 2 _ rfl) (DR.mk (hok.leI (i:=2) (j:=3) dc rfl rfl) hR1 ((hok.leI (i:=2) (j:=4) dc rfl rfl).cell (I0 rb _ rfl))) (λw1 hi1 s _=>CS s w1)) ?_;rintro _ h2 _ ⟨rfl,rfl,hR2⟩;obtain⟨A,hA⟩ :∃x,x=L0 r1 (λ_=>0):=⟨_,rfl⟩
 rw[<-hA] at hR2 ⊢;apply hq';refine nQ [.hp (Hp.whole w),.box b2 [sv A.2,zl,zl,zl,zl,zl] 30,.hp h2,.hp k,.box rb [pQ b,zl,iQ 0] 155] λq' hq'=>?_;refine k6 (i:=2) rfl (λw0 w' hok=>l6 w' (hok.mem 2 _ rfl) (hok.leI (i:=2) (j:=3) dc rfl rfl) hR2) ?_;rintro _ h3 _ ⟨rfl,hR3⟩;have hR3:G0 k h3 b (s8 A.1 [59]):=hR3;obtain⟨r3,er3⟩ :∃x,x=s8 A.1 [59]:=⟨_,rfl⟩
 rw[<-er3] at hR3;have g3:X4 r3:=by
  rw[er3,hA,er1];exact o7.good (((o7.exp r fY).trans (o7.nam _ _)).trans (o7.exp _ _)) hg
 apply hq';obtain⟨tp,etp⟩ :∃x,x=W4 S9 (λout r=>dM (out.map (·.1)) r) (G2 r3) r3 []:=⟨_,rfl⟩
 refine z6.mkS (RS×List V9×Hp×Hp×Dw.Os) (λ_=>[(2,.bx 3 0),(6,.v (pQ rb))]) (λg=>[.hp (Hp.whole w),.hp g.2.2.1,.box rb [pQ b,zl,iQ 0] 155,.box b2 [sv A.2,g.2.2.2.2.v,zl,zl,zl,zl] 30,.hp k,.hp g.2.2.2.1,.hp g.2.2.2.2.h]) (λg=>G0 k g.2.2.1 b g.1/\LQ S9 (λout r=>dM (out.map (·.1)) r) 64 tp g.1 g.2.1/\aR cN 83 3 g.2.2.2.1 g.2.2.2.2 g.2.1) (λg=>G2 g.1) (r3,[],h3,Hp.emp,Dw.Os.nil) ⟨hR3,by rw[etp];exact LQ.zero g3,aR.nil⟩ (y6.mk (λ_ _ h=>(h.pick [0,2,4,1,3] rfl rfl).emp.emp) rfl rfl) ?_;rintro⟨rr,out,hp,HHp,op⟩ ⟨hRp,hI,hGp⟩ hsat;dsimp only at hRp hI hGp ⊢;refine m9 λq' hq'=>?_;refine lR 2 0 ?_;refine k7 _ (λw' hm=>R1 (s:=S9) w' (hm 1 _ rfl) (hm 4 _ rfl).whole hRp) ?_;apply hq';refine v7 (λg1=>?_) λg1=>?_
 ·have hlo:out.length<=64:=hI.k (P5 g1).1;obtain⟨hI2,hlt⟩:=hI.next (by have:=JD (out.map (·.1)) rr;rw[j6] at this;exact this) g1;obtain⟨B,hB⟩ :∃x,x=dM (out.map (·.1)) rr:=⟨_,rfl⟩
  try dsimp only at hI2 hlt
  rw[<-hB] at hI2 hlt;refine u6.cut (Hp×Hp×Dw.Os) (λ_=>[(2,.bx 3 0),(6,.v (pQ rb))]) (λg=>[.hp (Hp.whole w),.hp g.1,.box rb [pQ b,zl,iQ 0] 155,.box b2 [sv A.2,g.2.2.v,zl,zl,zl,zl] 30,.hp k,.hp g.2.1,.hp g.2.2.h]) (λg=>G0 k g.1 b B.1/\aR cN 83 3 g.2.1 g.2.2 (out++[B.2])) (u6.by_order0 (s0:=[.hp (Hp.whole w),.hp Hp.emp,.box rb [pQ b,zl,iQ 0] 155,.box b2 [sv A.2,op.v,zl,zl,zl,zl] 30,.hp k,.hp HHp,.hp Hp.emp]) cQ (.take 0 <| .take 1 <| .take 2 <| .take 3 <| .take 4 <| .take 5 <| .take 6 <| .run 7 <| .run 8 <| .run 9 <| .run 10 <| .run 11 <| .run 12 <| .done) kr (sK) ?_) ?_
  ·refine k6 (i:=1) rfl (λw0 w' hok=>NA (L:=out) w' (hok.mem 1 _ rfl) (DR.mk (hok.leI (i:=1) (j:=4) dc rfl rfl) hRp (hok.bx1 (j:=2) (n:=0) rfl rfl dc rfl)) (hGp.sl J0 dc (hok.leI (i:=1) (j:=5) dc rfl rfl) (hok.leI (i:=1) (j:=6) dc rfl rfl)) om) ?_;rintro _ h9 _ ⟨H9,a9,n9,c9,rfl,rfl,hC9,hR9⟩;rw[<-hB] at hC9 hR9 ⊢;refine⟨sK,?_⟩;intro b9;refine⟨sK,?_⟩;refine qM (R:=cN) (o:=op) (L:=out) (H:=HHp.join H9) cQ (e:=83) rfl (i:=6) rfl (λ_=>hGp.mono J0 (Hp.le_join_l _ _)) B.2 [sv B.2.1,iQ B.2.2.1,.slice a9 n9 c9] (j:=8) rfl rfl rfl rfl om (λhs=>?_) λo2 _ hG2=>?_
   ·obtain⟨w0,w',hok⟩:=hs;exact⟨a9,n9,c9,rfl,hC9.mono fN (Hp.le_join_r (hok.disj 5 7 _ _ dc rfl rfl))⟩
   refine⟨sK,?_⟩;exact⟨(h9,HHp.join H9,o2),⟨hR9,hG2⟩,y6.mk (λ_ _ h=>(Ok.join (h.pick [0,5,7,1,2,3,4,6] rfl rfl)).pick [0,2,3,4,5,1,6] rfl rfl) rfl rfl⟩
  rintro⟨h9,H9,o9⟩ ⟨hR9,hG9⟩ _;dsimp only at hR9 hG9 ⊢;exact⟨(B.1,out++[B.2],h9,H9,o9),⟨hR9,hI2,hG9⟩,hlt,y6.mk (λ_ _ h=>h) rfl rfl⟩
 have ep:=hI.done g1;have hlp:out.length<=65:=hI.l;have hgp:X4 rr:=hI.g;obtain⟨rp,erp⟩ :∃x,x=tp.1:=⟨_,rfl⟩
 have eop:out=tp.2:=by rw[ep]
 have ewp:rr=rp:=by rw[erp,ep]
 rw[ewp] at hRp hgp;rw[eop] at hGp hlp;clear hI ep ewp eop hsat;obtain⟨ti,eti⟩ :∃x,x=W4 dE (λout r=>kA (tp.2.map (·.1)) (out.map (·.1)) r) (G2 rp) rp []:=⟨_,rfl⟩
 refine z6.mkS (RS×List lW×Hp×Dw.Os) (λ_=>[(2,.bx 3 0),(6,.v (pQ rb))]) (λg=>[.hp (Hp.whole w),.hp g.2.2.1,.box rb [pQ b,zl,iQ 0] 155,.box b2 [sv A.2,op.v,g.2.2.2.v,zl,zl,zl] 30,.hp k,.hp HHp,.hp op.h,.hp g.2.2.2.h]) (λg=>G0 k g.2.2.1 b g.1/\LQ dE (λout r=>kA (tp.2.map (·.1)) (out.map (·.1)) r) 12 ti g.1 g.2.1/\w5 fF 93 9 g.2.2.2 g.2.1) (λg=>G2 g.1) (rp,[],hp,Dw.Os.nil) ⟨hRp,by rw[eti];exact LQ.zero hgp,w5.nil _ _ _⟩ (y6.mk (λ_ _ h=>h.emp) rfl rfl) ?_;rintro⟨rr,out,hi,oi⟩ ⟨hRi,hI,hGi⟩ hsat;dsimp only at hRi hI hGi ⊢;refine m9 λq' hq'=>?_;refine lR 2 0 ?_;refine k7 _ (λw' hm=>R1 (s:=dE) w' (hm 1 _ rfl) (hm 4 _ rfl).whole hRi) ?_;apply hq';refine v7 (λg1=>?_) λg1=>?_
 ·have hlo:out.length<=12:=hI.k (P5 g1).1;obtain⟨hI2,hlt⟩:=hI.next (by have:=KB (tp.2.map (·.1)) (out.map (·.1)) rr;rw[j6] at this;exact this) g1;obtain⟨B,hB⟩ :∃x,x=kA (tp.2.map (·.1)) (out.map (·.1)) rr:=⟨_,rfl⟩
  try dsimp only at hI2 hlt
  rw[<-hB] at hI2 hlt;refine u6.cut (Hp×Dw.Os) (λ_=>[(2,.bx 3 0),(6,.v (pQ rb))]) (λg=>[.hp (Hp.whole w),.hp g.1,.box rb [pQ b,zl,iQ 0] 155,.box b2 [sv A.2,op.v,g.2.v,zl,zl,zl] 30,.hp k,.hp HHp,.hp op.h,.hp g.2.h]) (λg=>G0 k g.1 b B.1/\w5 fF 93 9 g.2 (out++[B.2])) (u6.by_order0 (s0:=[.hp (Hp.whole w),.hp Hp.emp,.box rb [pQ b,zl,iQ 0] 155,.box b2 [sv A.2,op.v,oi.v,zl,zl,zl] 30,.hp k,.hp HHp,.hp op.h,.hp Hp.emp]) cQ (.take 0 <| .take 1 <| .take 2 <| .take 3 <| .take 4 <| .take 5 <| .run 6 <| .run 7 <| .run 8 <| .run 9 <| .run 10 <| .run 11 <| .done) kr (sK) ?_) ?_
  ·refine k6 (i:=1) rfl (λw0 w' hok=>xV (L:=out) (P:=tp.2) w' (hok.mem 1 _ rfl) (DR.mk (hok.leI (i:=1) (j:=4) dc rfl rfl) hRi (hok.bx1 (j:=2) (n:=0) rfl rfl dc rfl)) ((w5.sl (f:=fF) (λ_=>rfl) dc hGi).mono (j7 _) (hok.leI (i:=1) (j:=7) dc rfl rfl)) om (hGp.sl J0 dc (hok.leI (i:=1) (j:=5) dc rfl rfl) (hok.leI (i:=1) (j:=6) dc rfl rfl)) om) ?_;rintro _ h9 _ ⟨rfl,rfl,hR9⟩;rw[<-hB] at hR9 ⊢;refine⟨sK,?_⟩;intro b9;refine⟨sK,?_⟩;refine gZ (f:=fF) cQ (e:=93) rfl (i:=7) rfl hGi B.2 (j:=8) rfl rfl rfl rfl om λo2 hG2=>?_;refine⟨sK,?_⟩;exact⟨(h9,o2),⟨hR9,hG2⟩,y6.mk (pj [0,1,2,3,4,5,6,7]) rfl rfl⟩
  rintro⟨h9,o9⟩ ⟨hR9,hG9⟩ _;dsimp only at hR9 hG9 ⊢;exact⟨(B.1,out++[B.2],h9,o9),⟨hR9,hI2,hG9⟩,hlt,y6.mk (λ_ _ h=>h) rfl rfl⟩
 have ei:=hI.done g1;have hli:out.length<=13:=hI.l;have hgi:X4 rr:=hI.g;obtain⟨ri,eri⟩ :∃x,x=ti.1:=⟨_,rfl⟩
 have eoi:out=ti.2:=by rw[ei]
 have ewi:rr=ri:=by rw[eri,ei]
 rw[ewi] at hRi hgi;rw[eoi] at hGi hli;clear hI ei ewi eoi hsat;obtain⟨td,etd⟩ :∃x,x=W4 Z8 (λout r=>kI (out.map (·.1)) r) (G2 ri) ri []:=⟨_,rfl⟩
 refine z6.mkS (RS×List O7×Hp×Dw.Os) (λ_=>[(2,.bx 3 0),(6,.v (pQ rb))]) (λg=>[.hp (Hp.whole w),.hp g.2.2.1,.box rb [pQ b,zl,iQ 0] 155,.box b2 [sv A.2,op.v,oi.v,g.2.2.2.v,zl,zl] 30,.hp k,.hp HHp,.hp op.h,.hp oi.h,.hp g.2.2.2.h]) (λg=>G0 k g.2.2.1 b g.1/\LQ Z8 (λout r=>kI (out.map (·.1)) r) 64 td g.1 g.2.1/\w5 P2 48 4 g.2.2.2 g.2.1) (λg=>G2 g.1) (ri,[],hi,Dw.Os.nil) ⟨hRi,by rw[etd];exact LQ.zero hgi,w5.nil _ _ _⟩ (y6.mk (λ_ _ h=>h.emp) rfl rfl) ?_;rintro⟨rr,out,hd,od⟩ ⟨hRd,hI,hGd⟩ hsat;dsimp only at hRd hI hGd ⊢;refine m9 λq' hq'=>?_;refine lR 2 0 ?_;refine k7 _ (λw' hm=>R1 (s:=Z8) w' (hm 1 _ rfl) (hm 4 _ rfl).whole hRd) ?_;apply hq';refine v7 (λg1=>?_) λg1=>?_
 ·have hlo:out.length<=64:=hI.k (P5 g1).1;obtain⟨hI2,hlt⟩:=hI.next (by have:=KS (out.map (·.1)) rr;rw[j6] at this;exact this) g1;obtain⟨B,hB⟩ :∃x,x=kI (out.map (·.1)) rr:=⟨_,rfl⟩
  try dsimp only at hI2 hlt
  rw[<-hB] at hI2 hlt;refine u6.cut (Hp×Dw.Os) (λ_=>[(2,.bx 3 0),(6,.v (pQ rb))]) (λg=>[.hp (Hp.whole w),.hp g.1,.box rb [pQ b,zl,iQ 0] 155,.box b2 [sv A.2,op.v,oi.v,g.2.v,zl,zl] 30,.hp k,.hp HHp,.hp op.h,.hp oi.h,.hp g.2.h]) (λg=>G0 k g.1 b B.1/\w5 P2 48 4 g.2 (out++[B.2])) (u6.by_order0 (s0:=[.hp (Hp.whole w),.hp Hp.emp,.box rb [pQ b,zl,iQ 0] 155,.box b2 [sv A.2,op.v,oi.v,od.v,zl,zl] 30,.hp k,.hp HHp,.hp op.h,.hp oi.h,.hp Hp.emp]) cQ (.take 0 <| .take 1 <| .take 2 <| .take 3 <| .take 4 <| .run 5 <| .run 6 <| .run 7 <| .run 8 <| .run 9 <| .done) kr (sK) ?_) ?_
  ·refine k6 (i:=1) rfl (λw0 w' hok=>vP (L:=out) w' (hok.mem 1 _ rfl) (DR.mk (hok.leI (i:=1) (j:=4) dc rfl rfl) hRd (hok.bx1 (j:=2) (n:=0) rfl rfl dc rfl)) ((w5.sl (f:=P2) (λ_=>rfl) dc hGd).mono (j7 _) (hok.leI (i:=1) (j:=8) dc rfl rfl)) om) ?_;rintro _ h9 _ ⟨rfl,rfl,hR9⟩;rw[<-hB] at hR9 ⊢;refine⟨sK,?_⟩;intro b9;refine⟨sK,?_⟩;refine gZ (f:=P2) cQ (e:=48) rfl (i:=8) rfl hGd B.2 (j:=9) rfl rfl rfl rfl om λo2 hG2=>?_;refine⟨sK,?_⟩;exact⟨(h9,o2),⟨hR9,hG2⟩,y6.mk (pj [0,1,2,3,4,5,6,7,8]) rfl rfl⟩
  rintro⟨h9,o9⟩ ⟨hR9,hG9⟩ _;dsimp only at hR9 hG9 ⊢;exact⟨(B.1,out++[B.2],h9,o9),⟨hR9,hI2,hG9⟩,hlt,y6.mk (λ_ _ h=>h) rfl rfl⟩
 have ed:=hI.done g1;have hld:out.length<=65:=hI.l;have hgd:X4 rr:=hI.g;obtain⟨rd,erd⟩ :∃x,x=td.1:=⟨_,rfl⟩
 have eod:out=td.2:=by rw[ed]
 have ewd:rr=rd:=by rw[erd,ed]
 rw[ewd] at hRd hgd;rw[eod] at hGd hld;clear hI ed ewd eod hsat;refine nQ [.hp (Hp.whole w),.hp hd,.box rb [pQ b,zl,iQ 0] 155,.box b2 [sv A.2,op.v,oi.v,od.v,zl,zl] 30,.hp k,.hp HHp,.hp op.h,.hp oi.h,.hp od.h] λq' hq'=>?_;refine iW cQ (i:=2) (j:=1) rfl rfl rfl (by show 1 < 3;decide) rfl rfl ?_;apply hq';obtain⟨tc,etc⟩ :∃x,x=W4 Y8 (λout r=>iC (out.map (·.1)) (td.2.map (·.1)) r) (G2 rd) rd []:=⟨_,rfl⟩
 refine z6.mkS (RS×List kT×Hp×Hp×Dw.Os) (λ_=>[(2,.bx 3 0),(6,.v (pQ rb))]) (λg=>[.hp (Hp.whole w),.hp g.2.2.1,.box rb (H8 b 0 od.a od.n od.c) 155,.box b2 [sv A.2,op.v,oi.v,od.v,g.2.2.2.2.v,zl] 30,.hp k,.hp HHp,.hp op.h,.hp oi.h,.hp od.h,.hp g.2.2.2.1,.hp g.2.2.2.2.h]) (λg=>G0 k g.2.2.1 b g.1/\LQ Y8 (λout r=>iC (out.map (·.1)) (td.2.map (·.1)) r) 64 tc g.1 g.2.1/\aR qF 96 3 g.2.2.2.1 g.2.2.2.2 g.2.1) (λg=>G2 g.1) (rd,[],hd,Hp.emp,Dw.Os.nil) ⟨hRd,by rw[etc];exact LQ.zero hgd,aR.nil⟩ (y6.mk (λ_ _ h=>h.emp.emp) rfl rfl) ?_;rintro⟨rr,out,hc,HHc,oc⟩ ⟨hRc,hI,hGc⟩ hsat;dsimp only at hRc hI hGc ⊢;refine m9 λq' hq'=>?_;refine lR 2 0 ?_;refine k7 _ (λw' hm=>R1 (s:=Y8) w' (hm 1 _ rfl) (hm 4 _ rfl).whole hRc) ?_;apply hq';refine v7 (λg1=>?_) λg1=>?_
 ·have hlo:out.length<=64:=hI.k (P5 g1).1;obtain⟨hI2,hlt⟩:=hI.next (by have:=LA (out.map (·.1)) (td.2.map (·.1)) rr;rw[j6] at this;exact this) g1;obtain⟨B,hB⟩ :∃x,x=iC (out.map (·.1)) (td.2.map (·.1)) rr:=⟨_,rfl⟩
  try dsimp only at hI2 hlt
  rw[<-hB] at hI2 hlt;refine u6.cut (Hp×Hp×Dw.Os) (λ_=>[(2,.bx 3 0),(6,.v (pQ rb))]) (λg=>[.hp (Hp.whole w),.hp g.1,.box rb (H8 b 0 od.a od.n od.c) 155,.box b2 [sv A.2,op.v,oi.v,od.v,g.2.2.v,zl] 30,.hp k,.hp HHp,.hp op.h,.hp oi.h,.hp od.h,.hp g.2.1,.hp g.2.2.h]) (λg=>G0 k g.1 b B.1/\aR qF 96 3 g.2.1 g.2.2 (out++[B.2])) (u6.by_order0 (s0:=[.hp (Hp.whole w),.hp Hp.emp,.box rb (H8 b 0 od.a od.n od.c) 155,.box b2 [sv A.2,op.v,oi.v,od.v,oc.v,zl] 30,.hp k,.hp HHp,.hp op.h,.hp oi.h,.hp od.h,.hp HHc,.hp Hp.emp]) cQ (.take 0 <| .take 1 <| .take 2 <| .take 3 <| .take 4 <| .run 5 <| .run 6 <| .run 7 <| .run 8 <| .run 9 <| .done) kr (sK) ?_) ?_
  ·refine k6 (i:=1) rfl (λw0 w' hok=>uP (L:=out) (DD:=td.2) w' (hok.mem 1 _ rfl) (DR.mk (hok.leI (i:=1) (j:=4) dc rfl rfl) hRc (hok.bx1 (j:=2) (n:=0) rfl rfl dc rfl)) (hGc.sl V5 dc (hok.leI (i:=1) (j:=9) dc rfl rfl) (hok.leI (i:=1) (j:=10) dc rfl rfl)) om (hok.bx1 (j:=2) (n:=1) rfl rfl dc rfl) ((w5.sl (f:=P2) (λ_=>rfl) dc hGd).mono (j7 _) (hok.leI (i:=1) (j:=8) dc rfl rfl)) om) ?_;rintro _ h9 _ ⟨o9,rfl,rfl,hC9,hR9⟩;rw[<-hB] at hC9 hR9 ⊢;refine⟨sK,?_⟩;intro b9;refine⟨sK,?_⟩;refine qM (R:=qF) (o:=oc) (L:=out) (H:=HHc.join o9.h) cQ (e:=96) rfl (i:=10) rfl (λ_=>hGc.mono V5 (Hp.le_join_l _ _)) B.2 [sv B.2.1,sv B.2.2.1,o9.v] (j:=12) rfl rfl rfl rfl om (λhs=>?_) λo2 _ hG2=>?_
   ·obtain⟨w0,w',hok⟩:=hs;exact⟨o9.a,o9.n,o9.c,rfl,(w5.sl (f:=bO) (sz:=2) (λ_=>rfl) dc hC9).mono (j7 _) (Hp.le_join_r (hok.disj 9 11 _ _ dc rfl rfl))⟩
   refine⟨sK,?_⟩;exact⟨(h9,HHc.join o9.h,o2),⟨hR9,hG2⟩,y6.mk (λ_ _ h=>(Ok.join (h.pick [0,9,11,1,2,3,4,5,6,7,8,10] rfl rfl)).pick [0,2,3,4,5,6,7,8,9,1,10] rfl rfl) rfl rfl⟩
  rintro⟨h9,H9,o9⟩ ⟨hR9,hG9⟩ _;dsimp only at hR9 hG9 ⊢;exact⟨(B.1,out++[B.2],h9,H9,o9),⟨hR9,hI2,hG9⟩,hlt,y6.mk (λ_ _ h=>h) rfl rfl⟩
 have ec:=hI.done g1;have hlc:out.length<=65:=hI.l;have hgc:X4 rr:=hI.g;obtain⟨rc,erc⟩ :∃x,x=tc.1:=⟨_,rfl⟩
 have eoc:out=tc.2:=by rw[ec]
 have ewc:rr=rc:=by rw[erc,ec]
 rw[ewc] at hRc hgc;rw[eoc] at hGc hlc;clear hI ec ewc eoc hsat;obtain⟨tq,etq⟩ :∃x,x=W4 W7 (λout r=>eQ (out.map (·.1)) (td.2.map (·.1)) r) (G2 rc) rc []:=⟨_,rfl⟩
 refine z6.mkS (RS×List kP×Hp×Hp×Dw.Os×Nat) (λ_=>[(2,.bx 3 0),(6,.v (pQ rb))]) (λg=>[.hp (Hp.whole w),.hp g.2.2.1,.box rb (H8 b (g.2.2.2.2.2) od.a od.n od.c) 155,.box b2 [sv A.2,op.v,oi.v,od.v,oc.v,g.2.2.2.2.1.v] 30,.hp k,.hp HHp,.hp op.h,.hp oi.h,.hp od.h,.hp HHc,.hp oc.h,.hp g.2.2.2.1,.hp g.2.2.2.2.1.h]) (λg=>G0 k g.2.2.1 b g.1/\LQ W7 (λout r=>eQ (out.map (·.1)) (td.2.map (·.1)) r) 64 tq g.1 g.2.1/\aR (mK 9) 74 8 g.2.2.2.1 g.2.2.2.2.1 g.2.1) (λg=>G2 g.1) (rc,[],hc,Hp.emp,Dw.Os.nil,0) ⟨hRc,by rw[etq];exact LQ.zero hgc,aR.nil⟩ (y6.mk (λ_ _ h=>h.emp.emp) rfl rfl) ?_;rintro⟨rr,out,hq,HHq,oq,kq⟩ ⟨hRq,hI,hGq⟩ hsat;dsimp only at hRq hI hGq ⊢;have hsat0:=hsat;refine m9 λq' hq'=>?_;refine lR 2 0 ?_;refine k7 _ (λw' hm=>R1 (s:=W7) w' (hm 1 _ rfl) (hm 4 _ rfl).whole hRq) ?_;apply hq';refine v7 (λg1=>?_) λg1=>?_
 ·have hlo:out.length<=64:=hI.k (P5 g1).1;obtain⟨hI2,hlt⟩:=hI.next (by have:=IR (out.map (·.1)) (td.2.map (·.1)) rr;rw[j6] at this;exact this) g1;obtain⟨B,hB⟩ :∃x,x=eQ (out.map (·.1)) (td.2.map (·.1)) rr:=⟨_,rfl⟩
  try dsimp only at hI2 hlt
  rw[<-hB] at hI2 hlt;refine u6.cut (Hp×Hp×Dw.Os×Nat) (λ_=>[(2,.bx 3 0),(6,.v (pQ rb))]) (λg=>[.hp (Hp.whole w),.hp g.1,.box rb (H8 b (g.2.2.2) od.a od.n od.c) 155,.box b2 [sv A.2,op.v,oi.v,od.v,oc.v,g.2.2.1.v] 30,.hp k,.hp HHp,.hp op.h,.hp oi.h,.hp od.h,.hp HHc,.hp oc.h,.hp g.2.1,.hp g.2.2.1.h]) (λg=>G0 k g.1 b B.1/\aR (mK 9) 74 8 g.2.1 g.2.2.1 (out++[B.2])) (u6.by_order0 (s0:=[.hp (Hp.whole w),.hp Hp.emp,.hp Hp.emp,.box b2 [sv A.2,op.v,oi.v,od.v,oc.v,oq.v] 30,.hp k,.hp HHp,.hp op.h,.hp oi.h,.hp od.h,.hp HHc,.hp oc.h,.hp HHq,.hp Hp.emp]) cQ (.take 0 <| .take 1 <| .take 2 <| .take 3 <| .take 4 <| .run 5 <| .run 6 <| .run 7 <| .run 8 <| .run 9 <| .done) kr (sK) ?_) ?_
  ·refine pS (i:=2) (j:=1) dc rfl rfl (λw0 w' hok=>by exact rE (k:=k) (L:=out) (DD:=td.2) w' (hok.inJ (i:=2) (j:=1) (c:=.box rb (H8 b kq od.a od.n od.c) 155) (d:=.hp hq) rfl rfl) (hok.disj 2 1 _ _ dc rfl rfl) (hok.le2 (i:=2) (j:=1) (m:=4) (x:=.hp k) dc dc rfl rfl rfl) hRq hI.g (by exact hGq.sl (O2 9) dc (hok.le2 (i:=2) (j:=1) (m:=11) (x:=.hp HHq) dc dc rfl rfl rfl) (hok.le2 (i:=2) (j:=1) (m:=12) (x:=.hp oq.h) dc dc rfl rfl rfl)) om (by exact (w5.sl (f:=P2) (λ_=>rfl) dc hGd).mono (j7 _) (hok.le2 (i:=2) (j:=1) (m:=8) (x:=.hp od.h) dc dc rfl rfl rfl)) om) ?_;rintro _ _ h9 H9 ⟨⟨xs,rfl,hx8,hE9⟩,⟨kz,rfl⟩,hR9⟩;rw[<-hB] at hE9 hR9;have hE2:=hE9;obtain⟨y5,rfl,hY⟩:=hE2;obtain⟨Y,eY⟩ :∃Y,Y=B.2.2.1:=⟨_,rfl⟩
   rw[<-eY] at hY;obtain⟨op9,f9,fac9,args9⟩:=Y;obtain⟨a9,n9,c9,a8,n8,c8,rfl,_,_⟩:=hY;refine⟨sK,?_⟩;intro b9;refine⟨sK,?_⟩;refine qM (R:=(mK 9)) (o:=oq) (L:=out) (H:=HHq.join H9) cQ (e:=74) rfl (i:=12) rfl (λ_=>hGq.mono (O2 9) (Hp.le_join_l _ _)) B.2 [sv B.2.1,iQ op9,sv f9.1,.slice a9 n9 c9,sv fac9,.slice a8 n8 c8,sv B.2.2.2.1,sv B.2.2.2.2] (j:=14) rfl rfl rfl rfl om (λhs=>?_) λo2 _ hG2=>?_
   ·obtain⟨w0,w',hok⟩:=hs;exact O2 9 _ _ _ _ (Hp.le_join_r (hok.disj 11 13 _ _ dc rfl rfl)) hE9
   refine⟨sK,?_⟩;exact⟨(h9,HHq.join H9,o2,kz),⟨hR9,hG2⟩,y6.mk (λ_ _ h=>(Ok.join (h.pick [0,11,13,1,2,3,4,5,6,7,8,9,10,12] rfl rfl)).pick [0,2,3,4,5,6,7,8,9,10,11,1,12] rfl rfl) rfl rfl⟩
  rintro⟨h9,H9,o9,kz⟩ ⟨hR9,hG9⟩ _;dsimp only at hR9 hG9 ⊢;exact⟨(B.1,out++[B.2],h9,H9,o9,kz),⟨hR9,hI2,hG9⟩,hlt,y6.mk (λ_ _ h=>h) rfl rfl⟩
 have eq:=hI.done g1;have hlq:out.length<=65:=hI.l;have hgq:X4 rr:=hI.g;obtain⟨rq,erq⟩ :∃x,x=tq.1:=⟨_,rfl⟩
 have eoq:out=tq.2:=by rw[eq]
 have ewq:rr=rq:=by rw[erq,eq]
 rw[ewq] at hRq hgq;rw[eoq] at hGq hlq;clear hI eq ewq eoq;refine nQ [.hp (Hp.whole w),.hp hq,.box rb (H8 b kq od.a od.n od.c) 155,.box b2 [sv A.2,op.v,oi.v,od.v,oc.v,oq.v] 30,.hp k,.hp HHp,.hp op.h,.hp oi.h,.hp od.h,.hp HHc,.hp oc.h,.hp HHq,.hp oq.h] λq' hq'=>?_;refine lR 2 0 ?_;refine k6 (i:=1) rfl (λw0 w' hok=>LS w' (hok.mem 1 _ rfl) (hok.leI (i:=1) (j:=4) dc rfl rfl) hRq) ?_;rintro _ hf _ ⟨rfl,hRf⟩;have hRf:G0 k hf b (GU rq):=hRf;have eS:rG s=(GU rq,⟨A.2,tp.2,ti.2,td.2,tc.2,tq.2⟩):=by
  unfold rG CJ;dsimp only;rw[<-hr,<-er1,<-hA,<-er3,<-etp,<-erp,<-eti,<-eri,<-etd,<-erd,<-etc,<-erc,<-etq,<-erq]
 apply hq';refine nQ [.hp (Hp.whole w),.hp hf,.box rb (H8 b kq od.a od.n od.c) 155,.box b2 [sv A.2,op.v,oi.v,od.v,oc.v,oq.v] 30,.hp k,.hp HHp,.hp op.h,.hp oi.h,.hp od.h,.hp HHc,.hp oc.h,.hp HHq,.hp oq.h] λq' hq'=>?_;refine lR 2 0 ?_;refine k7 _ (λw' hm=>CB w' (hm 1 _ rfl) hRf) ?_;apply hq';refine nQ [.hp (Hp.whole w),.hp hf,.box rb (H8 b kq od.a od.n od.c) 155,.box b2 [sv A.2,op.v,oi.v,od.v,oc.v,oq.v] 30,.hp k,.hp HHp,.hp op.h,.hp oi.h,.hp od.h,.hp HHc,.hp oc.h,.hp HHq,.hp oq.h] λq' hq'=>?_;apply hq';refine d9 (λf1=>?_) λf1=>?_
 ·have eP:jA s=(WN,((GU rq).ln:Int),((GU rq).co:Int),(GU rq).e):=by
   unfold jA;rw[eS,if_pos f1]
  rw[eP,if_neg f1,if_neg f1];exact⟨[.hp Hp.emp],⟨Hp.emp,_,rfl,rfl,rfl,Gv 9 _⟩,λw' h=>(h.pick [0] rfl rfl).emp⟩
 ·have f2:(GU rq).e=0:=B9.1 f1;have eP:jA s=(⟨A.2,tp.2,ti.2,td.2,tc.2,tq.2⟩,0,0,0):=by
   unfold jA;rw[eS,if_neg (λc=>c f2)]
  rw[eP];have hdl:RB [.hp HHp,.hp op.h,.hp oi.h,.hp od.h,.hp HHc,.hp oc.h,.hp HHq,.hp oq.h]:=by
   obtain⟨w0,w1,hok⟩:=hsat0;exact (hok.pick [0,5,6,7,8,9,10,11,12] rfl rfl).djL
  refine⟨[.hp (joinL [.hp HHp,.hp op.h,.hp oi.h,.hp od.h,.hp HHc,.hp oc.h,.hp HHq,.hp oq.h])],⟨_,_,rfl,rfl,rfl,⟨op.a,op.n,op.c,oi.a,oi.n,oi.c,od.a,od.n,od.c,oc.a,oc.n,oc.c,oq.a,oq.n,oq.c,rfl,hGp.sl J0 dc (H0 hdl (i:=0) rfl) (H0 hdl (i:=1) rfl),(w5.sl (f:=fF) (λ_=>rfl) dc hGi).mono (j7 _) (H0 hdl (i:=2) rfl),(w5.sl (f:=P2) (λ_=>rfl) dc hGd).mono (j7 _) (H0 hdl (i:=3) rfl),hGc.sl V5 dc (H0 hdl (i:=4) rfl) (H0 hdl (i:=5) rfl),hGq.sl (O2 9) dc (H0 hdl (i:=6) rfl) (H0 hdl (i:=7) rfl)⟩⟩,λw' h=>(h.pick [0,5,6,7,8,9,10,11,12] rfl rfl).joinL⟩
end Go.Proofs.YtpjhmeicbjkcdaaGreatDoor
namespace Go.Proofs.YtpjhmeicbjkcdaaGreatDoor
open Go Go.RowKit Go.Dw
theorem Jp {α:Type} {R:yV α} {sz b T:Nat} {x y:α} {c d:List Value} {h:Hp} (hh:(Ch.box b (c++d) T).h.le h) (hc:c.length=sz) (hd:d.length=sz) (hx:R h x c) (hy:R h y d):Sl R sz h (some ⟨b,0,none⟩) 2 2 [x,y]:=by
 refine⟨rfl,j8 _,λi hi=>?_⟩;match i,hi with
 | 0,_=>
  refine⟨b,0,c,rfl,hc,hx,λj v hj=>hh.cell (I0 b T ?_)⟩;have hl:=(p6.1 hj).1;rw[show 0+0*sz+j=j by omega,X3 hl];exact hj
 | 1,_=>
  refine⟨b,0,d,rfl,hd,hy,λj v hj=>hh.cell (I0 b T ?_)⟩;rw[show 0+1*sz+j=c.length+j by omega,L8 om,CY];exact hj
theorem tO {d:Nat} {H:Hp} {p:kR} {xs:List Value} (h:vX d H p xs) :∃a1 n1 c1 a2 n2 c2 a3 n3 c3 a4 n4 c4 a5 n5 c5,xs = [sv p.nm,.slice a1 n1 c1,.slice a2 n2 c2,.slice a3 n3 c3,.slice a4 n4 c4,.slice a5 n5 c5]/\n1=p.parts.length/\n2=p.insts.length/\n3=p.dims.length/\n4=p.cons.length/\n5=p.reqs.length:=by
 obtain⟨a1,n1,c1,a2,n2,c2,a3,n3,c3,a4,n4,c4,a5,n5,c5,e,h1,h2,h3,h4,h5⟩:=h.ex;exact⟨a1,n1,c1,a2,n2,c2,a3,n3,c3,a4,n4,c4,a5,n5,c5,e,h1.len,h2.len,h3.len,h4.len,h5.len⟩
theorem WM (s:d8) (h:s.length < 1000000):Ek ⟨s,[],[],[],[],[]⟩:=⟨h,sQ,sQ,sQ,sQ,sQ,nofun,nofun,nofun,nofun⟩
theorem Cc (w:World) (hP:dY (Hp.whole w)):j2 Tryz.prog 13 #[.agg #[sv [112],zl,zl,zl,zl,zl]] w (v8 w (.tuple #[sv [112,114,111,100,117,99,116,32,112,59,10],iQ 0])):=by
 have h:=BW (d:=0) (p:=⟨[112],[],[],[],[],[]⟩) (cs:=[sv [112],zl,zl,zl,zl,zl]) w ⟨⟨none,0,0,none,0,0,none,0,0,none,0,0,none,0,0,rfl,Sl.nil _ _ _ _ _,Sl.nil _ _ _ _ _,Sl.nil _ _ _ _ _,Sl.nil _ _ _ _ _,Sl.nil _ _ _ _ _⟩⟩ (WM [112] dc) hP;rw[Hn] at h;exact h
theorem Mj:jA Kg=(WN,1,36,8):=by
 have h:=Hq;simp only[Prod.mk.injEq] at h;unfold jA;rw[if_pos (by rw[h.2.2];decide),h.1,h.2.1,h.2.2];rfl
theorem Jy:(jA Ja).1=WN/\(jA Ja).2.2.2=14:=by
 have h:=Ho;unfold jA;rw[if_pos (by rw[h];decide),h];exact⟨rfl,rfl⟩
theorem Cb {b1 b2 b3 T1 T2 T3:Nat} (w:World) (h1:(Ch.box b1 [sv [97],iQ 0,iQ 0,iQ 0] T1).h.In w) (h2:(Ch.box b2 [iQ 0,sv [49]] T2).h.In w)
  (h3:(Ch.box b3 [iQ 0,sv [48],.slice (some ⟨b2,0,none⟩) 1 1,zs,zl,iQ 0,sv [53],zl,zs,zl] T3).h.In w) :
  j2 Tryz.prog 19 #[.slice (some ⟨b1,0,none⟩) 1 1,.agg #[iQ 4,zs,zl,zs,.slice (some ⟨b3,0,none⟩) 2 2]] w (v8 w (.tuple #[sv [109,97,120,40,91,48,32,43,32,49,32,42,32,97,93,44,32,91,53,93,41],iQ 0])):=by
 have hD:Sl (E0 P2) 4 (Hp.whole w) (some ⟨b1,0,none⟩) 1 1 [([97],0,0,0)]:=Sl.box (f:=P2) (sz:=4) (λ_=>rfl) dc h1 [([97],0,0,0)] rfl rfl dc;have hT:Sl (E0 bO) 2 (Hp.whole w) (some ⟨b2,0,none⟩) 1 1 [(0,[49])]:=Sl.box (f:=bO) (sz:=2) (λ_=>rfl) dc h2 [(0,[49])] rfl rfl dc;have hA:Sl (bE 1) 5 (Hp.whole w) (some ⟨b3,0,none⟩) 2 2 [.mk 0 ([48],[(0,[49])]) [] [],.mk 0 ([53],[]) [] []]:=
  Jp (x:=Ex.mk 0 ([48],[(0,[49])]) [] []) (y:=Ex.mk 0 ([53],[]) [] []) (c:=[iQ 0,sv [48],.slice (some ⟨b2,0,none⟩) 1 1,zs,zl]) (d:=[iQ 0,sv [53],zl,zs,zl]) h3.whole rfl rfl
   ⟨_,_,_,none,0,0,rfl,hT,Sl.nil _ _ _ _ _⟩ ⟨none,0,0,none,0,0,rfl,Sl.nil _ _ _ _ _,Sl.nil _ _ _ _ _⟩
 have hx:RA Mu:=.mk ⟨dc,dc,nofun⟩ dc dc (by
  intro y hy;rcases p9.1 hy with rfl | hy
  ·exact .mk ⟨dc,dc,by intro t ht;rcases p9.1 ht with rfl | ht;decide;cases ht⟩ dc dc nofun
  ·rcases p9.1 hy with rfl | hy
   ·exact .mk ⟨dc,dc,nofun⟩ dc dc nofun
   ·cases hy)
 have h:=BX (e:=2) (D:=[([97],0,0,0)]) (x:=Mu) (cs:=[iQ 4,zs,zl,zs,.slice (some ⟨b3,0,none⟩) 2 2]) w hD ⟨none,0,0,_,_,_,rfl,Sl.nil _ _ _ _ _,hA⟩ hx dc (by intro d hd;rcases p9.1 hd with rfl | hd;decide;cases hd) (by decide +kernel);rw[Hm] at h;exact h
set_option maxRecDepth 10000 in
theorem GO (w:World) (hT:uT (Hp.whole w)) (hP:dY (Hp.whole w)):j2 Tryz.prog 9 #[] w (v8 w (.bool true)):=by
 have hA:=λ(w':World) (hm:(Hp.whole w).In w')=>sG Kg w' (hT.mono hm.whole);have hB:=λ(w':World) (hm:(Hp.whole w).In w')=>sG Ja w' (hT.mono hm.whole);rw[Mj] at hA;rw[Jy.1,Jy.2] at hB;generalize (jA Ja).2.1=z1 at hB;generalize (jA Ja).2.2.1=z2 at hB;refine enterZ (cx 79) [] [.tmp 0] Tryz.func9 ?_;refine m9 (λ_ kz=>kz _ _ ?_);refine m9 λq' hq'=>?_;refine k7 _ (λw' hm=>Cc w' (hP.mono (hm 0 _ rfl).whole)) ?_;apply hq';refine m9 λq' hq'=>?_;refine call (λw' hm=>hA w' (hm 0 _ rfl)) ?_;rintro _ _ ⟨H1,xs,rfl,rfl,_,hp1⟩;obtain⟨a1,n1,c1,a2,n2,c2,a3,n3,c3,a4,n4,c4,a5,n5,c5,rfl,_⟩:=tO hp1;intro b3;apply hq';refine m9 λq' hq'=>?_;refine call (λw' hm=>hB w' (hm 0 _ rfl)) ?_;rintro _ _ ⟨H2,ys,rfl,rfl,_,hp2⟩;obtain⟨u1,m1,e1,u2,m2,e2,u3,m3,e3,u4,m4,e4,u5,m5,e5,rfl,_⟩:=tO hp2;intro b7;apply hq';refine nQ [.hp (Hp.whole w),.hp H1,.box b3 [zs,.slice a1 n1 c1,.slice a2 n2 c2,.slice a3 n3 c3,.slice a4 n4 c4,.slice a5 n5 c5] 30,.hp H2,.box b7 [zs,.slice u1 m1 e1,.slice u2 m2 e2,.slice u3 m3 e3,.slice u4 m4 e4,.slice u5 m5 e5] 30] λq' hq'=>?_;intro b32 b34 b39;refine k7 _ (λw' hm=>Cb (b1:=b32) (b2:=b34) (b3:=b39) w' (hm 5 _ rfl) (hm 6 _ rfl) (hm 7 _ rfl)) ?_;apply hq';show Q7 _ _ _ _ _ _
 (iterate 3 refine w1j λK hK=>?_;apply hK);refine wGYj λK hK=>?_;apply hK;refine wGYj λK hK=>?_;refine dL (b:=[112,114,111,100,117,99,116,32,112,59,10]) ?_;(iterate 2 apply hK;refine w1j λK hK=>?_);(iterate 2 apply hK;refine wGYj λK hK=>?_);(iterate 2 apply hK;refine w1j λK hK=>?_);(iterate 2 apply hK;refine wGYj λK hK=>?_);(iterate 2 apply hK;refine w1j λK hK=>?_);(iterate 2 apply hK;refine wGYj λK hK=>?_);(iterate 2 apply hK;refine w1j λK hK=>?_);(iterate 2 apply hK;refine wGYj λK hK=>?_);(iterate 2 apply hK;refine w1j λK hK=>?_);(iterate 3 apply hK;refine wGYj λK hK=>?_);refine dL (b:=[]) ?_;(iterate 2 apply hK;refine w1j λK hK=>?_);(iterate 2 apply hK;refine wGYj λK hK=>?_);(iterate 2 apply hK;refine w1j λK hK=>?_);(iterate 2 apply hK;refine wGYj λK hK=>?_);refine dL (b:=[109,97,120,40,91,48,32,43,32,49,32,42,32,97,93,44,32,91,53,93,41]) ?_;(iterate 2 apply hK;refine w1j λK hK=>?_);apply hK;refine qX ?_;exact⟨[],⟨rfl,rfl⟩,pk [0]⟩
def Sc (s:d8):d8×Int×Int×Int:=if (rG s).1.e≠0 then ([],(rG s).1.ln,(rG s).1.co,(rG s).1.e) else ((SA (rG s).2).1,0,0,(SA (rG s).2).2)
theorem Sn (s:d8) (w:World) (hT:uT (Hp.whole w)) (hP:dY (Hp.whole w)) (hs:(rG s).1.e=0->Ek (rG s).2) :
  j2 Tryz.prog 28 #[sv s] w (fQ w λv cs=>∃H,cs = [.hp H]/\v=.tuple #[sv (Sc s).1,iQ (Sc s).2.1,iQ (Sc s).2.2.1,iQ (Sc s).2.2.2]):=by
 refine enterZ (cx 26) [sv s] [.tmp 2,.tmp 3,.tmp 4,.tmp 5] Tryz.func28 ?_;refine m9 (λ_ kz=>kz _ _ ?_);refine m9 λq' hq'=>?_;refine call (λw' hm=>sG s w' (hT.mono (hm 0 _ rfl).whole)) ?_;rintro _ _ ⟨H1,xs,rfl,rfl,_,hp1⟩;have hp0:=hp1;obtain⟨a1,n1,c1,a2,n2,c2,a3,n3,c3,a4,n4,c4,a5,n5,c5,rfl,_⟩:=tO hp1;intro b6;apply hq';by_cases he:(rG s).1.e=0
 ·have e1:jA s=((rG s).2,0,0,0):=by unfold jA;rw[if_neg (λc=>c he)]
  have e2:Sc s=((SA (rG s).2).1,0,0,(SA (rG s).2).2):=by unfold Sc;rw[if_neg (λc=>c he)]
  rw[e1] at hp0 ⊢;rw[e2];dsimp only at hp0 ⊢;refine cD [.hp (Hp.whole w),.hp H1,.box b6 [sv (rG s).2.nm,.slice a1 n1 c1,.slice a2 n2 c2,.slice a3 n3 c3,.slice a4 n4 c4,.slice a5 n5 c5] 30] rfl ?_;refine m9 (λ_ kz=>kz _ _ ?_);refine dU rfl ?_;refine m9 λq' hq'=>?_;refine k7 _ (λw' hm=>BW w' (hp0.mono (hm 1 _ rfl).whole) (hs he) (hP.mono (hm 0 _ rfl).whole)) ?_;apply hq';exact⟨[.hp H1],⟨H1,rfl,rfl⟩,pk [0,1]⟩
 ·obtain⟨ln,hln⟩ :∃x:Int,x=(rG s).1.ln:=⟨_,rfl⟩
  obtain⟨co,hco⟩ :∃x:Int,x=(rG s).1.co:=⟨_,rfl⟩
  obtain⟨er,her⟩ :∃x:Int,x=(rG s).1.e:=⟨_,rfl⟩
  have e1:jA s=(WN,ln,co,er):=by unfold jA;rw[if_pos he,hln,hco,her]
  have e2:Sc s=([],ln,co,er):=by unfold Sc;rw[if_pos he,hln,hco,her]
  rw[<-her] at he;rw[e1,e2];dsimp only;clear hs hp0 hp1;refine cD [.hp (Hp.whole w),.hp H1,.box b6 [sv WN.nm,.slice a1 n1 c1,.slice a2 n2 c2,.slice a3 n3 c3,.slice a4 n4 c4,.slice a5 n5 c5] 30] rfl ?_;refine m9 (λ_ kz=>kz _ _ ?_);refine K9 (by rfl) (λg=>?_) (λg=>absurd (of_decide_eq_false g) (λc=>c he));exact⟨[.hp H1],⟨H1,rfl,rfl⟩,pk [0,1]⟩
end Go.Proofs.YtpjhmeicbjkcdaaGreatDoor
namespace Go.Proofs.YtpjhmeicbjkcdaaGreatDoor
open Go Go.RowKit Go.Dw
theorem YO :∀(n:Nat) (L:d8),L.length=n->L.all k9=true->aM L=true->Lib.decDigits (P6 L)=L:=by
 intro n;induction n with
 | zero=>
  intro L hl _ hc;rw[F7] at hl;subst hl;cases hc
 | succ n ih=>
  intro L hl hd hc;obtain⟨A,c,rfl⟩ :∃A c,L=A++[c]:=⟨L.dropLast,L.getLast (by intro e;rw[e] at hl;cases hl),(List.dropLast_concat_getLast _).symm⟩
  rw[d6] at hl;have hl:A.length=n:=by simpa using hl
  rw[sL,j4] at hd;have hcd:k9 c=true:=by simpa using hd.2
  unfold k9 at hcd;rw[j4,decide_eq_true_eq,decide_eq_true_eq] at hcd;have e48:(48:UInt8).toNat=48:=rfl;have hv:P6 [c]=c.toNat - 48:=by show 10*0+(c.toNat - 48)=_;omega
  have hof:UInt8.ofNat (48+(c.toNat - 48))=c:=by
   rw[show 48+(c.toNat - 48)=c.toNat by omega];exact UInt8.ofNat_toNat
  rw[aL,hv];show Lib.decDigits (P6 A*10 ^ 1+_)=_
  rw[Nat.pow_one];cases A with
  | nil=>
   show Lib.decDigits (0*10+_)=_
   rw[bV,w7,Lib.decDigits_one om,hof];rfl
  | cons a A=>
   have h0:a≠48:=by
    unfold aM at hc;rw[j4,Q3,decide_eq_true_eq,decide_eq_true_eq] at hc;rcases hc.2 with h | h
    ·rw[d6] at h;simp at h
    ·intro e;subst e;cases h
   have hp:0 < P6 (a::A):=QO hd.1 sQ h0;have hcA:aM (a::A)=true:=by
    unfold aM;rw[j4,Q3,decide_eq_true_eq];refine⟨sQ,.inr ?_⟩;show (!decide (a=48))=true
    rw[decide_eq_false h0];rfl
   rw[KW om,show (P6 (a::A)*10+(c.toNat - 48)) / 10=P6 (a::A) by omega,show (P6 (a::A)*10+(c.toNat - 48)) % 10=c.toNat - 48 by omega,ih _ hl hd.1 hcA,hof]
theorem Dl {M:Nat} {L:d8} (h:Ix M L):L=Lib.decDigits M:=by rw[<-h.2.2];exact (YO _ L rfl h.1 h.2.1).symm
theorem qZ {z:Int} {a:Option Addr} {n c:Nat} (w:World) (hM:cA (Hp.whole w) (.slice a n c) z.natAbs) (hm:z.natAbs < 100000000000000000000) (hP:dY (Hp.whole w)) :
  j2 Tryz.prog 150 #[T8 (decide (z < 0)) a n c] w (v8 w (sv (zT z))):=by
 have h:=CI (decide (z < 0)) w hM (λg=>by have:=of_decide_eq_true g;omega) hm hP;refine⟨h.1,h.2.mono ?_⟩;rintro e w' ⟨v,cs,rfl,hok,rfl,L,rfl,hL,_⟩;refine⟨_,[],rfl,hok,?_,rfl⟩;rw[Dl hL];unfold zT;by_cases g:z < 0
 ·rw[decide_eq_true g,if_pos rfl,if_pos g]
 ·rw[decide_eq_false g,if_neg dc,if_neg g]
theorem Dt {L:List Nat} {x:Nat} (h:fX L x):LV L=L/\trN L=L.length:=by
 have h1:=U7 h.l;rw[h.v] at h1;have e:=h1.uniq h;exact⟨e,by rw[<-iH,e]⟩
theorem tH (neg:Bool) {a:Option Addr} {n c x:Nat} (w:World) (hM:cA (Hp.whole w) (.slice a n c) x):j2 Tryz.prog 197 #[.bool neg,.slice a n c] w (v8 w (T8 (neg && decide (0 < x)) a n c)):=by
 obtain⟨_,_,_,L,e,hs,hc,hl⟩:=hM;cases e;have h:=aU neg w hs om;have e2:=(Dt hc).2;rw[e2,<-hs.len] at h;have e3:decide (0 < n)=decide (0 < x):=by
  rw[decide_eq_decide,hs.len];have:=hc.zero;rw[<-F7] at this;omega
 rw[e3] at h;exact h
set_option maxRecDepth 10000 in
theorem uM {g1 g2:Bool} {a1 a2:Option Addr} {n1 c1 n2 c2 x y:Nat} (w:World) (ha:cA (Hp.whole w) (.slice a1 n1 c1) x) (hb:cA (Hp.whole w) (.slice a2 n2 c2) y) (hy:0 < y) (hd:x % y=0) :
  j2 Tryz.prog 196 #[T8 g1 a1 n1 c1,T8 g2 a2 n2 c2] w (fQ w λv cs=>∃g a n c rv,cs = [.hp g]/\v=.tuple #[T8 ((!(g1==g2)) && decide (0 < x / y)) a n c,rv,iQ 0]/\cA g (.slice a n c) (x / y)):=by
 unfold T8;refine enterZ (cx 51) [.agg #[.bool g1,.slice a1 n1 c1],.agg #[.bool g2,.slice a2 n2 c2]] [.cell 4 139,.cell 5 139,.tmp 6] Tryz.func196 ?_;intro b2 b3 b4 b5;refine m9 (λ_ kz=>kz _ _ ?_);refine nQ [.hp (Hp.whole w),.box b2 [.bool g1,.slice a1 n1 c1] 139,.box b3 [.bool g2,.slice a2 n2 c2] 139,.box b4 [.bool false,zl] 139,.box b5 [.bool false,zl] 139] λq' hq'=>?_;refine k7 _ (λw' hm=>by
  have h:=cG (neg:=g2) w' (hb.mono (hm 0 _ rfl).whole);rw[if_neg (show y≠0 by omega)] at h;exact h) ?_
 apply hq';refine K9 (by rfl) (λh1=>absurd (of_decide_eq_true h1) (by cases g2 <;> decide)) λ_=>?_;refine nQ [.hp (Hp.whole w),.box b2 [.bool g1,.slice a1 n1 c1] 139,.box b3 [.bool g2,.slice a2 n2 c2] 139,.box b4 [.bool false,zl] 139,.box b5 [.bool false,zl] 139] λq' hq'=>?_;refine call (λw' hm=>xF w' (ha.mono (hm 0 _ rfl).whole) (hb.mono (hm 0 _ rfl).whole) hy) ?_;rintro _ _ ⟨gd,vq,vr,rfl,rfl,hq,hr⟩;obtain⟨aq,nq,cq,Lq,rfl,sq,cq9,lq⟩:=hq;have hq:cA gd (.slice aq nq cq) (x / y):=⟨aq,nq,cq,Lq,rfl,sq,cq9,lq⟩
 obtain⟨ar,nr,cr,rfl,hR⟩ :∃a n c,vr=.slice a n c/\∀W,(Hp.whole w).le W->gd.le W->cA W (.slice a n c) 0:=by
  rcases hr with ⟨rfl,h⟩ | h
  ·refine⟨a1,n1,c1,rfl,λW l1 _=>?_⟩;have e:x=0:=by rw[C7 h] at hd;exact hd
   rw[e] at ha;exact ha.mono l1
  ·obtain⟨ar,nr,cr,Lr,rfl,h2⟩:=h;rw[hd] at h2;exact⟨ar,nr,cr,rfl,λW _ l2=>cA.mono l2 ⟨ar,nr,cr,Lr,rfl,h2⟩⟩
 clear hr;apply hq';refine u6.cut Unit (λ_=>[(2,.bx 1 0),(3,.bx 2 0),(4,.bx 3 0),(5,.bx 4 0)]) (λ_=>[.hp (Hp.whole w),.box b2 [.bool g1,.slice a1 n1 c1] 139,.box b3 [.bool g2,.slice a2 n2 c2] 139,.box b4 [.bool ((!(g1==g2)) && decide (0 < x / y)),.slice aq nq cq] 139,.box b5 [.bool false,.slice ar nr cr] 139,.hp gd]) (λ_=>True) (u6.by_order0 (s0:=[.hp (Hp.whole w),.box b2 [.bool g1,.slice a1 n1 c1] 139,.box b3 [.bool g2,.slice a2 n2 c2] 139,.hp Hp.emp,.hp Hp.emp,.hp gd]) cQ (.take 0 <| .take 1 <| .take 2 <| .take 3 <| .take 4 <| .take 5 <| .take 7 <| .take 8 <| .take 9 <| .run 6 <| .run 10 <| .run 11 <| .run 12 <| .done) kr (sK) ?_) ?_
 ·refine Gs ?_;refine k7 _ (λw' hm=>tH (!(g1==g2)) w' (hq.mono (hm 5 _ rfl).whole)) ?_;refine⟨sK,?_⟩;refine k7 _ (λw' hm=>by
   have h:=tH g1 w' (hR _ (hm 0 _ rfl).whole (hm 5 _ rfl).whole);rw[show decide (0 < 0)=false from rfl,Bool.and_false] at h;exact h) ?_
  (iterate 2 refine⟨sK,?_⟩);exact⟨(),trivial,y6.mk (pj [0,1,2,3,4,5]) rfl rfl⟩
 intro _ _ _;dsimp only;refine nQ [.hp (Hp.whole w),.box b2 [.bool g1,.slice a1 n1 c1] 139,.box b3 [.bool g2,.slice a2 n2 c2] 139,.box b4 [.bool ((!(g1==g2)) && decide (0 < x / y)),.slice aq nq cq] 139,.box b5 [.bool false,.slice ar nr cr] 139,.hp gd] λq' hq'=>?_;refine k7 _ (λw' hm=>by
  have h:=cG (neg:=false) w' (hR _ (hm 0 _ rfl).whole (hm 5 _ rfl).whole);rw[if_pos rfl] at h;exact h) ?_
 apply hq';refine dU rfl ?_;refine u6.cut Unit (λ_=>[(4,.bx 3 0),(5,.bx 4 0),(6,.v (iQ 0))]) (λ_=>[.hp (Hp.whole w),.box b2 [.bool g1,.slice a1 n1 c1] 139,.box b3 [.bool g2,.slice a2 n2 c2] 139,.box b4 [.bool ((!(g1==g2)) && decide (0 < x / y)),.slice aq nq cq] 139,.box b5 [.bool false,.slice ar nr cr] 139,.hp gd]) (λ_=>True) (u6.by_order cQ (.take 0 <| .take 1 <| .run 2 <| .run 3 <| .run 4 <| .done) kr ?_) ?_
 ·first
  | exact⟨sK,sK,sK,(),trivial,y6.mk (pj [0,1,2,3,4,5]) rfl rfl⟩
  | exact⟨sK,sK,(),trivial,y6.mk (pj [0,1,2,3,4,5]) rfl rfl⟩
  | exact⟨sK,(),trivial,y6.mk (pj [0,1,2,3,4,5]) rfl rfl⟩
  | exact⟨(),trivial,y6.mk (pj [0,1,2,3,4,5]) rfl rfl⟩
 intro _ _ _;exact⟨[.hp gd],⟨gd,aq,nq,cq,_,rfl,rfl,hq⟩,pk [0,5]⟩
theorem gcd_div {x y:Nat} (hy:0 < y):0 < G8 x y/\x % G8 x y=0/\y % G8 x y=0:=
 ⟨iD _ hy,Nat.mod_eq_zero_of_dvd (CX _ _),Nat.mod_eq_zero_of_dvd (Nat.gcd_dvd_right _ _)⟩
set_option maxRecDepth 10000 in
theorem FV {g1:Bool} {a1 a2:Option Addr} {n1 c1 n2 c2 x y:Nat} {h1 h2:Hp} (w:World) (hin1:h1.In w) (hin2:h2.In w) (ha:cA h1 (.slice a1 n1 c1) x) (hb:cA h2 (.slice a2 n2 c2) y) (hy:0 < y) (hg:g1=true->0 < x) :
  j2 Tryz.prog 145 #[T8 g1 a1 n1 c1,T8 false a2 n2 c2] w (fQ w λv cs=>∃g b1 k1 e1 b2 k2 e2,cs = [.hp g]/\v=cI g1 b1 k1 e1 false b2 k2 e2/\∀W,h1.le W->h2.le W->g.le W->cA W (.slice b1 k1 e1) (x / G8 x y)/\cA W (.slice b2 k2 e2) (y / G8 x y)):=by
 have hW1:h1.le (Hp.whole w):=hin1.whole;have hW2:h2.le (Hp.whole w):=hin2.whole;obtain⟨q1,q2,q3⟩:=gcd_div (x:=x) hy;have hxd:decide (0 < x / G8 x y)=decide (0 < x):=by
  rw[decide_eq_decide];refine⟨λh=>?_,λh=>Nat.div_pos (UV h (CX _ _)) q1⟩;refine E4 λe=>?_;rw[e,Nat.zero_div] at h;omega
 obtain⟨G,hGd⟩ :∃G,G=G8 x y:=⟨_,rfl⟩
 rw[<-hGd] at q1 q2 q3 hxd ⊢;unfold T8;refine enterZ (cx 37) [.agg #[.bool g1,.slice a1 n1 c1],.agg #[.bool false,.slice a2 n2 c2]] [.cell 4 141] Tryz.func145 ?_;intro b2 b3 b4;refine m9 (λ_ kz=>kz _ _ ?_);refine nQ [.hp (Hp.whole w),.box b2 [.bool g1,.slice a1 n1 c1] 139,.box b3 [.bool false,.slice a2 n2 c2] 139,.box b4 [.bool false,zl,.bool false,zl] 141] λq' hq'=>?_;refine k7 _ (λw' hm=>by
  have h:=cG (neg:=false) w' ((hb.mono hW2).mono (hm 0 _ rfl).whole);rw[if_neg (show y≠0 by omega),if_neg dc] at h;exact h) ?_
 apply hq';refine dU rfl ?_;refine nQ [.hp (Hp.whole w),.box b2 [.bool g1,.slice a1 n1 c1] 139,.box b3 [.bool false,.slice a2 n2 c2] 139,.box b4 [.bool false,zl,.bool false,zl] 141] λq' hq'=>?_;refine call (λw' hm=>KI w' (hm 0 _ rfl) (ha.mono hW1) (hb.mono hW2)) ?_;rintro _ _ ⟨gg,a5,n5,c5,rfl,rfl,hG⟩;rw[<-hGd] at hG;intro b5;apply hq';refine u6.cut Unit (λ_=>[(2,.bx 1 0),(3,.bx 2 0),(4,.bx 3 0),(5,.bx 5 0),(19,.v (.bool (decide (jB (aE false G) (aE false 1)≠0))))]) (λ_=>[.hp (Hp.whole w),.box b2 [.bool g1,.slice a1 n1 c1] 139,.box b3 [.bool false,.slice a2 n2 c2] 139,.box b4 [.bool false,zl,.bool false,zl] 141,.hp gg,.box b5 [.bool false,.slice a5 n5 c5] 139]) (λ_=>True) (u6.by_order cQ (.take 0 <| .run 1 <| .run 2 <| .take 3 <| .done) kr ?_) ?_
 ·refine call (λw' hm=>tX w') ?_;rintro _ _ ⟨g6,a6,n6,c6,rfl,rfl,h6⟩;refine⟨sK,?_⟩;refine k7 _ (λw' hm=>dA w' (hG _ (hm 0 _ rfl).whole (hm 4 _ rfl).whole) (h6.mono (hm 6 _ rfl).whole) nofun nofun) ?_;refine⟨sK,?_⟩;exact⟨(),trivial,y6.mk (pj [0,1,2,3,4,5]) rfl rfl⟩
 intro _ _ _;dsimp only;refine K9 (by rfl) (λh1=>?_) λh1=>?_
 ·refine nQ [.hp (Hp.whole w),.box b2 [.bool g1,.slice a1 n1 c1] 139,.box b3 [.bool false,.slice a2 n2 c2] 139,.box b4 [.bool false,zl,.bool false,zl] 141,.hp gg,.box b5 [.bool false,.slice a5 n5 c5] 139] λq' hq'=>?_;refine call (λw' hm=>uM (g1:=g1) (g2:=false) w' ((ha.mono hW1).mono (hm 0 _ rfl).whole) (hG _ (hm 0 _ rfl).whole (hm 4 _ rfl).whole) q1 q2) ?_;rintro _ _ ⟨g7,a7,n7,c7,r7,rfl,rfl,h7⟩;have e7:((!(g1==false)) && decide (0 < x / G))=g1:=by
   rw[hxd];cases g1 with
   | false=>rfl
   | true=>rw[decide_eq_true (hg rfl)];rfl
  rw[e7];apply hq';refine nQ [.hp (Hp.whole w),.box b2 [.bool g1,.slice a7 n7 c7] 139,.box b3 [.bool false,.slice a2 n2 c2] 139,.box b4 [.bool false,zl,.bool false,zl] 141,.hp gg,.box b5 [.bool false,.slice a5 n5 c5] 139,.hp g7] λq' hq'=>?_;refine EO (λw' hm=>uM (g1:=false) (g2:=false) w' ((hb.mono hW2).mono (hm 0 _ rfl).whole) (hG _ (hm 0 _ rfl).whole (hm 4 _ rfl).whole) q1 q3) ?_;rintro _ _ ⟨g8,a8,n8,c8,r8,rfl,rfl,h8⟩ hsat;have hdj:g7.dj g8:=by
   obtain⟨w0,w1,hok⟩:=hsat;exact hok.disj 6 7 _ _ dc rfl rfl
  rw[show ((!(false==false)) && decide (0 < y / G))=false from rfl];apply hq';refine nQ [.hp (Hp.whole w),.box b2 [.bool g1,.slice a7 n7 c7] 139,.box b3 [.bool false,.slice a8 n8 c8] 139,.box b4 [.bool false,zl,.bool false,zl] 141,.hp gg,.box b5 [.bool false,.slice a5 n5 c5] 139,.hp g7,.hp g8] λq' hq'=>?_;apply hq';exact⟨[.hp (g7.join g8)],⟨_,_,_,_,_,_,_,rfl,rfl,λW _ _ l2=>⟨h7.mono ((Hp.le_join_l _ _).trans l2),h8.mono ((Hp.le_join_r hdj).trans l2)⟩⟩,λw' h=>(Ok.join (h.pick [0,6,7] rfl rfl)).pick [0,1] rfl rfl⟩
 ·have hG1:G=1:=by
   have h2 : ¬ jB (aE false G) (aE false 1)≠0:=of_decide_eq_false h1;rw[GQ,GQ] at h2;refine j3 λc=>h2 ?_;unfold jB;split
   ·decide
   ·split
    ·decide
    ·omega
  refine m9 λq' hq'=>?_;apply hq';refine⟨[.hp Hp.emp],⟨_,_,_,_,_,_,_,rfl,rfl,λW l1 l2 _=>?_⟩,λw' h=>(h.pick [0] rfl rfl).emp⟩;rw[hG1,Nat.div_one,Nat.div_one];exact⟨ha.mono l1,hb.mono l2⟩
end Go.Proofs.YtpjhmeicbjkcdaaGreatDoor
namespace Go.Proofs.YtpjhmeicbjkcdaaGreatDoor
open Go Go.RowKit Go.Dw
theorem Hx {a:Int} {g:Nat} (hg:0 < g) (hd:g∣a.natAbs):(a / (g:Int)).natAbs=a.natAbs / g/\(a / (g:Int) < 0↔a < 0):=by
 obtain⟨c,hc⟩:=hd;have h2:a=(g:Int)*c\/a=(g:Int) * -(c:Int):=by
  rcases Int.natAbs_eq a with h | h
  ·left;rw[h,hc];push_cast;rfl
  ·right;rw[h,hc];push_cast;rw[Int.mul_neg]
 rw[hc,Po _ hg];have hg':(0:Int) < g:=om
 rcases h2 with h2 | h2
 ·rw[h2,Pm _ om];refine⟨om,⟨λh=>by omega,λh=>?_⟩⟩;have:(0:Int)<=(g:Int)*c:=Int.mul_nonneg om om;omega
 ·rw[h2,Pm _ om];refine⟨om,⟨λh=>?_,λh=>?_⟩⟩
  ·rw[Int.mul_neg];have:(0:Int) < (g:Int)*c:=Int.mul_pos hg' om;omega
  ·rcases u9 c with e | e
   ·subst e;simp at h
   ·omega
theorem S5 (x:Int) (hx1 : -9223372036854775808<=x) (hx2:x<=9223372036854775807) (w:World) :
  j2 Tryz.prog 71 #[iQ x] w (fQ w λv cs=>∃g a n c,cs = [.hp g]/\v=cI (decide (x < 0)) a n c false none 0 0/\qO g a n c x.natAbs):=by
 refine enterZ (cx 6) [iQ x] [.cell 2 141] Tryz.func71 ?_;intro b2;refine call (λw' hm=>vN x hx1 hx2 w') ?_;rintro _ _ ⟨g,a,n,c,L,rfl,rfl,hs,hc⟩;have hM:qO g a n c x.natAbs:=GL (h:=g) (m:=19) ⟨a,n,c,L,rfl,hs,hc,by
  refine Nat.le_of_not_lt λh=>?_;have h1:=hc.ge om;have h2:Bs ^ 2<=Bs ^ (L.length - 1):=E9 (by unfold Bs;omega) om;unfold Bs at *;omega⟩ om dc
 exact⟨[.hp g],⟨g,a,n,c,rfl,rfl,hM⟩,pk [0,2]⟩
theorem BV {n1:Bool} {a1 a2:Option Addr} {k1 c1 k2 c2 x:Nat} (w:World) (hM:cA (Hp.whole w) (.slice a1 k1 c1) x) :
  j2 Tryz.prog 144 #[cI n1 a1 k1 c1 false a2 k2 c2] w (v8 w (iQ (if x=0 then 0 else if n1=true then -1 else 1))):=by
 unfold cI;refine enterZ (cx 6) [.agg #[.bool n1,.slice a1 k1 c1,.bool false,.slice a2 k2 c2]] [.tmp 2] Tryz.func144 ?_;intro b1;refine k7 _ (λw' hm=>cG w' (hM.mono (hm 0 _ rfl).whole)) ?_;exact⟨[],⟨rfl,rfl⟩,pk [0]⟩
theorem uU {z:Int} {m:Nat} {a1 a2:Option Addr} {k1 c1 k2 c2:Nat} (w:World) (h1:cA (Hp.whole w) (.slice a1 k1 c1) z.natAbs) (h2:cA (Hp.whole w) (.slice a2 k2 c2) m) (hz:z.natAbs < 100000000000000000000) (hm:m < 100000000000000000000) (hP:dY (Hp.whole w)) :
  j2 Tryz.prog 72 #[cI (decide (z < 0)) a1 k1 c1 false a2 k2 c2] w (v8 w (sv (if m=0\/m=1 then zT z else zT z++47::Lib.decDigits m))):=by
 have hzl:=mW (z:=z) (k:=20) dc hz;have hml:=yS (k:=20) (n:=m) dc hm;have hden:=λ(w':World) (hl:(Hp.whole w).le (Hp.whole w'))=>qZ (z:=(m:Int)) w' (a:=a2) (n:=k2) (c:=c2) (by rw[Int.natAbs_natCast];exact h2.mono hl) om (hP.mono hl);have ez:zT (m:Int)=Lib.decDigits m:=by unfold zT;rw[if_neg om,Int.natAbs_natCast]
 have en:decide ((m:Int) < 0)=false:=decide_eq_false om;rw[ez,en] at hden;unfold cI;refine enterZ (cx 16) [.agg #[.bool (decide (z < 0)),.slice a1 k1 c1,.bool false,.slice a2 k2 c2]] [.tmp 2] Tryz.func72 ?_;intro b1;refine m9 (λ_ kz=>kz _ _ ?_);refine m9 λq' hq'=>?_;refine k7 _ (λw' hm=>by
  have:=sT (n1:=decide (z < 0)) (a1:=a1) (k1:=k1) (c1:=c1) w' (h2.mono (hm 0 _ rfl).whole);unfold cI at this;exact this) ?_
 apply hq';refine K9 (by rfl) (λg=>?_) λg=>?_
 ·rw[if_pos (of_decide_eq_true g)];refine k7 _ (λw' hm=>qZ w' (h1.mono (hm 0 _ rfl).whole) hz (hP.mono (hm 0 _ rfl).whole)) ?_;exact⟨[],⟨rfl,rfl⟩,pk [0]⟩
 ·rw[if_neg (of_decide_eq_false g)];refine u6.cut Unit (λ_=>[(2,.v (sv (zT z++47::Lib.decDigits m)))]) (λ_=>[.hp (Hp.whole w)]) (λ_=>True) (u6.by_order cQ (.take 0 <| .take 1 <| .take 4 <| .take 5 <| .run 2 <| .take 3 <| .run 6 <| .take 7 <| .take 8 <| .done) kr ?_) ?_
  ·refine k7 _ (λw' hm=>qZ w' (h1.mono (hm 0 _ rfl).whole) hz (hP.mono (hm 0 _ rfl).whole)) ?_;refine⟨sK,?_⟩;refine gG (ty:=9) (a:=zT z) (b:=[47]) (by simp only[d7,i6];omega) ?_;refine k7 _ (λw' hm=>hden w' (hm 0 _ rfl).whole) ?_;refine⟨sK,?_⟩;refine gG (ty:=9) (a:=zT z++[47]) (b:=Lib.decDigits m) (by simp only[d6,d7,i6];omega) ?_;refine⟨(),trivial,y6.mk (pj [0]) ?_ rfl⟩;rw[f8];rfl
  intro _ _ _;exact⟨[],⟨rfl,rfl⟩,pk [0]⟩
theorem AQ (h:Hp):qO h none 0 0 0:=⟨[],Sl.nil _ _ _ _ _,fX.nil,dc⟩
set_option maxRecDepth 10000 in
theorem pW {z:Int} {m:Nat} {a1 a2:Option Addr} {n1 c1 n2 c2:Nat} (w:World) (h1:qO (Hp.whole w) a1 n1 c1 z.natAbs) (h2:qO (Hp.whole w) a2 n2 c2 m) (hm:0 < m) :
  j2 Tryz.prog 70 #[cI (decide (z < 0)) a1 n1 c1 false none 0 0,cI false a2 n2 c2 false none 0 0] w (fQ w λv cs=>∃g b1 k1 e1 b2 k2 e2,cs = [.hp g]/\v=.tuple #[cI (decide (z < 0)) b1 k1 e1 false b2 k2 e2,iQ 0]/\cA g (.slice b1 k1 e1) (z.natAbs / G8 z.natAbs m)/\cA g (.slice b2 k2 e2) (m / G8 z.natAbs m)):=by
 unfold cI;refine enterZ (cx 21) [.agg #[.bool (decide (z < 0)),.slice a1 n1 c1,.bool false,zl],.agg #[.bool false,.slice a2 n2 c2,.bool false,zl]] [.cell 4 141,.tmp 5] Tryz.func70 ?_;intro b2 b3 b4;refine m9 (λ_ kz=>kz _ _ ?_);refine nQ [.hp (Hp.whole w),.box b2 [.bool (decide (z < 0)),.slice a1 n1 c1,.bool false,zl] 141,.box b3 [.bool false,.slice a2 n2 c2,.bool false,zl] 141,.box b4 [.bool false,zl,.bool false,zl] 141] λq' hq'=>?_;refine k7 _ (λw' hm2=>by
  have h:=BV (n1:=false) (a2:=none) (k2:=0) (c2:=0) w' (h2.mag.mono (hm2 0 _ rfl).whole);rw[if_neg (show m≠0 by omega),if_neg dc] at h;unfold cI at h;exact h) ?_
 apply hq';refine dU rfl ?_;refine u6.cut (Hp×Hp×Hp×Hp×Hp×(Option Addr×Nat×Nat)×(Option Addr×Nat×Nat)) (λg=>[(4,.bx 3 0),(5,.v (iQ 0))]) (λg=>[.hp (Hp.whole w),.box b2 [.bool (decide (z < 0)),.slice a1 n1 c1,.bool false,zl] 141,.box b3 [.bool false,.slice a2 n2 c2,.bool false,zl] 141,.box b4 [.bool (decide (z < 0)),.slice g.2.2.2.2.2.1.1 g.2.2.2.2.2.1.2.1 g.2.2.2.2.2.1.2.2,.bool false,.slice g.2.2.2.2.2.2.1 g.2.2.2.2.2.2.2.1 g.2.2.2.2.2.2.2.2] 141,.hp g.1,.hp g.2.1,.hp g.2.2.1,.hp g.2.2.2.1,.hp g.2.2.2.2.1])
  (λg=>∀W,g.2.1.le W->g.2.2.2.1.le W->g.2.2.2.2.1.le W->cA W (.slice g.2.2.2.2.2.1.1 g.2.2.2.2.2.1.2.1 g.2.2.2.2.2.1.2.2) (z.natAbs / G8 z.natAbs m)/\cA W (.slice g.2.2.2.2.2.2.1 g.2.2.2.2.2.2.2.1 g.2.2.2.2.2.2.2.2) (m / G8 z.natAbs m)) (u6.by_order0 (s0:=[.hp (Hp.whole w),.box b2 [.bool (decide (z < 0)),.slice a1 n1 c1,.bool false,zl] 141,.box b3 [.bool false,.slice a2 n2 c2,.bool false,zl] 141,.hp Hp.emp]) cQ (.take 0 <| .take 1 <| .take 2 <| .take 5 <| .take 7 <| .take 8 <| .run 3 <| .run 4 <| .run 6 <| .run 9 <| .run 10 <| .run 11 <| .run 12 <| .done) kr (sK) ?_) ?_
 ·refine call (λw' hm2=>by
   have h:=vB (h0:=Hp.whole w) (n1:=false) (x:=m) (y:=0) w' (hm2 0 _ rfl) ⟨h2,AQ _,nofun⟩;unfold cI at h;exact h) ?_
  rintro _ _ ⟨g1,p1,q1,r1,rfl,rfl,hd1⟩;refine⟨sK,?_⟩;obtain⟨Lz,sz,cz,lz⟩:=h1;refine call (λw' hm2=>by
   obtain⟨Ld,sd,cd,ld⟩:=hd1 (Hp.whole w') (hm2 0 _ rfl).whole (hm2 4 _ rfl).whole;exact uX (g1:=decide (z < 0)) (g2:=false) w' (sz.mono (j7 _) (hm2 0 _ rfl).whole) sd cz cd lz ld) ?_
  rintro _ _ ⟨g2,p2,q2,r2,rfl,rfl,hd2⟩;rw[show ((!(decide (z < 0)==false)) && decide (0 < z.natAbs*jL 0))=decide (z < 0) by
   by_cases g:z < 0
   ·rw[decide_eq_true g,decide_eq_true (show 0 < z.natAbs*jL 0 by rw[show jL 0=1 from rfl];omega)];rfl
   ·rw[decide_eq_false g];rfl]
  refine⟨sK,?_⟩;refine call (λw' hm2=>by
   have h:=vB (h0:=Hp.whole w) (n1:=decide (z < 0)) (x:=z.natAbs) (y:=0) w' (hm2 0 _ rfl) ⟨⟨Lz,sz,cz,lz⟩,AQ _,λg=>by have:=of_decide_eq_true g;omega⟩;unfold cI at h;exact h) ?_
  rintro _ _ ⟨g3,p3,q3,r3,rfl,rfl,hd3⟩;refine⟨sK,?_⟩;obtain⟨Lm,sm,cm,lm⟩:=h2;refine call (λw' hm2=>by
   obtain⟨Ld,sd,cd,ld⟩:=hd3 (Hp.whole w') (hm2 0 _ rfl).whole (hm2 6 _ rfl).whole;exact uX (g1:=false) (g2:=false) w' sd (sm.mono (j7 _) (hm2 0 _ rfl).whole) cd cm ld lm) ?_
  rintro _ _ ⟨g4,p4,q4,r4,rfl,rfl,hd4⟩;refine⟨sK,?_⟩;rw[show ((!(false==false)) && decide (0 < jL 0*m))=false from rfl];have eD:jL 0=1:=rfl;rw[eD,D7] at hd2;rw[eD,O8] at hd4;refine call (λw' hm2=>FV (g1:=decide (z < 0)) w' (hm2 5 _ rfl) (hm2 7 _ rfl) hd2 hd4 hm (λg=>by have:=of_decide_eq_true g;omega)) ?_;rintro _ _ ⟨g5,b1,k1,e1,b2',k2,e2,rfl,rfl,hd5⟩;refine⟨sK,?_⟩;first
  | exact⟨sK,sK,(g1,g2,g3,g4,g5,(b1,k1,e1),(b2',k2,e2)),λW l1 l2 l3=>hd5 W l1 l2 l3,y6.mk (pj [0,1,2,3,4,5,6,7,8]) rfl rfl⟩
  | exact⟨sK,(g1,g2,g3,g4,g5,(b1,k1,e1),(b2',k2,e2)),λW l1 l2 l3=>hd5 W l1 l2 l3,y6.mk (pj [0,1,2,3,4,5,6,7,8]) rfl rfl⟩
  | exact⟨(g1,g2,g3,g4,g5,(b1,k1,e1),(b2',k2,e2)),λW l1 l2 l3=>hd5 W l1 l2 l3,y6.mk (pj [0,1,2,3,4,5,6,7,8]) rfl rfl⟩
 rintro⟨g1,g2,g3,g4,g5,⟨b1,k1,e1⟩,⟨b2',k2,e2⟩⟩ hM hsat;dsimp only at hM ⊢;have hdl:RB [.hp g2,.hp g4,.hp g5]:=by
  obtain⟨w0,w1,hok⟩:=hsat;exact (hok.pick [0,5,7,8] rfl rfl).djL
 exact⟨[.hp (joinL [.hp g2,.hp g4,.hp g5])],⟨_,b1,k1,e1,b2',k2,e2,rfl,rfl,hM _ (H0 hdl (i:=0) rfl) (H0 hdl (i:=1) rfl) (H0 hdl (i:=2) rfl)⟩,λw' h=>(h.pick [0,5,7,8] rfl rfl).joinL⟩
end Go.Proofs.YtpjhmeicbjkcdaaGreatDoor
namespace Go.Dw
open Go Go.RowKit
section
variable {P:Program} {s:List Ch} {xo yo:Operand} {ty:Nat} {q:TV->Prop}
theorem Je {z:Nat} (h:z < 9223372036854775808):IntKind.i64.wrap (z:Int)=z:=by rw[IntKind.wrap_i64];omega
theorem Kz (a b:Nat) (ha:a < 9223372036854775808) (hb:b < 9223372036854775808):bits .and .i64 (a:Int) (b:Int)=((a &&& b:Nat):Int):=by
 have hx:a &&& b < 2 ^ 63:=Nat.and_lt_two_pow _ om;have h1:(BitVec.ofInt 64 (a:Int)).toNat=a:=by
  rw[BitVec.ofInt_natCast,BitVec.toNat_ofNat];exact C7 om
 have h2:(BitVec.ofInt 64 (b:Int)).toNat=b:=by
  rw[BitVec.ofInt_natCast,BitVec.toNat_ofNat];exact C7 om
 show IntKind.i64.wrap ((BitVec.ofInt 64 (a:Int) &&& BitVec.ofInt 64 (b:Int)).toNat:Int)=_
 rw[BitVec.toNat_and,h1,h2];exact Je hx
theorem Fc (a:Nat) (ha:a < 9223372036854775808) (h:q (.v (iQ ((a % 4:Nat):Int)))):C9 P s (binOp .and ty (iQ a) (iQ 3)) q:=by
 refine⟨_,λw _=>by show Result.ok (Value.int .i64 (bits .and .i64 a ((3:Nat):Int))) w=_;rw[Kz a 3 ha dc,show a &&& 3=a % 4 from Nat.and_two_pow_sub_one_eq_mod a 2],h⟩
theorem Ey (a n:Nat) {k:IntKind} {y:Int} (hy:y=n) (hn:n < 64) (h:q (.v (iQ ((a / 2 ^ n:Nat):Int)))):C9 P s (binOp .shr ty (iQ a) (.int k y)) q:=by
 subst hy;refine⟨_,λw _=>?_,h⟩;show (Op.shift .shr .i64 a k n).run P w=_
 have h0 : ¬ (n:Int) < 0:=om
 have hm:min (n:Int).toNat IntKind.i64.bits=n:=by show min n 64=n;omega
 unfold Op.shift;rw[if_neg h0];dsimp only;rw[hm,Oc _ (by have:=cC n;simp only[Int.pow_nonneg (by decide:(0:Int)<=2)])];have e:((2:Int) ^ n)=((2 ^ n:Nat):Int):=sQ
 rw[e];rfl
theorem DN (a n:Nat) {k:IntKind} {y:Int} (hy:y=n) (hn:n < 64) (h:q (.v (iQ ((a / 2 ^ n:Nat):Int)))):C9 P s (do eqGuard .shr ty xo yo (iQ a) (.int k y);binOp .shr ty (iQ a) (.int k y)) q:=by
 obtain⟨v,h1,h2⟩:=Ey (P:=P) (s:=s) (ty:=ty) a n hy hn h;refine⟨v,λw hm=>?_,h2⟩;have h3:(eqGuard .shr ty xo yo (iQ a) (.int k y)).run P w=.ok () w:=by simp[eqGuard]
 rw[Sem.run_bind,h3,Result.andThen_ok];exact h1 w hm
end
end Go.Dw
namespace Go.Proofs.YtpjhmeicbjkcdaaGreatDoor
open Go Go.RowKit Go.Dw
theorem IW {s:List Ch} {i b T:Nat} {c:UInt8} (hi:l7 s i=some (.box b [.int .u8 c.toNat] T)) {q:TV->Prop} (h:q (.v (sv [c]))):C9 Tryz.prog s (convert 68 9 (.slice (some ⟨b,0,none⟩) 1 1)) q:=by
 refine⟨_,λw hm=>?_,h⟩;rw[run_convert_bytes_arg w 68 5 Tryz.underlying68 Tryz.underlying5 b 0 1 1 [(c.toNat:Int)] rfl (λj hj=>?_) 9 Tryz.underlying9]
 ·congr 2
  unfold strOfNums bs;congr 2
  show [UInt8.ofNat ((c.toNat:Int)).toNat] = [c]
  rw[Int.toNat_natCast,UInt8.ofNat_toNat]
 ·have:j=0:=om
  subst this;exact pU hi rfl hm
theorem Kd {a b c d:d8} {j:Nat} (hj:j < 4):[Value.string (bs a),sv b,sv c,sv d][j]?=some (sv (([a,b,c,d]:List d8).getD j [])):=by
 match j,hj with
 | 0,_=>rfl
 | 1,_=>rfl
 | 2,_=>rfl
 | 3,_=>rfl
theorem JT {a b c d:d8} {j:Nat} (ha:a.length < 10) (hb:b.length < 10) (hc:c.length < 10) (hd:d.length < 10) (hj:j < 4):(([a,b,c,d]:List d8).getD j []).length < 10:=by
 match j,hj with
 | 0,_=>exact ha
 | 1,_=>exact hb
 | 2,_=>exact hc
 | 3,_=>exact hd
theorem gJ {x y:Int} {q:Int->Prop} (h:x % 256=y) (hq:q y):bU .u8 x q:=⟨y,by rw[show IntKind.u8.wrap x=x % 256 by simp[IntKind.wrap,IntKind.bits,IntKind.signed],h],hq⟩
set_option maxRecDepth 10000 in
theorem P1 (kind:UInt8) (i how:Nat) (_hi:i < 1000) (hh:how < 256) (w:World) :
  j2 Tryz.prog 69 #[sv [kind],iQ i,iQ how] w (v8 w (sv (gP kind i how))):=by
 have h1:how % 4 < 4:=A6 _ dc;have h2:how / 4 % 4 < 4:=A6 _ dc;obtain⟨A,hA⟩ :∃A,A=([[],[65],[57],[45]]:List d8).getD (how % 4) []:=⟨_,rfl⟩
 obtain⟨B,hB⟩ :∃B,B=([[],[34],[95,49],[92]]:List d8).getD (how / 4 % 4) []:=⟨_,rfl⟩
 have lA:A.length < 10:=by rw[hA];exact JT dc dc dc dc h1
 have lB:B.length < 10:=by rw[hB];exact JT dc dc dc dc h2
 have gA:=Kd (a:=[]) (b:=[65]) (c:=[57]) (d:=[45]) h1;have gB:=Kd (a:=[]) (b:=[34]) (c:=[95,49]) (d:=[92]) h2;rw[<-hA] at gA;rw[<-hB] at gB;obtain⟨c,hc⟩ :∃c,c=UInt8.ofNat (97+i % 26):=⟨_,rfl⟩
 have hcn:(97+(i % 26:Nat):Int) % 256=(c.toNat:Int):=by
  rw[hc,UInt8.toNat_ofNat'];have:i % 26 < 26:=A6 _ dc;omega
 have eL:gP kind i how=A++[kind]++[c]++B:=by
  unfold gP;rw[<-hA,<-hB,<-hc];simp
 rw[eL];clear eL hA hB hc;refine enterZ (cx 28) [sv [kind],iQ i,iQ how] [.tmp 6] Tryz.func69 ?_;refine u6.cut Unit (λ_=>[(6,.v (sv (A++[kind]++[c]++B)))]) (λ_=>[.hp (Hp.whole w)]) (λ_=>True) (u6.by_orderU cQ (.take 1 <| .take 2 <| .take 5 <| .take 7 <| .take 8 <| .take 9 <| .take 10 <| .take 15 <| .take 16 <| .take 17 <| .three 0 (.reb <| .take 3 <| .take 4 <| .take 6 <| .two 11 (.reb <| .take 12 <| .take 13 <| .run 14 <| .reb <| .take 18 <| .take 19 <| .take 20 <| .take 21 <| .done) 14 (.reb <| .take 18 <| .take 19 <| .run 11 <| .reb <| .take 12 <| .take 13 <| .take 20 <| .take 21 <| .done)) 11 (.reb <| .take 12 <| .two 0 (.reb <| .take 3 <| .take 4 <| .take 6 <| .take 13 <| .run 14 <| .reb <| .take 18 <| .take 19 <| .take 20 <| .take 21 <| .done) 14 (.reb <| .take 18 <| .take 19 <| .run 0 <| .reb <| .take 3 <| .take 4 <| .take 6 <| .take 13 <| .take 20 <| .take 21 <| .done)) 14 (.reb <| .take 18 <| .take 19 <| .two 0 (.reb <| .take 3 <| .take 4 <| .take 6 <| .run 11 <| .reb <| .take 12 <| .take 13 <| .take 20 <| .take 21 <| .done) 11 (.reb <| .take 12 <| .run 0 <| .reb <| .take 3 <| .take 4 <| .take 6 <| .take 13 <| .take 20 <| .take 21 <| .done))) kr ?_) ?_
 ·refine Fc how om ?_;refine gF i 26 (i % 26) rfl rfl dc rfl ?_;refine gJ (y:=((i % 26:Nat):Int)) (by have:i % 26 < 26:=A6 _ dc;omega) ?_;refine gJ hcn ?_;first | refine Ey how 2 rfl dc ?_ | refine DN how 2 rfl dc ?_
  refine Fc (how / 4) om ?_;refine⟨?_,?_,?_⟩
  ·intro b0;(iterate 2 refine⟨sK,?_⟩);refine dC cQ (e:=9) rfl rfl (how % 4) (how % 4) rfl h1 om ?_;refine xU cQ (i:=1) rfl gA rfl ?_;refine gG (ty:=9) (a:=A) (b:=[kind]) (by simp only[d7,i6];omega) ?_;refine⟨?_,?_⟩;focus
    intro b11;(iterate 2 refine⟨sK,?_⟩);refine IW (i:=2) rfl ?_;refine gG (ty:=9) (a:=A++[kind]) (b:=[c]) (by simp only[d6,d7,i6];omega) ?_;intro b14;(iterate 2 refine⟨sK,?_⟩);refine dC cQ (e:=9) rfl rfl (how / 4 % 4) (how / 4 % 4) rfl h2 om ?_;refine xU cQ (i:=3) rfl gB rfl ?_
   rotate_left
   focus
    intro b14;(iterate 2 refine⟨sK,?_⟩);refine dC cQ (e:=9) rfl rfl (how / 4 % 4) (how / 4 % 4) rfl h2 om ?_;refine xU cQ (i:=2) rfl gB rfl ?_;intro b11;(iterate 2 refine⟨sK,?_⟩);refine IW (i:=3) rfl ?_;refine gG (ty:=9) (a:=A++[kind]) (b:=[c]) (by simp only[d6,d7,i6];omega) ?_
   all_goals
    refine gG (ty:=9) (a:=A++[kind]++[c]) (b:=B) (by simp only[d6,d7,i6];omega) ?_;exact⟨(),trivial,y6.mk (pj [0]) rfl rfl⟩
  ·intro b11;(iterate 2 refine⟨sK,?_⟩);refine IW (i:=1) rfl ?_;refine⟨?_,?_⟩;focus
    intro b0;(iterate 2 refine⟨sK,?_⟩);refine dC cQ (e:=9) rfl rfl (how % 4) (how % 4) rfl h1 om ?_;refine xU cQ (i:=2) rfl gA rfl ?_;refine gG (ty:=9) (a:=A) (b:=[kind]) (by simp only[d7,i6];omega) ?_;refine gG (ty:=9) (a:=A++[kind]) (b:=[c]) (by simp only[d6,d7,i6];omega) ?_;intro b14;(iterate 2 refine⟨sK,?_⟩);refine dC cQ (e:=9) rfl rfl (how / 4 % 4) (how / 4 % 4) rfl h2 om ?_;refine xU cQ (i:=3) rfl gB rfl ?_
   rotate_left
   focus
    intro b14;(iterate 2 refine⟨sK,?_⟩);refine dC cQ (e:=9) rfl rfl (how / 4 % 4) (how / 4 % 4) rfl h2 om ?_;refine xU cQ (i:=2) rfl gB rfl ?_;intro b0;(iterate 2 refine⟨sK,?_⟩);refine dC cQ (e:=9) rfl rfl (how % 4) (how % 4) rfl h1 om ?_;refine xU cQ (i:=3) rfl gA rfl ?_;refine gG (ty:=9) (a:=A) (b:=[kind]) (by simp only[d7,i6];omega) ?_;refine gG (ty:=9) (a:=A++[kind]) (b:=[c]) (by simp only[d6,d7,i6];omega) ?_
   all_goals
    refine gG (ty:=9) (a:=A++[kind]++[c]) (b:=B) (by simp only[d6,d7,i6];omega) ?_;exact⟨(),trivial,y6.mk (pj [0]) rfl rfl⟩
  ·intro b14;(iterate 2 refine⟨sK,?_⟩);refine dC cQ (e:=9) rfl rfl (how / 4 % 4) (how / 4 % 4) rfl h2 om ?_;refine xU cQ (i:=1) rfl gB rfl ?_;refine⟨?_,?_⟩;focus
    intro b0;(iterate 2 refine⟨sK,?_⟩);refine dC cQ (e:=9) rfl rfl (how % 4) (how % 4) rfl h1 om ?_;refine xU cQ (i:=2) rfl gA rfl ?_;refine gG (ty:=9) (a:=A) (b:=[kind]) (by simp only[d7,i6];omega) ?_;intro b11;(iterate 2 refine⟨sK,?_⟩);refine IW (i:=3) rfl ?_
   rotate_left
   focus
    intro b11;(iterate 2 refine⟨sK,?_⟩);refine IW (i:=2) rfl ?_;intro b0;(iterate 2 refine⟨sK,?_⟩);refine dC cQ (e:=9) rfl rfl (how % 4) (how % 4) rfl h1 om ?_;refine xU cQ (i:=3) rfl gA rfl ?_;refine gG (ty:=9) (a:=A) (b:=[kind]) (by simp only[d7,i6];omega) ?_
   all_goals
    refine gG (ty:=9) (a:=A++[kind]) (b:=[c]) (by simp only[d6,d7,i6];omega) ?_;refine gG (ty:=9) (a:=A++[kind]++[c]) (b:=B) (by simp only[d6,d7,i6];omega) ?_;exact⟨(),trivial,y6.mk (pj [0]) rfl rfl⟩
 intro _ _ _;exact⟨[],⟨rfl,rfl⟩,pk [0]⟩
end Go.Proofs.YtpjhmeicbjkcdaaGreatDoor
namespace Go.Proofs.YtpjhmeicbjkcdaaGreatDoor
open Go Go.RowKit Go.Dw
def Jb (l:Q4):List Value:=[.int .i8 l.1,.int .i8 l.2.1,.int .i8 l.2.2.1,.int .i8 l.2.2.2]
theorem Bf {l:Q4} {i:Nat} (hi:i < 4):(Jb l)[i]?=some (.int .i8 (q4 l i)):=by
 match i,hi with
 | 0,_=>rfl
 | 1,_=>rfl
 | 2,_=>rfl
 | 3,_=>rfl
theorem XS {a:Int} {b:Nat} (hb:0 < b) {G:Nat} (hG:G=G8 a.natAbs b):(if b / G=0\/b / G=1 then zT (a / (G:Int)) else zT (a / (G:Int))++47::Lib.decDigits (b / G))=M8 a b:=by
 have h1:0 < G8 a.natAbs b:=iD _ hb;have h2:0 < b / G8 a.natAbs b:=Nat.div_pos (UV hb (Nat.gcd_dvd_right _ _)) h1;unfold M8;rw[<-hG] at h2 ⊢;by_cases h:b / G=1
 ·rw[if_pos (.inr h),if_pos h]
 ·rw[if_neg (λc=>c.elim (λe=>by omega) h),if_neg h]
theorem iP {z:Int} {m:Nat} {b1 b2:Option Addr} {k1 e1 k2 e2:Nat} (w:World) (hm:0 < m) (h1:cA (Hp.whole w) (.slice b1 k1 e1) (z.natAbs / G8 z.natAbs m)) (h2:cA (Hp.whole w) (.slice b2 k2 e2) (m / G8 z.natAbs m)) (hz:z.natAbs < 100000000000000000000) (hm2:m < 100000000000000000000) (hP:dY (Hp.whole w)) :
  j2 Tryz.prog 72 #[cI (decide (z < 0)) b1 k1 e1 false b2 k2 e2] w (v8 w (sv (M8 z m))):=by
 obtain⟨G,hG⟩ :∃G,G=G8 z.natAbs m:=⟨_,rfl⟩
 rw[<-hG] at h1 h2;have g0:0 < G:=by rw[hG];exact iD _ hm
 have hd:=Hx (a:=z) g0 (by rw[hG];exact CX _ _);have h:=uU (z:=z / (G:Int)) (m:=m / G) w (by rw[hd.1];exact h1) h2 (by rw[hd.1];exact p8 (D0 _ _) hz) (p8 (D0 _ _) hm2) hP;rw[XS hm hG,show decide (z / (G:Int) < 0)=decide (z < 0) from decide_eq_decide.2 hd.2] at h;exact h
theorem uF {z:Int} {a:Option Addr} {n c:Nat} (w:World) (h1:qO (Hp.whole w) a n c z.natAbs) (hz:z.natAbs < 100000000000000000000) (hP:dY (Hp.whole w)) :
  j2 Tryz.prog 72 #[cI (decide (z < 0)) a n c false none 0 0] w (v8 w (sv (zT z))):=by
 have h:=uU (z:=z) (m:=0) w h1.mag (AQ _).mag hz dc hP;rw[if_pos (.inl rfl)] at h;exact h
set_option maxRecDepth 10000 in
theorem nW (n:Nat) (l:Q4) (hn:n < 1000000) (hl:l.1.natAbs < 1000/\l.2.1.natAbs < 1000/\l.2.2.1.natAbs < 1000/\l.2.2.2.natAbs < 1000) (w:World) (hP:dY (Hp.whole w)) :
  j2 Tryz.prog 73 #[iQ n,.agg (Jb l).toArray] w (fQ w λv cs=>∃o,cs = [.hp o.h]/\v=.agg #[sv (Z5 n l).1,o.v]/\w5 bO 80 2 o (Z5 n l).2):=by
 have hq:=Fd hl;refine enterZ (cx 53) [iQ n,.agg #[.int .i8 l.1,.int .i8 l.2.1,.int .i8 l.2.2.1,.int .i8 l.2.2.2]] [.cell 4 41] Tryz.func73 ?_;intro b3 b4;refine m9 (λ_ kz=>kz _ _ ?_);refine nQ [.hp (Hp.whole w),.box b3 [.int .i8 l.1,.int .i8 l.2.1,.int .i8 l.2.2.1,.int .i8 l.2.2.2] 148,.box b4 [zs,zl] 41] λq' hq'=>?_;have b1:l.1.natAbs < 1000:=hl.1;have b2:l.2.1.natAbs < 1000:=hl.2.1;(iterate 3 refine nwo ?_);refine call (λw' hm=>S5 (l.1 - l.2.1) om om w') ?_;rintro _ _ ⟨g0,a0,n0,c0,rfl,rfl,h0⟩;refine k7 _ (λw' hm=>uF w' (h0.mono (hm 3 _ rfl).whole) om (hP.mono (hm 0 _ rfl).whole)) ?_;intro b5;apply hq';have eL:Z5 n l=(zT (l.1 - l.2.1),((x8 (min n 4)).filter λi=>decide (q4 l i≠0)).map λi:Nat=>((i:Int),M8 (q4 l i) (1+i))):=rfl;rw[eL];dsimp only;obtain⟨N,hN⟩ :∃N,N=zT (l.1 - l.2.1):=⟨_,rfl⟩
 rw[<-hN];refine m9 (λ_ kz=>kz _ _ ?_);refine z6.mkS (Nat×Dw.Os) (λg=>[(0,.v (iQ n)),(3,.v (pQ b3)),(4,.bx 2 0),(5,.bx 3 0),(6,.v (iQ g.1))]) (λg=>[.hp (Hp.whole w),.box b3 [.int .i8 l.1,.int .i8 l.2.1,.int .i8 l.2.2.1,.int .i8 l.2.2.2] 148,.box b4 [zs,zl] 41,.box b5 [sv N,g.2.v] 41,.hp g.2.h])
  (λg=>g.1<=min n 4/\w5 bO 80 2 g.2 (((x8 g.1).filter λi=>decide (q4 l i≠0)).map λi:Nat=>((i:Int),M8 (q4 l i) (1+i)))) (λg=>4 - g.1) (0,Dw.Os.nil) ⟨j0 _,w5.nil _ _ _⟩ (y6.mk (λ_ _ h=>(h.pick [0,1,2,4] rfl rfl).emp) rfl rfl) ?_
 rintro⟨i,o⟩ ⟨hi,hO⟩ _;dsimp only at hi hO ⊢;refine m9 λq' hq'=>?_;refine d9 (λs1=>?_) λs1=>?_;focus
  apply hq';refine K9 (by rfl) (λs2=>?_) λs2=>?_
  ·have s2:=of_decide_eq_true s2;have hi4:i < 4:=om
   obtain⟨z,hz⟩ :∃z,z=q4 l i:=⟨_,rfl⟩
   have hzb:z.natAbs < 1000:=by rw[hz];exact hq i
   have hcell:[Value.int .i8 l.1,.int .i8 l.2.1,.int .i8 l.2.2.1,.int .i8 l.2.2.2][i]?=some (.int .i8 z):=by rw[hz];exact Bf (l:=l) hi4
   refine nQ [.hp (Hp.whole w),.box b3 [.int .i8 l.1,.int .i8 l.2.1,.int .i8 l.2.2.1,.int .i8 l.2.2.2] 148,.box b4 [zs,zl] 41,.box b5 [sv N,o.v] 41,.hp o.h] λq' hq'=>?_;refine ED cQ (T:=148) (e:=133) (len:=4) rfl rfl rfl rfl i rfl hi4 ?_;refine xU cQ (i:=1) (j:=0+i) rfl (by rw[w7];exact hcell) rfl ?_;refine nwo ?_;refine call (λw' hm=>S5 z om om w') ?_;rintro _ _ ⟨g1,a1,n1,c1,rfl,rfl,h1⟩;refine nwo ?_;refine call (λw' hm=>S5 (1+(i:Int)) om om w') ?_;rintro _ _ ⟨g2,a2,n2,c2,rfl,rfl,h2⟩;rw[show decide (1+(i:Int) < 0)=false from decide_eq_false om];rw[show (1+(i:Int)).natAbs=1+i by omega] at h2;refine call (λw' hm=>pW w' (h1.mono (hm 5 _ rfl).whole) (h2.mono (hm 6 _ rfl).whole) om) ?_;rintro _ _ ⟨g3,p1,q1,r1,p2,q2,r2,rfl,rfl,d1,d2⟩;intro b7;apply hq';refine nQ [.hp (Hp.whole w),.box b3 [.int .i8 l.1,.int .i8 l.2.1,.int .i8 l.2.2.1,.int .i8 l.2.2.2] 148,.box b4 [zs,zl] 41,.box b5 [sv N,o.v] 41,.hp o.h,.hp g1,.hp g2,.hp g3,.box b7 [.bool (decide (z < 0)),.slice p1 q1 r1,.bool false,.slice p2 q2 r2] 141] λq' hq'=>?_;refine k7 _ (λw' hm=>BV w' (d1.mono (hm 7 _ rfl).whole)) ?_;apply hq';have hs:((if z.natAbs / G8 z.natAbs (1+i)=0 then 0 else if decide (z < 0)=true then -1 else 1:Int)≠0)↔z≠0:=by
    have g0:0 < G8 z.natAbs (1+i):=iD _ om;by_cases e:z=0
    ·rw[e];simp
    ·have:0 < z.natAbs / G8 z.natAbs (1+i):=Nat.div_pos (UV om (CX _ _)) g0;rw[if_neg om];refine⟨λ_=>e,λ_=>?_⟩;split <;> decide
   have hLn:(((x8 i).filter λi=>decide (q4 l i≠0)).map λi:Nat=>((i:Int),M8 (q4 l i) (1+i))).length<=4:=by
    rw[j6];have:=List.length_filter_le (λi=>decide (q4 l i≠0)) (x8 i);rw[K7] at this;omega
   refine K9 (by rfl) (λs3=>?_) λs3=>?_
   ·have hz0:z≠0:=hs.1 (of_decide_eq_true s3);have eN:((x8 (i+1)).filter λi=>decide (q4 l i≠0)).map (λi:Nat=>((i:Int),M8 (q4 l i) (1+i)))=(((x8 i).filter λi=>decide (q4 l i≠0)).map λi:Nat=>((i:Int),M8 (q4 l i) (1+i)))++[((i:Int),M8 z (1+i))]:=by
     rw[List.range_succ,List.filter_append,E1];congr 1
     have:decide (q4 l i≠0)=true:=by rw[<-hz];exact decide_eq_true hz0
     rw[List.filter_cons,if_pos this,hz];rfl
    obtain⟨M,hM⟩ :∃M,M=(((x8 i).filter λi=>decide (q4 l i≠0)).map λi:Nat=>((i:Int),M8 (q4 l i) (1+i))):=⟨_,rfl⟩
    rw[<-hM] at hO hLn eN;obtain⟨Y,hY⟩ :∃Y,Y=M8 z (1+i):=⟨_,rfl⟩
    rw[<-hY] at eN;refine u6.cut Dw.Os (λ_=>[(0,.v (iQ n)),(3,.v (pQ b3)),(4,.bx 2 0),(5,.bx 3 0),(6,.v (iQ i))]) (λg=>[.hp (Hp.whole w),.box b3 [.int .i8 l.1,.int .i8 l.2.1,.int .i8 l.2.2.1,.int .i8 l.2.2.2] 148,.box b4 [zs,zl] 41,.box b5 [sv N,g.v] 41,.hp g.h]) (λg=>w5 bO 80 2 g (M++[((i:Int),Y)])) (u6.by_order0 (s0:=[.hp (Hp.whole w),.box b3 [.int .i8 l.1,.int .i8 l.2.1,.int .i8 l.2.2.1,.int .i8 l.2.2.2] 148,.box b4 [zs,zl] 41,.box b5 [sv N,o.v] 41,.hp Hp.emp,.hp g1,.hp g2,.hp g3,.box b7 [.bool (decide (z < 0)),.slice p1 q1 r1,.bool false,.slice p2 q2 r2] 141]) cQ (.take 0 <| .take 1 <| .take 2 <| .take 3 <| .run 4 <| .take 5 <| .run 6 <| .run 7 <| .run 8 <| .run 9 <| .done) kr (sK) ?_) ?_
    ·refine k7 _ (λw' hm=>iP (z:=z) (m:=1+i) w' om (d1.mono (hm 7 _ rfl).whole) (d2.mono (hm 7 _ rfl).whole) om om (hP.mono (hm 0 _ rfl).whole)) ?_;rw[<-hY];refine⟨sK,?_⟩;intro b9;refine⟨sK,?_⟩;refine gZ (f:=bO) cQ (e:=80) rfl (i:=4) rfl hO ((i:Int),Y) (j:=9) rfl rfl rfl rfl om λo2 hO2=>?_;refine⟨sK,?_⟩;exact⟨o2,hO2,y6.mk (pj [0,1,2,3,4]) rfl rfl⟩
    intro o2 hO2 _;dsimp only;refine m9 λq' hq'=>?_;refine nwo ?_;apply hq';exact⟨(i+1,o2),⟨by dsimp only;omega,by dsimp only;rw[eN];exact hO2⟩,by dsimp only;omega,y6.mk (λ_ _ h=>h) rfl rfl⟩
   ·have hz0:z=0:=j3 λc=>absurd (hs.2 c) (of_decide_eq_false s3);have eN:((x8 (i+1)).filter λi=>decide (q4 l i≠0))=((x8 i).filter λi=>decide (q4 l i≠0)):=by
     rw[List.range_succ,List.filter_append];have:decide (q4 l i≠0)=false:=by rw[<-hz];exact decide_eq_false (λc=>c hz0)
     rw[List.filter_cons,if_neg (by rw[this];decide)];exact k8 _
    refine m9 λq' hq'=>?_;refine nwo ?_;apply hq';exact⟨(i+1,o),⟨by dsimp only;omega,by dsimp only;rw[eN];exact hO⟩,by dsimp only;omega,y6.mk (pj [0,1,2,3,4]) rfl rfl⟩
  focus
   have s2:=of_decide_eq_false s2
 rotate_left
 focus
  apply hq';refine dU rfl ?_
 all_goals
  have hi4:i=min n 4:=om
  rw[<-hi4];refine m9 λq' hq'=>?_;apply hq';exact⟨[.hp o.h],⟨o,rfl,rfl,hO⟩,pk [0,4]⟩
end Go.Proofs.YtpjhmeicbjkcdaaGreatDoor
namespace Go.Dw
open Go Go.RowKit
theorem Ka {x:Int} {q:Int->Prop} (h1 : -128<=x) (h2:x < 128) (hq:q x):bU .i8 x q:=⟨x,by
 have:IntKind.i8.wrap x=x:=by simp[IntKind.wrap,IntKind.bits,IntKind.signed];omega
 rw[this],hq⟩
theorem Gr {P:Program} {s:List Ch} {ty:Nat} {q:TV->Prop} (a b d:Nat) {x y:Int} (hx:x=a) (hy:y=b) (hb:0 < b) (ha:a < 256) (hd:d=a / b) (h:q (.v (.int .u8 d))):C9 P s (binOp .quo ty (.int .u8 x) (.int .u8 y)) q:=by
 subst hx hy;refine⟨_,λw _=>?_,h⟩;have h0 : ¬ b=0:=om
 have hd':d < 256:=by rw[hd];exact p8 (D0 a b) ha
 have e:IntKind.u8.wrap ((a:Int) / b)=d:=by
  rw[<-Iv,<-hd];simp[IntKind.wrap,IntKind.bits,IntKind.signed];omega
 simp[binOp,Op.intDiv,h0];exact e
theorem AF {P:Program} {s:List Ch} {tys:Array TypeId} {ty:Nat} {x y:Int} {q:TV->List Ch->Prop} (h:q (.v (iQ (min x y))) s):G7 P s (Builtin.min_ tys ty #[iQ x,iQ y]) q:=by
 refine⟨λw0 w hok=>⟨_,_,w,s,?_,hok,I5.refl s,rfl,h⟩⟩;simp[Builtin.min_,Builtin.min2,Int.min_def];split <;> split <;> (try rfl) <;> (congr 1;omega)
end Go.Dw
namespace Go.Proofs.YtpjhmeicbjkcdaaGreatDoor
open Go Go.RowKit Go.Dw
theorem Kc {X:Q2} {s:List Ch} {q:TV->Prop} (hX:X.Good) {T:Nat} {i b T':Nat} {cs:List Value} (hi:l7 s i=some (.box b cs T'))
  (hT:(G9 X.tt T).map (λt=>(t.agg,t.size))=some (true,cs.length)) (hq:q (.v (.agg cs.toArray))):C9 X.P s (Instr.loadAt T (pQ b)) q:=by
 refine⟨_,λw hm=>?_,hq⟩;cases ht:G9 X.tt T with
 | none=>simp[ht] at hT
 | some ti=>
  have ha:ti.agg=true/\ti.size=cs.length:=by simpa [ht] using hT
  have:=run_loadCells_list (P:=X.P) w ⟨b,0,none⟩ cs (λj v hj=>by rw[Addr.add_mk,w7];exact (hm i _ hi).whole.cell (I0 b T' hj));simp[Instr.loadAt,Instr.sureAddr,loadVar,(Good.und hX ht).agg,(Good.und hX ht).size,ha,this]
def QI (x:Nat):List Value:=[.int .u8 x]
def Nw (d:Nat):Prop:=∀(n:Nat) (L:List Nat) (a:Option Addr) (m c:Nat) (level:Int) (h0:Hp) (w:World),h0.In w->n < 1000000->level=4 - d->(∀x∈L,x < 256)->Sl (E0 QI) 1 h0 a m c L->dY (Hp.whole w)->
 j2 Tryz.prog 74 #[iQ n,.slice a m c,iQ level] w (fQ w λv cs=>∃H xs a' m' c',cs = [.hp H]/\v=.tuple #[.agg xs.toArray,.slice a' m' c']/\xs.length=5/\bE (d+1) H (R5 n d L).1 xs/\Sl (E0 QI) 1 h0 a' m' c' (R5 n d L).2)
def kQ (L:List Nat) (i:Nat):List Value:=(x8 4).map λj=>.int .i8 (if j < i then kF L j else 0)
theorem XE (L:List Nat) (i:Nat):(kQ L i).length=4:=rfl
theorem Kh {L:List Nat} {i:Nat} (h:i < L.length):kF L i=((L[i] % 7:Nat):Int) - 3:=by
 unfold kF;rw[if_pos h,e8,i7 h];rfl
theorem XD {L:List Nat} {i:Nat} (hi:i < 4) (h:i < L.length):(kQ L i).set i (.int .i8 (((L[i] % 7:Nat):Int) - 3))=kQ L (i+1):=by
 rw[<-Kh h];match i,hi with
 | 0,_=>rfl
 | 1,_=>rfl
 | 2,_=>rfl
 | 3,_=>rfl
theorem Hr {L:List Nat} {i:Nat} (h:L.length<=i):kF L i=0:=by unfold kF;rw[if_neg om]
theorem XF {L:List Nat} {i:Nat} (h:i=min L.length 4):kQ L i=Jb (kF L 0,kF L 1,kF L 2,kF L 3):=by
 have key :∀j,j < 4->(if j < i then kF L j else 0)=kF L j:=by
  intro j hj;by_cases g:j < i
  ·rw[if_pos g]
  ·rw[if_neg g,Hr om]
 show [Value.int .i8 (if 0 < i then kF L 0 else 0),.int .i8 (if 1 < i then kF L 1 else 0),.int .i8 (if 2 < i then kF L 2 else 0),.int .i8 (if 3 < i then kF L 3 else 0)]=_
 rw[key 0 dc,key 1 dc,key 2 dc,key 3 dc];rfl
theorem PW (L:List Nat):(kF L 0).natAbs < 1000/\(kF L 1).natAbs < 1000/\(kF L 2).natAbs < 1000/\(kF L 3).natAbs < 1000:=⟨mC L 0,mC L 1,mC L 2,mC L 3⟩
theorem tS (n:Nat) {d:Nat} {L:List Nat} (h:L = []\/d=0\/L.getD 0 0 % 6=0):R5 n d L=(.mk 0 (Z5 n (kF L 0,kF L 1,kF L 2,kF L 3)) [] [],L.drop 1):=by
 cases d with
 | zero=>rfl
 | succ d=>
  unfold R5;rw[if_pos (by rcases h with h | h | h;exact .inl h;cases h;exact .inr h)]
def cJ (n d:Nat) (L:List Nat):Nat->List Ex×List Nat
 | 0=>([],L)
 | i+1=>((cJ n d L i).1++[(R5 n d (cJ n d L i).2).1],(R5 n d (cJ n d L i).2).2)
theorem tU (n d:Nat) (L:List Nat) :∀i,(cJ n d L i).1.length=i
 | 0=>rfl
 | i+1=>by show ((cJ n d L i).1++[_]).length=_;rw[d6,tU n d L i];rfl
theorem tV (n:Nat) :∀(d:Nat) (L:List Nat) (x:Nat),x∈(R5 n d L).2->x∈L
 | 0,L,x,h=>A8 h
 | d+1,L,x,h=>by
  unfold R5 at h;split at h
  ·exact A8 h
  ·dsimp only at h;split at h
   ·exact A8 (tV n d _ x h)
   ·exact A8 (tV n d _ x (tV n d _ x h))
theorem tT (n d:Nat) (L:List Nat) :∀i x,x∈(cJ n d L i).2->x∈L
 | 0,_,h=>h
 | i+1,x,h=>tT n d L i x (tV n d _ x h)
theorem JF (n d:Nat) {L:List Nat} (h:L≠[]) (h6:L.getD 0 0 % 6≠0) :
  R5 n (d+1) L=(.mk ((L.getD 0 0 % 6:Nat):Int) ([],[]) (if L.getD 0 0 % 6=2 then zT ((L.getD 0 0:Int) - 100) else []) (cJ n d (L.drop 1) (if L.getD 0 0 % 6=2\/L.getD 0 0 % 6=5 then 1 else 1+L.getD 0 0 / 6 % 2)).1,
   (cJ n d (L.drop 1) (if L.getD 0 0 % 6=2\/L.getD 0 0 % 6=5 then 1 else 1+L.getD 0 0 / 6 % 2)).2):=by
 conv=>lhs;unfold R5
 rw[if_neg (λc=>c.elim h h6)];dsimp only;by_cases h2:L.getD 0 0 % 6=2\/L.getD 0 0 % 6=5
 ·rw[if_pos h2,if_pos (by rcases h2 with h | h;exact .inl h;exact .inr (.inl h))];rfl
 ·rw[if_neg h2];have e2 : ¬ L.getD 0 0 % 6=2:=λc=>h2 (.inl c);by_cases h3:L.getD 0 0 / 6 % 2=0
  ·rw[if_pos (.inr (.inr h3)),h3,if_neg e2];rfl
  ·have h4:L.getD 0 0 / 6 % 2=1:=om
   rw[if_neg (λc=>by rcases c with c | c | c;exact h2 (.inl c);exact h2 (.inr c);exact h3 c),h4,if_neg e2];rfl
set_option maxRecDepth 10000 in
theorem mA (d:Nat) (hd3:d<=3) (ih :∀d',d=d'+1->Nw d'):Nw d:=by
 intro n L a m c level h0 w hin hn hlv hL hS hP;have hlen:=hS.len;have hSw:Sl (E0 QI) 1 (Hp.whole w) a m c L:=hS.mono (j7 _) hin.whole;refine enterZ (cx 106) [iQ n,.slice a m c,iQ level] [.cell 6 44,.tmp 7] Tryz.func74 ?_;intro b6;refine m9 (λ_ kz=>kz _ _ ?_);refine m9 λq' hq'=>?_;refine d9 (λs1=>?_) λs1=>?_
 ·apply hq';refine TS rfl ?_;have hO:R5 n d L=(.mk 0 (Z5 n (kF L 0,kF L 1,kF L 2,kF L 3)) [] [],L.drop 1):=tS n (.inl (F7.1 om));rw[hO];dsimp only;refine m9 λ_ kz=>?_;intro b8;refine kz _ _ ?_;refine m9 (λ_ kz=>kz _ _ ?_);refine z6.mkS Nat (λg=>[(0,.v (iQ n)),(1,.v (.slice a m c)),(6,.bx 1 0),(8,.v (pQ b8)),(9,.v (iQ g))]) (λg=>[.hp (Hp.whole w),.box b6 [iQ 0,zs,zl,zs,zl] 44,.box b8 (kQ L g) 148]) (λg=>g<=min L.length 4) (λg=>4 - g) 0 (j0 _) (y6.mk (λ_ _ h=>h) rfl rfl) ?_;rintro i hi _;refine m9 λq' hq'=>?_;refine d9 (λt1=>?_) λt1=>?_;focus
   apply hq';refine K9 (by rfl) (λt2=>?_) λt2=>?_
   ·have t2:=of_decide_eq_true t2;have hi4:i < 4:=om
    have hiL:i < L.length:=om
    have hx:=hL L[i] (j5 hiL);refine nQ [.hp (Hp.whole w),.box b6 [iQ 0,zs,zl,zs,zl] 44,.box b8 (kQ L i) 148] λq' hq'=>?_;refine R2 cQ (e:=5) rfl hSw i rfl hiL λb9 o9 cs hcs hR hcell=>?_;subst hR;refine lQ 0 (hcell 0 _ rfl) ?_;refine gF L[i] 7 (L[i] % 7) rfl rfl dc rfl ?_;have hr7:L[i] % 7 < 7:=A6 _ dc;(iterate 2 refine Ka om om ?_);refine ED cQ (T:=148) (e:=133) (len:=4) rfl rfl rfl rfl i rfl hi4 ?_;refine iW cQ (i:=2) (j:=0+i) rfl rfl rfl (by rw[XE];omega) rfl rfl ?_;apply hq';refine cD [.hp (Hp.whole w),.box b6 [iQ 0,zs,zl,zs,zl] 44,.box b8 (kQ L (i+1)) 148] (by rw[<-XD hi4 hiL,w7];rfl) ?_;refine m9 λq' hq'=>?_;refine nwo ?_;apply hq';exact⟨i+1,om,om,y6.mk (λ_ _ h=>h) rfl rfl⟩
   focus
    have t2:=of_decide_eq_false t2;have hiL:i=L.length:=om
  rotate_left
  focus
   apply hq';refine dU rfl ?_;have hiL:i=min L.length 4:=om
  all_goals
   have eK:kQ L i = [.int .i8 (kF L 0),.int .i8 (kF L 1),.int .i8 (kF L 2),.int .i8 (kF L 3)]:=XF om;rw[eK];have hb:=PW L;refine u6.cut (Dw.Os×Option Addr) (λg=>[(6,.bx 1 0),(7,.v (.slice g.2 (m - min 1 L.length) (c - min 1 L.length)))]) (λg=>[.hp (Hp.whole w),.box b6 [iQ 0,sv (Z5 n (kF L 0,kF L 1,kF L 2,kF L 3)).1,g.1.v,zs,zl] 44,.hp g.1.h]) (λg=>w5 bO 80 2 g.1 (Z5 n (kF L 0,kF L 1,kF L 2,kF L 3)).2/\Sl (E0 QI) 1 h0 g.2 (m - min 1 L.length) (c - min 1 L.length) (L.drop 1)) (u6.by_order0 (s0:=[.hp (Hp.whole w),.hp Hp.emp,.box b8 [.int .i8 (kF L 0),.int .i8 (kF L 1),.int .i8 (kF L 2),.int .i8 (kF L 3)] 148]) cQ (.take 0 <| .take 1 <| .take 4 <| .take 5 <| .take 6 <| .two 2 (.take 3 <| .two 7 (.take 8 <| .run 9 <| .run 10 <| .done) 9 (.run 7 <| .run 8 <| .run 10 <| .done)) 7 (.take 8 <| .run 2 <| .take 3 <| .run 9 <| .run 10 <| .done)) kr (sK) ?_) ?_
   ·have hdr:(L.take m).drop (min 1 L.length)=L.drop 1:=by
     rw[o6 om];rcases u9 L.length with e | e
     ·rw[F7.1 e];rfl
     ·rw[T6 e]
    have hLin:=λ(w':World) (hm:(Hp.whole w).In w')=>nW n (kF L 0,kF L 1,kF L 2,kF L 3) hn hb w' (hP.mono hm.whole);refine Kc cQ (i:=2) rfl rfl ?_;constructor
    ·refine call (λw' hm=>hLin w' (hm 0 _ rfl)) ?_;rintro _ _ ⟨o,rfl,rfl,hO2⟩;refine⟨sK,?_⟩;constructor
     focus
      refine AF ?_;refine⟨sK,?_⟩
     rotate_left
     focus
      refine⟨sK,?_⟩;refine AF ?_;first | refine⟨sK,?_⟩ | skip
     all_goals
      refine An cQ (T:=68) rfl hS (min 1 L.length) m (.inr ⟨_,_,rfl,om⟩) (.inl ⟨rfl,rfl⟩) om (j8 _) λa' hS2=>?_;rw[hdr] at hS2;first
      | exact⟨(o,a'),⟨hO2,hS2⟩,y6.mk (pj [0,1,3]) rfl rfl⟩
      | exact⟨sK,(o,a'),⟨hO2,hS2⟩,y6.mk (pj [0,1,3]) rfl rfl⟩
      | exact⟨sK,sK,(o,a'),⟨hO2,hS2⟩,y6.mk (pj [0,1,3]) rfl rfl⟩
      | exact⟨sK,sK,sK,(o,a'),⟨hO2,hS2⟩,y6.mk (pj [0,1,3]) rfl rfl⟩
    ·refine AF ?_;refine⟨sK,?_⟩;refine An cQ (T:=68) rfl hS (min 1 L.length) m (.inr ⟨_,_,rfl,om⟩) (.inl ⟨rfl,rfl⟩) om (j8 _) λa' hS2=>?_;rw[hdr] at hS2;refine call (λw' hm=>hLin w' (hm 0 _ rfl)) ?_;rintro _ _ ⟨o,rfl,rfl,hO2⟩;refine⟨sK,?_⟩;first
     | exact⟨(o,a'),⟨hO2,hS2⟩,y6.mk (pj [0,1,3]) rfl rfl⟩
     | exact⟨sK,(o,a'),⟨hO2,hS2⟩,y6.mk (pj [0,1,3]) rfl rfl⟩
     | exact⟨sK,sK,(o,a'),⟨hO2,hS2⟩,y6.mk (pj [0,1,3]) rfl rfl⟩
     | exact⟨sK,sK,sK,(o,a'),⟨hO2,hS2⟩,y6.mk (pj [0,1,3]) rfl rfl⟩
   rintro⟨o,a'⟩ ⟨hO2,hS2⟩ _;dsimp only at hO2 hS2 ⊢;exact⟨[.hp o.h],⟨o.h,_,_,_,_,rfl,rfl,rfl,⟨o.a,o.n,o.c,none,0,0,rfl,w5.sl (f:=bO) (sz:=2) (λ_=>rfl) dc hO2,Sl.nil _ _ _ _ _⟩,hS2⟩,pk [0,2]⟩
 ·refine d9 (λs2=>?_) λs2=>?_;focus
   apply hq';refine TS rfl ?_;have hO:R5 n d L=(.mk 0 (Z5 n (kF L 0,kF L 1,kF L 2,kF L 3)) [] [],L.drop 1):=tS n (.inr (.inl om))
  rotate_left
  focus
   have h0L:0 < L.length:=om
   have hLne:L≠[]:=λe=>by rw[e] at h0L;cases h0L
   obtain⟨x0,hx0⟩ :∃x,x=L[0]:=⟨_,rfl⟩
   have hx:x0 < 256:=by rw[hx0];exact hL _ (j5 h0L)
   have eg:L.getD 0 0=x0:=by rw[hx0,e8,i7 h0L];rfl
   refine R2 cQ (e:=5) rfl hSw 0 rfl h0L λb9 o9 cs hcs hR hcell=>?_;subst hR;refine lQ 0 (hcell 0 _ rfl) ?_;rw[<-hx0];refine gF x0 6 (x0 % 6) rfl rfl dc rfl ?_;have hr6:x0 % 6 < 6:=A6 _ dc;apply hq';refine K9 (by rfl) (λs3=>?_) λs3=>?_;focus
    have s3:=of_decide_eq_true s3;have hO:R5 n d L=(.mk 0 (Z5 n (kF L 0,kF L 1,kF L 2,kF L 3)) [] [],L.drop 1):=tS n (.inr (.inr (by rw[eg];omega)))
   rotate_left
   ·have s3:=of_decide_eq_false s3;have h6:x0 % 6≠0:=om
    obtain⟨d,rfl⟩ :∃e,d=e+1:=⟨d - 1,om⟩
    have eO:=JF n d hLne (by rw[eg];exact h6);rw[eg] at eO;refine m9 λq' hq'=>?_;refine R2 cQ (e:=5) rfl hSw 0 rfl h0L λb9 o9 cs hcs hR hcell=>?_;subst hR;refine lQ 0 (hcell 0 _ rfl) ?_;rw[<-hx0];refine gF x0 6 (x0 % 6) rfl rfl dc rfl ?_;refine nwo ?_;intro b10;apply hq';refine nQ [.hp (Hp.whole w),.box b6 [iQ 0,zs,zl,zs,zl] 44,.box b10 [iQ ((x0 % 6:Nat):Int),zs,zl,zs,zl] 44] λq' hq'=>?_;refine R2 cQ (e:=5) rfl hSw 0 rfl h0L λb9 o9 cs hcs hR hcell=>?_;subst hR;refine lQ 0 (hcell 0 _ rfl) ?_;rw[<-hx0];have hq2:x0 / 6 % 2 < 2:=A6 _ dc;refine Gr x0 6 (x0 / 6) rfl rfl dc hx rfl ?_;refine gF (x0 / 6) 2 (x0 / 6 % 2) rfl rfl dc rfl ?_;(iterate 2 refine nwo ?_);apply hq';refine m9 λq' hq'=>?_;apply hq';refine K9 (by rfl) (λo2=>?_) λo2=>?_
    ·have o2:x0 % 6=2:=by have:=of_decide_eq_true o2;omega
     rw[if_pos o2,if_pos (.inl o2)] at eO;refine nQ [.hp (Hp.whole w),.box b6 [iQ 0,zs,zl,zs,zl] 44,.box b10 [iQ ((x0 % 6:Nat):Int),zs,zl,zs,zl] 44] λq' hq'=>?_;refine R2 cQ (e:=5) rfl hSw 0 rfl h0L λb9 o9 cs hcs hR hcell=>?_;subst hR;refine lQ 0 (hcell 0 _ rfl) ?_;rw[<-hx0];(iterate 2 refine nwo ?_);refine call (λw' hm=>S5 ((x0:Int) - 100) om om w') ?_;rintro _ _ ⟨g1,a1,n1,c1,rfl,rfl,hM1⟩;refine k7 _ (λw' hm=>uF w' (hM1.mono (hm 3 _ rfl).whole) om (hP.mono (hm 0 _ rfl).whole)) ?_;obtain⟨F,hF⟩ :∃F,F=zT ((x0:Int) - 100):=⟨_,rfl⟩
     rw[<-hF] at eO ⊢;apply hq';refine m9 λq' hq'=>?_;apply hq';refine m9 λq' hq'=>?_;apply hq';refine K9 (by rfl) (λo5=>absurd (of_decide_eq_true o5) om) λ_=>?_;refine nQ [.hp (Hp.whole w),.box b6 [iQ 0,zs,zl,zs,zl] 44,.box b10 [iQ ((x0 % 6:Nat):Int),zs,zl,sv F,zl] 44,.hp g1] λq' hq'=>?_;refine An cQ (T:=68) rfl hS 1 m (.inr ⟨_,_,rfl,rfl⟩) (.inl ⟨rfl,rfl⟩) om (j8 _) λa1 hS1=>?_;rw[o6 (show L.length<=m by omega)] at hS1;apply hq';refine m9 (λ_ kz=>kz _ _ ?_);refine z6.mkS (Nat×Hp×Dw.Os×Option Addr×Nat×Nat) (λg=>[(0,.v (iQ n)),(1,.v (.slice g.2.2.2.1 g.2.2.2.2.1 g.2.2.2.2.2)),(2,.v (iQ level)),(6,.bx 1 0),(10,.bx 2 0),(11,.v (iQ 1)),(12,.v (iQ g.1))]) (λg=>[.hp (Hp.whole w),.box b6 [iQ 0,zs,zl,zs,zl] 44,.box b10 [iQ ((x0 % 6:Nat):Int),zs,zl,sv F,g.2.2.1.v] 44,.hp g.2.1,.hp g.2.2.1.h])
      (λg=>g.1<=1/\aR (bE (d+1)) 44 5 g.2.1 g.2.2.1 (cJ n d (L.drop 1) g.1).1/\Sl (E0 QI) 1 h0 g.2.2.2.1 g.2.2.2.2.1 g.2.2.2.2.2 (cJ n d (L.drop 1) g.1).2) (λg=>1 - g.1) (0,Hp.emp,Dw.Os.nil,a1,m - 1,c - 1) ⟨j0 _,aR.nil,hS1⟩ (y6.mk (λ_ _ h=>(h.pick [0,1,2] rfl rfl).emp.emp) rfl rfl) ?_
     rintro⟨i,H,o,a2,m2,c2⟩ ⟨hi,hG,hS2⟩ hsat;dsimp only at hi hG hS2 ⊢;refine m9 λq' hq'=>?_;apply hq';refine K9 (by rfl) (λt1=>?_) λt1=>?_
     ·have t1:=of_decide_eq_true t1;obtain⟨A,hA⟩ :∃A,A=R5 n d (cJ n d (L.drop 1) i).2:=⟨_,rfl⟩
      have eI:cJ n d (L.drop 1) (i+1)=((cJ n d (L.drop 1) i).1++[A.1],A.2):=by rw[hA];rfl
      refine m9 λq' hq'=>?_;intro b13;apply hq';refine nQ [.hp (Hp.whole w),.box b6 [iQ 0,zs,zl,zs,zl] 44,.box b10 [iQ ((x0 % 6:Nat):Int),zs,zl,sv F,o.v] 44,.hp H,.hp o.h,.box b13 [iQ 0,zs,zl,zs,zl] 44] λq' hq'=>?_;refine nwo ?_;refine call (λw' hm=>ih d rfl n (cJ n d (L.drop 1) i).2 a2 m2 c2 (level+1) h0 w' ((hm 0 _ rfl).le hin.whole) hn om (λx hx=>hL x (A8 (tT n d _ i x hx))) hS2 (hP.mono (hm 0 _ rfl).whole)) ?_;rintro _ _ ⟨H9,xs,a3,m3,c3,rfl,rfl,hx5,hE,hS3⟩;rw[<-hA] at hE hS3;have hE2:=hE;obtain⟨Y,hY⟩ :∃Y,Y=A.1:=⟨_,rfl⟩
      rw[<-hY] at hE2;obtain⟨op9,f9,fac9,args9⟩:=Y;obtain⟨a9,n9,c9,a8,n8,c8,rfl,_,_⟩:=hE2;apply hq';refine nQ [.hp (Hp.whole w),.box b6 [iQ 0,zs,zl,zs,zl] 44,.box b10 [iQ ((x0 % 6:Nat):Int),zs,zl,sv F,o.v] 44,.hp H,.hp o.h,.box b13 [iQ op9,sv f9.1,.slice a9 n9 c9,sv fac9,.slice a8 n8 c8] 44,.hp H9] λq' hq'=>?_;intro b14;refine qM (R:=bE (d+1)) (o:=o) (L:=(cJ n d (L.drop 1) i).1) (H:=H.join H9) cQ (e:=44) rfl (i:=4) rfl (λ_=>hG.mono (D6 _) (Hp.le_join_l _ _)) A.1 [iQ op9,sv f9.1,.slice a9 n9 c9,sv fac9,.slice a8 n8 c8] (j:=7) rfl rfl rfl rfl (by rw[tU];omega) (λhs=>?_) λo2 _ hG2=>?_
      ·obtain⟨w0,w',hok⟩:=hs;exact D6 _ _ _ _ _ (Hp.le_join_r (hok.disj 3 6 _ _ dc rfl rfl)) hE
      apply hq';refine m9 λq' hq'=>?_;refine nwo ?_;apply hq';exact⟨(i+1,H.join H9,o2,a3,m3,c3),⟨by dsimp only;omega,by dsimp only;rw[eI];exact hG2,by dsimp only;rw[eI];exact hS3⟩,by dsimp only;omega,y6.mk (λ_ _ h=>(Ok.join (h.pick [0,3,6,1,2,4] rfl rfl)).pick [0,2,3,1,4] rfl rfl) rfl rfl⟩
     ·have t1:=of_decide_eq_false t1;have him:i=1:=om
      subst him;have hHo:H.dj o.h:=by obtain⟨w0,w1,hok⟩:=hsat;exact hok.disj 3 4 _ _ dc rfl rfl
      refine m9 λq' hq'=>?_;apply hq';rw[eO];exact⟨[.hp (H.join o.h)],⟨_,_,_,_,_,rfl,rfl,rfl,⟨none,0,0,o.a,o.n,o.c,rfl,Sl.nil _ _ _ _ _,hG.sl (D6 _) dc (Hp.le_join_l _ _) (Hp.le_join_r hHo)⟩,hS2⟩,λw' h=>(Ok.join (h.pick [0,3,4] rfl rfl)).pick [0,1] rfl rfl⟩
    ·have o2:x0 % 6≠2:=by have:=of_decide_eq_false o2;omega
     rw[if_neg o2] at eO;refine m9 λq' hq'=>?_;apply hq';refine K9 (by rfl) (λo5=>?_) λo5=>?_;focus
      have o5:x0 % 6=5:=by have:=of_decide_eq_true o5;omega
      rw[if_pos (.inr o5)] at eO;refine m9 λq' hq'=>?_;apply hq';refine nQ [.hp (Hp.whole w),.box b6 [iQ 0,zs,zl,zs,zl] 44,.box b10 [iQ ((x0 % 6:Nat):Int),zs,zl,zs,zl] 44] λq' hq'=>?_;refine An cQ (T:=68) rfl hS 1 m (.inr ⟨_,_,rfl,rfl⟩) (.inl ⟨rfl,rfl⟩) om (j8 _) λa1 hS1=>?_;rw[o6 (show L.length<=m by omega)] at hS1;apply hq';refine m9 (λ_ kz=>kz _ _ ?_);refine z6.mkS (Nat×Hp×Dw.Os×Option Addr×Nat×Nat) (λg=>[(0,.v (iQ n)),(1,.v (.slice g.2.2.2.1 g.2.2.2.2.1 g.2.2.2.2.2)),(2,.v (iQ level)),(6,.bx 1 0),(10,.bx 2 0),(11,.v (iQ 1)),(12,.v (iQ g.1))]) (λg=>[.hp (Hp.whole w),.box b6 [iQ 0,zs,zl,zs,zl] 44,.box b10 [iQ ((x0 % 6:Nat):Int),zs,zl,zs,g.2.2.1.v] 44,.hp g.2.1,.hp g.2.2.1.h])
       (λg=>g.1<=1/\aR (bE (d+1)) 44 5 g.2.1 g.2.2.1 (cJ n d (L.drop 1) g.1).1/\Sl (E0 QI) 1 h0 g.2.2.2.1 g.2.2.2.2.1 g.2.2.2.2.2 (cJ n d (L.drop 1) g.1).2) (λg=>1 - g.1) (0,Hp.emp,Dw.Os.nil,a1,m - 1,c - 1) ⟨j0 _,aR.nil,hS1⟩ (y6.mk (λ_ _ h=>(h.pick [0,1,2] rfl rfl).emp.emp) rfl rfl) ?_
      rintro⟨i,H,o,a2,m2,c2⟩ ⟨hi,hG,hS2⟩ hsat;dsimp only at hi hG hS2 ⊢;refine m9 λq' hq'=>?_;apply hq';refine K9 (by rfl) (λt1=>?_) λt1=>?_;focus
       skip
      rotate_left
      ·have t1:=of_decide_eq_false t1;have him:i=1:=om
       subst him;have hHo:H.dj o.h:=by obtain⟨w0,w1,hok⟩:=hsat;exact hok.disj 3 4 _ _ dc rfl rfl
       refine m9 λq' hq'=>?_;apply hq';rw[eO];exact⟨[.hp (H.join o.h)],⟨_,_,_,_,_,rfl,rfl,rfl,⟨none,0,0,o.a,o.n,o.c,rfl,Sl.nil _ _ _ _ _,hG.sl (D6 _) dc (Hp.le_join_l _ _) (Hp.le_join_r hHo)⟩,hS2⟩,λw' h=>(Ok.join (h.pick [0,3,4] rfl rfl)).pick [0,1] rfl rfl⟩
     rotate_left
     focus
      have o5:x0 % 6≠5:=by have:=of_decide_eq_false o5;omega
      rw[if_neg (λc=>c.elim o2 o5)] at eO;obtain⟨mm,hmm⟩ :∃mm,mm=1+x0 / 6 % 2:=⟨_,rfl⟩
      rw[<-hmm] at eO;refine nQ [.hp (Hp.whole w),.box b6 [iQ 0,zs,zl,zs,zl] 44,.box b10 [iQ ((x0 % 6:Nat):Int),zs,zl,zs,zl] 44] λq' hq'=>?_;refine An cQ (T:=68) rfl hS 1 m (.inr ⟨_,_,rfl,rfl⟩) (.inl ⟨rfl,rfl⟩) om (j8 _) λa1 hS1=>?_;rw[o6 (show L.length<=m by omega)] at hS1;apply hq';refine m9 (λ_ kz=>kz _ _ ?_);refine z6.mkS (Nat×Hp×Dw.Os×Option Addr×Nat×Nat) (λg=>[(0,.v (iQ n)),(1,.v (.slice g.2.2.2.1 g.2.2.2.2.1 g.2.2.2.2.2)),(2,.v (iQ level)),(6,.bx 1 0),(10,.bx 2 0),(11,.v (iQ (1+((x0 / 6 % 2:Nat):Int)))),(12,.v (iQ g.1))]) (λg=>[.hp (Hp.whole w),.box b6 [iQ 0,zs,zl,zs,zl] 44,.box b10 [iQ ((x0 % 6:Nat):Int),zs,zl,zs,g.2.2.1.v] 44,.hp g.2.1,.hp g.2.2.1.h])
       (λg=>g.1<=mm/\aR (bE (d+1)) 44 5 g.2.1 g.2.2.1 (cJ n d (L.drop 1) g.1).1/\Sl (E0 QI) 1 h0 g.2.2.2.1 g.2.2.2.2.1 g.2.2.2.2.2 (cJ n d (L.drop 1) g.1).2) (λg=>mm - g.1) (0,Hp.emp,Dw.Os.nil,a1,m - 1,c - 1) ⟨j0 _,aR.nil,hS1⟩ (y6.mk (λ_ _ h=>(h.pick [0,1,2] rfl rfl).emp.emp) rfl rfl) ?_
      rintro⟨i,H,o,a2,m2,c2⟩ ⟨hi,hG,hS2⟩ hsat;dsimp only at hi hG hS2 ⊢;refine m9 λq' hq'=>?_;apply hq';refine K9 (by rfl) (λt1=>?_) λt1=>?_;focus
       skip
      rotate_left
      ·have t1:=of_decide_eq_false t1;have him:i=mm:=om
       subst him;have hHo:H.dj o.h:=by obtain⟨w0,w1,hok⟩:=hsat;exact hok.disj 3 4 _ _ dc rfl rfl
       refine m9 λq' hq'=>?_;apply hq';rw[eO];exact⟨[.hp (H.join o.h)],⟨_,_,_,_,_,rfl,rfl,rfl,⟨none,0,0,o.a,o.n,o.c,rfl,Sl.nil _ _ _ _ _,hG.sl (D6 _) dc (Hp.le_join_l _ _) (Hp.le_join_r hHo)⟩,hS2⟩,λw' h=>(Ok.join (h.pick [0,3,4] rfl rfl)).pick [0,1] rfl rfl⟩
     all_goals
      have t1:=of_decide_eq_true t1;obtain⟨A,hA⟩ :∃A,A=R5 n d (cJ n d (L.drop 1) i).2:=⟨_,rfl⟩
      have eI:cJ n d (L.drop 1) (i+1)=((cJ n d (L.drop 1) i).1++[A.1],A.2):=by rw[hA];rfl
      refine m9 λq' hq'=>?_;intro b13;apply hq';refine nQ [.hp (Hp.whole w),.box b6 [iQ 0,zs,zl,zs,zl] 44,.box b10 [iQ ((x0 % 6:Nat):Int),zs,zl,zs,o.v] 44,.hp H,.hp o.h,.box b13 [iQ 0,zs,zl,zs,zl] 44] λq' hq'=>?_;refine nwo ?_;refine call (λw' hm=>ih d rfl n (cJ n d (L.drop 1) i).2 a2 m2 c2 (level+1) h0 w' ((hm 0 _ rfl).le hin.whole) hn om (λx hx=>hL x (A8 (tT n d _ i x hx))) hS2 (hP.mono (hm 0 _ rfl).whole)) ?_;rintro _ _ ⟨H9,xs,a3,m3,c3,rfl,rfl,hx5,hE,hS3⟩;rw[<-hA] at hE hS3;have hE2:=hE;obtain⟨Y,hY⟩ :∃Y,Y=A.1:=⟨_,rfl⟩
      rw[<-hY] at hE2;obtain⟨op9,f9,fac9,args9⟩:=Y;obtain⟨a9,n9,c9,a8,n8,c8,rfl,_,_⟩:=hE2;apply hq';refine nQ [.hp (Hp.whole w),.box b6 [iQ 0,zs,zl,zs,zl] 44,.box b10 [iQ ((x0 % 6:Nat):Int),zs,zl,zs,o.v] 44,.hp H,.hp o.h,.box b13 [iQ op9,sv f9.1,.slice a9 n9 c9,sv fac9,.slice a8 n8 c8] 44,.hp H9] λq' hq'=>?_;intro b14;refine qM (R:=bE (d+1)) (o:=o) (L:=(cJ n d (L.drop 1) i).1) (H:=H.join H9) cQ (e:=44) rfl (i:=4) rfl (λ_=>hG.mono (D6 _) (Hp.le_join_l _ _)) A.1 [iQ op9,sv f9.1,.slice a9 n9 c9,sv fac9,.slice a8 n8 c8] (j:=7) rfl rfl rfl rfl (by rw[tU];omega) (λhs=>?_) λo2 _ hG2=>?_
      ·obtain⟨w0,w',hok⟩:=hs;exact D6 _ _ _ _ _ (Hp.le_join_r (hok.disj 3 6 _ _ dc rfl rfl)) hE
      apply hq';refine m9 λq' hq'=>?_;refine nwo ?_;apply hq';exact⟨(i+1,H.join H9,o2,a3,m3,c3),⟨by dsimp only;omega,by dsimp only;rw[eI];exact hG2,by dsimp only;rw[eI];exact hS3⟩,by dsimp only;omega,y6.mk (λ_ _ h=>(Ok.join (h.pick [0,3,6,1,2,4] rfl rfl)).pick [0,2,3,1,4] rfl rfl) rfl rfl⟩
  all_goals
   rw[hO];dsimp only;refine m9 λ_ kz=>?_;intro b8;refine kz _ _ ?_;refine m9 (λ_ kz=>kz _ _ ?_);refine z6.mkS Nat (λg=>[(0,.v (iQ n)),(1,.v (.slice a m c)),(6,.bx 1 0),(8,.v (pQ b8)),(9,.v (iQ g))]) (λg=>[.hp (Hp.whole w),.box b6 [iQ 0,zs,zl,zs,zl] 44,.box b8 (kQ L g) 148]) (λg=>g<=min L.length 4) (λg=>4 - g) 0 (j0 _) (y6.mk (λ_ _ h=>h) rfl rfl) ?_;rintro i hi _;refine m9 λq' hq'=>?_;refine d9 (λt1=>?_) λt1=>?_;focus
    apply hq';refine K9 (by rfl) (λt2=>?_) λt2=>?_
    ·have t2:=of_decide_eq_true t2;have hi4:i < 4:=om
     have hiL:i < L.length:=om
     have hx:=hL L[i] (j5 hiL);refine nQ [.hp (Hp.whole w),.box b6 [iQ 0,zs,zl,zs,zl] 44,.box b8 (kQ L i) 148] λq' hq'=>?_;refine R2 cQ (e:=5) rfl hSw i rfl hiL λb9 o9 cs hcs hR hcell=>?_;subst hR;refine lQ 0 (hcell 0 _ rfl) ?_;refine gF L[i] 7 (L[i] % 7) rfl rfl dc rfl ?_;have hr7:L[i] % 7 < 7:=A6 _ dc;(iterate 2 refine Ka om om ?_);refine ED cQ (T:=148) (e:=133) (len:=4) rfl rfl rfl rfl i rfl hi4 ?_;refine iW cQ (i:=2) (j:=0+i) rfl rfl rfl (by rw[XE];omega) rfl rfl ?_;apply hq';refine cD [.hp (Hp.whole w),.box b6 [iQ 0,zs,zl,zs,zl] 44,.box b8 (kQ L (i+1)) 148] (by rw[<-XD hi4 hiL,w7];rfl) ?_;refine m9 λq' hq'=>?_;refine nwo ?_;apply hq';exact⟨i+1,om,om,y6.mk (λ_ _ h=>h) rfl rfl⟩
    focus
     have t2:=of_decide_eq_false t2;have hiL:i=L.length:=om
   rotate_left
   focus
    apply hq';refine dU rfl ?_;have hiL:i=min L.length 4:=om
   all_goals
    have eK:kQ L i = [.int .i8 (kF L 0),.int .i8 (kF L 1),.int .i8 (kF L 2),.int .i8 (kF L 3)]:=XF om;rw[eK];have hb:=PW L;refine u6.cut (Dw.Os×Option Addr) (λg=>[(6,.bx 1 0),(7,.v (.slice g.2 (m - min 1 L.length) (c - min 1 L.length)))]) (λg=>[.hp (Hp.whole w),.box b6 [iQ 0,sv (Z5 n (kF L 0,kF L 1,kF L 2,kF L 3)).1,g.1.v,zs,zl] 44,.hp g.1.h]) (λg=>w5 bO 80 2 g.1 (Z5 n (kF L 0,kF L 1,kF L 2,kF L 3)).2/\Sl (E0 QI) 1 h0 g.2 (m - min 1 L.length) (c - min 1 L.length) (L.drop 1)) (u6.by_order0 (s0:=[.hp (Hp.whole w),.hp Hp.emp,.box b8 [.int .i8 (kF L 0),.int .i8 (kF L 1),.int .i8 (kF L 2),.int .i8 (kF L 3)] 148]) cQ (.take 0 <| .take 1 <| .take 4 <| .take 5 <| .take 6 <| .two 2 (.take 3 <| .two 7 (.take 8 <| .run 9 <| .run 10 <| .done) 9 (.run 7 <| .run 8 <| .run 10 <| .done)) 7 (.take 8 <| .run 2 <| .take 3 <| .run 9 <| .run 10 <| .done)) kr (sK) ?_) ?_
    ·have hdr:(L.take m).drop (min 1 L.length)=L.drop 1:=by
      rw[o6 om];rcases u9 L.length with e | e
      ·rw[F7.1 e];rfl
      ·rw[T6 e]
     have hLin:=λ(w':World) (hm:(Hp.whole w).In w')=>nW n (kF L 0,kF L 1,kF L 2,kF L 3) hn hb w' (hP.mono hm.whole);refine Kc cQ (i:=2) rfl rfl ?_;constructor
     ·refine call (λw' hm=>hLin w' (hm 0 _ rfl)) ?_;rintro _ _ ⟨o,rfl,rfl,hO2⟩;refine⟨sK,?_⟩;constructor
      focus
       refine AF ?_;refine⟨sK,?_⟩
      rotate_left
      focus
       refine⟨sK,?_⟩;refine AF ?_;first | refine⟨sK,?_⟩ | skip
      all_goals
       refine An cQ (T:=68) rfl hS (min 1 L.length) m (.inr ⟨_,_,rfl,om⟩) (.inl ⟨rfl,rfl⟩) om (j8 _) λa' hS2=>?_;rw[hdr] at hS2;first
       | exact⟨(o,a'),⟨hO2,hS2⟩,y6.mk (pj [0,1,3]) rfl rfl⟩
       | exact⟨sK,(o,a'),⟨hO2,hS2⟩,y6.mk (pj [0,1,3]) rfl rfl⟩
       | exact⟨sK,sK,(o,a'),⟨hO2,hS2⟩,y6.mk (pj [0,1,3]) rfl rfl⟩
       | exact⟨sK,sK,sK,(o,a'),⟨hO2,hS2⟩,y6.mk (pj [0,1,3]) rfl rfl⟩
     ·refine AF ?_;refine⟨sK,?_⟩;refine An cQ (T:=68) rfl hS (min 1 L.length) m (.inr ⟨_,_,rfl,om⟩) (.inl ⟨rfl,rfl⟩) om (j8 _) λa' hS2=>?_;rw[hdr] at hS2;refine call (λw' hm=>hLin w' (hm 0 _ rfl)) ?_;rintro _ _ ⟨o,rfl,rfl,hO2⟩;refine⟨sK,?_⟩;first
      | exact⟨(o,a'),⟨hO2,hS2⟩,y6.mk (pj [0,1,3]) rfl rfl⟩
      | exact⟨sK,(o,a'),⟨hO2,hS2⟩,y6.mk (pj [0,1,3]) rfl rfl⟩
      | exact⟨sK,sK,(o,a'),⟨hO2,hS2⟩,y6.mk (pj [0,1,3]) rfl rfl⟩
      | exact⟨sK,sK,sK,(o,a'),⟨hO2,hS2⟩,y6.mk (pj [0,1,3]) rfl rfl⟩
    rintro⟨o,a'⟩ ⟨hO2,hS2⟩ _;dsimp only at hO2 hS2 ⊢;exact⟨[.hp o.h],⟨o.h,_,_,_,_,rfl,rfl,rfl,⟨o.a,o.n,o.c,none,0,0,rfl,w5.sl (f:=bO) (sz:=2) (λ_=>rfl) dc hO2,Sl.nil _ _ _ _ _⟩,hS2⟩,pk [0,2]⟩
theorem mB :∀d,d<=3->Nw d
 | 0,h=>mA 0 h (λd' e=>by omega)
 | d+1,h=>mA (d+1) h (λd' e=>by
  have:d'=d:=om
  subst this;exact mB d' om)
end Go.Proofs.YtpjhmeicbjkcdaaGreatDoor
namespace Go.Dw
open Go Go.RowKit
theorem PH {P:Program} {s:List Ch} {ty:Nat} {q:TV->Prop} {k:IntKind} (a b:Int) (hb:b≠0) (h:q (.v (.int k (a.tmod b)))):C9 P s (binOp .rem ty (.int k a) (.int k b)) q:=by
 refine⟨_,λw _=>?_,h⟩;simp[binOp,Op.intDiv,hb]
theorem IX {P:Program} {s:List Ch} {tys:Array TypeId} {ty:Nat} {x y:Int} {q:TV->List Ch->Prop} (h:q (.v (iQ (max x y))) s):G7 P s (Builtin.max_ tys ty #[iQ x,iQ y]) q:=by
 refine⟨λw0 w hok=>⟨_,_,w,s,?_,hok,I5.refl s,rfl,h⟩⟩;simp[Builtin.max_,Builtin.max2,Int.max_def];split <;> split <;> (try rfl) <;> (congr 1;omega)
end Go.Dw
namespace Go.Proofs.YtpjhmeicbjkcdaaGreatDoor
open Go Go.RowKit Go.Dw
def Mz (x:Q5):List Value:=[.int .i8 x.1,.int .i8 x.2.1,.int .i8 x.2.2.1,.int .i8 x.2.2.2.1,.int .i8 x.2.2.2.2]
def My (x:Q6):List Value:=[.int .i8 x.1,.int .i8 x.2.1,.int .i8 x.2.2.1,.int .i8 x.2.2.2.1,.int .i8 x.2.2.2.2.1,.int .i8 x.2.2.2.2.2]
def Na (x:Int×Int×Int):List Value:=[.int .i8 x.1,.int .i8 x.2.1,.int .i8 x.2.2]
structure OG (h:Hp) (k:UI) (cs:List Value):Prop where
 ex :∃a1 n1 c1 a2 n2 c2 a3 n3 c3 a4 n4 c4 a5 n5 c5,cs = [.int .u8 k.nm,.slice a1 n1 c1,.slice a2 n2 c2,.slice a3 n3 c3,.slice a4 n4 c4,.slice a5 n5 c5]/\
  Sl (E0 Mz) 5 h a1 n1 c1 k.parts/\Sl (E0 My) 6 h a2 n2 c2 k.insts/\Sl (E0 Na) 3 h a3 n3 c3 k.dims/\Sl (E0 Jb) 4 h a4 n4 c4 k.cons/\Sl (YF (E0 QI) 1) 1 h a5 n5 c5 k.gaps
theorem OG.mono {h h':Hp} {k:UI} {cs:List Value} (hl:h.le h') (hp:OG h k cs):OG h' k cs:=by
 obtain⟨a1,n1,c1,a2,n2,c2,a3,n3,c3,a4,n4,c4,a5,n5,c5,e,h1,h2,h3,h4,h5⟩:=hp.ex;exact⟨a1,n1,c1,a2,n2,c2,a3,n3,c3,a4,n4,c4,a5,n5,c5,e,h1.mono (j7 _) hl,h2.mono (j7 _) hl,h3.mono (j7 _) hl,h4.mono (j7 _) hl,h5.mono (EH (j7 _) 1) hl⟩
def LU {α β:Type} (f:Nat->α->β) (m:Nat) (l:List α):List β:=(l.take m).zipIdx.map λp=>f p.2 p.1
theorem kU {α β:Type} (f:Nat->α->β) (m:Nat) (l:List α):(LU f m l).length=min m l.length:=by
 unfold LU;rw[j6,List.length_zipIdx,j1]
theorem mV {α β:Type} (f:Nat->α->β) {m:Nat} {l:List α} {i:Nat} (hm:i < m) (hi:i < l.length):(LU f m l).take (i+1)=(LU f m l).take i++[f i l[i]]:=by
 have hl:i < (LU f m l).length:=by rw[kU];omega
 obtain⟨h',e⟩:=wI f (l.take m) hl;rw[Y6 hl];congr 2
 show ((l.take m).zipIdx.map λp=>f p.2 p.1)[i]=_
 rw[e,List.getElem_take]
theorem iF {α β:Type} (f:Nat->α->β) {m:Nat} {l:List α} {i:Nat} (h : ¬ (i < l.length/\i < m)):(LU f m l).take i=LU f m l:=o6 (by rw[kU];omega)
theorem AD {α:Type} (f:Nat->α) (i:Nat):(x8 (i+1)).map f=(x8 i).map f++[f i]:=by rw[List.range_succ,E1];rfl
theorem EZ (x:Int):x % 256=((u8 x:Nat):Int):=by unfold u8;omega
theorem aR.name {α:Type} {R:yV α} {T sz:Nat} {H:Hp} {o:Dw.Os} {L:List α} (h0:0 < sz) (hG:aR R T sz H o L) :∃C:List (Jd sz),Sl (E0 λc:Jd sz=>c.1) sz o.h o.a o.n o.c C/\C.length=L.length/\∀i (h1:i < L.length) (h2:i < C.length),R H L[i] C[i].1:=by
 obtain⟨C,h1,h2,h3⟩:=hG;exact⟨C,h1.sl (λc=>c.2.1) h0,h2,h3⟩
end Go.Proofs.YtpjhmeicbjkcdaaGreatDoor
namespace Go.Dw
open Go Go.RowKit Go.ChangeShapes Go.WideShapes Go.ChangeAt
section
variable {H:Type} {enc:TypeId×Value->H} {P:Program} {W:World} {sp:Nat->Bool} {held:Bool}
theorem JN {α β:Type} {g:α->Option β} :∀{l:List α} {cs:List β},l.mapM g=some cs->cs.length=l.length/\∀(j:Nat) (v:β),cs[j]?=some v->∃i,l[j]?=some i/\g i=some v
 | [],cs,h=>by
  rw[List.mapM_nil] at h;cases h;exact⟨rfl,λj v h=>by simp at h⟩
 | x::l,cs,h=>by
  simp only[List.mapM_cons,Option.bind_eq_bind,Option.bind_eq_some_iff,Option.pure_def,l8] at h;obtain⟨y,hy,ys,hys,rfl⟩:=h;obtain⟨h1,h2⟩:=JN hys;refine⟨by simp[h1],λj v hj=>?_⟩;match j,hj with
  | 0,hj=>cases hj;exact⟨x,rfl,hy⟩
  | j+1,hj=>exact h2 j v hj
theorem aV {α:Type} [Inhabited α] {R:yV α} {t e:TypeId} {n:Nat} (ht:P.underlying t=some (.slice e)) (hc:P.cellsOf e=n) (hn:0 < n)
  (hf :∀fuel cs (y:DataW H×List MemPlace),DataW.trod enc P W 0 sp held fuel e cs=some y->∃x:α,R (Hp.whole W) x cs)
  {fuel:Nat} {cs:List Value} {y:DataW H×List MemPlace} (h:DataW.trod enc P W 0 sp held fuel t cs=some y) :
  ∃a m c L,cs = [.slice a m c]/\Sl R n (Hp.whole W) a m c L:=by
 rcases DataW.trod_slice ht h with ⟨h0,_⟩ | ⟨a,len,cap,elems,rest,k,_,rfl,_,hb,hl,_,hlen,hel,_,_⟩
 ·exact⟨none,0,0,[],h0,Sl.nil _ _ _ _ _⟩
 rw[hc] at hel;have each :∀i,i < len->∃(x:α×List Value),R (Hp.whole W) x.1 x.2/\x.2.length=n/\∀j v,x.2[j]?=some v->W.cell? ((a.add (i*n)).add j)=some v:=by
  intro i hi;have h1:=hel i hi;rw[i7 om,Option.bind_eq_some_iff] at h1;obtain⟨cs',hcs,hy⟩:=h1;obtain⟨x,hx⟩:=hf _ _ _ hy;unfold World.cells? at hcs;rw[if_pos (j0 _)] at hcs;obtain⟨g1,g2⟩:=JN hcs;rw[K7] at g1;refine⟨(x,cs'),hx,g1,λj v hj=>?_⟩;obtain⟨q,hq,hv⟩:=g2 j v hj;have hjn:j < n:=by rw[<-g1];exact (p6.1 hj).1
  rw[UN hjn] at hq;cases hq;exact hv
 obtain⟨g,hg⟩ :∃g:Nat->α×List Value,∀i,i < len->R (Hp.whole W) (g i).1 (g i).2/\(g i).2.length=n/\∀j v,(g i).2[j]?=some v->W.cell? ((a.add (i*n)).add j)=some v:=by
  refine⟨λi=>if h:i < len then (each i h).choose else (default,[]),λi hi=>?_⟩;simp only[hi,↓reduceDIte];exact (each i hi).choose_spec
 refine⟨some a,len,cap,(x8 len).map λi=>(g i).1,rfl,sQ,hl,λi hi=>?_⟩;simp only[j6,K7] at hi;obtain⟨b,off,rfl⟩ :∃b off,a=⟨b,off,none⟩:=by
  obtain⟨_,h1,h2⟩:=hg 0 om;have:=h2 0 _ (i7 om);rw[bV] at this;simp only[Addr.add,↓reduceIte] at this;exact TZ this
 obtain⟨h0,h1,h2⟩:=hg i hi;refine⟨b,off,(g i).2,rfl,h1,by simpa using h0,λj v hj=>?_⟩;have:=h2 j v hj;rw[Addr.add_mk,Addr.add_mk] at this;exact this
theorem VD {t:TypeId} {fs:Array Field} {fuel:Nat} {cs:List Value} {x:DataW H×List MemPlace} (ht:P.underlying t=some (.struct fs)) (h:DataW.trod enc P W 0 sp held fuel t cs=some x) :
  cs.length=P.cellsOf t/\∃n,∀(i:Nat) (f:Field),fs[i]?=some f->∃y,DataW.trod enc P W 0 sp held n f.type ((cs.drop f.offset).take (P.cellsOf f.type))=some y:=by
 obtain⟨xs,n,_,rfl,hl,hlen,hf⟩:=DataW.trod_struct ht h;refine⟨hl,n,λi f hi=>?_⟩;have h1:=hf i f hi;have hi':i < xs.length:=by rw[hlen];exact (Array.getElem?_eq_some_iff.1 hi).1
 rw[i7 hi'] at h1;exact⟨_,h1⟩
theorem Mt {cs:List Value} (h:cs.length=3) :∃p q s,cs = [p,q,s]:=by
 match cs,h with
 | [p,q,s],_=>exact⟨p,q,s,rfl⟩
theorem Ms {cs:List Value} (h:cs.length=4) :∃p q s u,cs = [p,q,s,u]:=by
 match cs,h with
 | [p,q,s,u],_=>exact⟨p,q,s,u,rfl⟩
theorem Mr {cs:List Value} (h:cs.length=5) :∃p q s u z,cs = [p,q,s,u,z]:=by
 match cs,h with
 | [p,q,s,u,z],_=>exact⟨p,q,s,u,z,rfl⟩
theorem ND {n:Int} (h:(Lit.int .u8 n).wf=true):0<=n/\n<=255:=by
 simp only[Lit.wf,j4,decide_eq_true_eq] at h;have h1:IntKind.u8.min=0:=rfl;have h2:IntKind.u8.max=255:=rfl;omega
theorem TD {n:Int} (h:(Lit.int .i8 n).wf=true) : -128<=n/\n<=127:=by
 simp only[Lit.wf,j4,decide_eq_true_eq] at h;have h1:IntKind.i8.min = -128:=rfl;have h2:IntKind.i8.max=127:=rfl;omega
theorem RG {t:TypeId} {F0 F1 F2 F3 F4 F5:Field} {fuel:Nat} {cs:List Value} {x:DataW H×List MemPlace} (ht:P.underlying t=some (.struct #[F0,F1,F2,F3,F4,F5])) (h:DataW.trod enc P W 0 sp held fuel t cs=some x) :
  cs.length=P.cellsOf t/\∃n,(∃y,DataW.trod enc P W 0 sp held n F0.type ((cs.drop F0.offset).take (P.cellsOf F0.type))=some y)/\(∃y,DataW.trod enc P W 0 sp held n F1.type ((cs.drop F1.offset).take (P.cellsOf F1.type))=some y)/\(∃y,DataW.trod enc P W 0 sp held n F2.type ((cs.drop F2.offset).take (P.cellsOf F2.type))=some y)/\(∃y,DataW.trod enc P W 0 sp held n F3.type ((cs.drop F3.offset).take (P.cellsOf F3.type))=some y)/\(∃y,DataW.trod enc P W 0 sp held n F4.type ((cs.drop F4.offset).take (P.cellsOf F4.type))=some y)/\(∃y,DataW.trod enc P W 0 sp held n F5.type ((cs.drop F5.offset).take (P.cellsOf F5.type))=some y):=by
 obtain⟨h1,n,h2⟩:=VD ht h;exact⟨h1,n,h2 0 F0 rfl,h2 1 F1 rfl,h2 2 F2 rfl,h2 3 F3 rfl,h2 4 F4 rfl,h2 5 F5 rfl⟩
theorem Kb {cs:List Value} (h:cs.length=6) :∃p q s u z y,cs = [p,q,s,u,z,y]:=by
 match cs,h with
 | [p,q,s,u,z,y],_=>exact⟨p,q,s,u,z,y,rfl⟩
theorem sY {t e:TypeId} {n:Nat} (ht:P.underlying t=some (.array n e)) (he:P.underlying e=some (.int .i8)) (hc:P.cellsOf e=1) (hct:P.cellsOf t=n)
  {fuel:Nat} {cs:List Value} {y:DataW H×List MemPlace} (h:DataW.trod enc P W 0 sp held fuel t cs=some y):cs.length=n/\∀i,i < n->∃v:Int,cs[i]?=some (.int .i8 v)/\(-128<=v/\v<=127):=by
 obtain⟨xs,m,_,_,hl,hn,hel⟩:=DataW.trod_array ht h;rw[hct] at hl;refine⟨hl,λi hi=>?_⟩;have h1:=hel i hi;rw[hc,D7,i7 om] at h1;obtain⟨v,e1,_,hw⟩:=DataW.trod_int he h1;refine⟨v,?_,TD hw⟩;have:=congrArg (·[0]?) e1;simp only[aP,Pl (show 0 < 1 by decide),bY,E7] at this;exact this
theorem Sl.split {α:Type} {R:yV α} {Q:α->Prop} {sz:Nat} {h:Hp} {a:Option Addr} {n c:Nat} {L:List α} (hs:Sl (λh x cs=>R h x cs/\Q x) sz h a n c L):Sl R sz h a n c L/\∀x∈L,Q x:=by
 refine⟨⟨hs.len,hs.cap,λi hi=>?_⟩,λx hx=>?_⟩
 ·obtain⟨b,off,cs,h1,h2,h3,h4⟩:=hs.cells i hi;exact⟨b,off,cs,h1,h2,h3.1,h4⟩
 ·obtain⟨i,hi,rfl⟩:=qQ.1 hx;obtain⟨b,off,cs,h1,h2,h3,h4⟩:=hs.cells i hi;exact h3.2
theorem Tx {P:Program} {W:World} {r:Reach} {b0:Nat} {t e:TypeId} {a:Option Addr} {n c:Nat} (ht:P.underlying t=some (.slice e)) (h:Value.okWide P W r b0 t (.slice a n c)):c < 2 ^ 63:=by
 have hm:IntKind.i64.max=9223372036854775807:=rfl;simp only[Value.okWide,Cell.okWide,Cell.ok,ht] at h;cases a with
 | none=>rcases n with _ | n <;> rcases c with _ | c <;> first | decide | exact (h:False).elim
 | some a=>
  have:=h.2.1;omega
end
end Go.Dw
namespace Go.Proofs.YtpjhmeicbjkcdaaGreatDoor
open Go Go.RowKit Go.Dw Go.ChangeShapes Go.WideShapes Go.ChangeAt
def kZ:List (String×DataW Unit):=[("math/bits.deBruijn32tab",Rows.laid_math_bits_deBruijn32tab),("math/bits.deBruijn64tab",Rows.laid_math_bits_deBruijn64tab),("internal/strconv.uint64pow10",Rows.laid_internal_strconv_uint64pow10),("unicode/utf8.acceptRanges",Rows.laid_unicode_utf8_acceptRanges),("strconv.ErrRange",Rows.laid_strconv_ErrRange),("strconv.ErrSyntax",Rows.laid_strconv_ErrSyntax),("unicode.White_Space",Rows.laid_unicode_White_Space),("strings.asciiSpace",Rows.laid_strings_asciiSpace),("unicode/utf8.first",Rows.laid_unicode_utf8_first)]
set_option maxRecDepth 100000 in
theorem SP (os:Os) (args:Array Value):((World.laidAll Tryz.prog os kZ).forCall (λ_ _=>0) ⟨#[],args,[]⟩).Shaped Tryz.prog:=World.shaped_of_ZipB kr kr
set_option maxRecDepth 100000 in
theorem Hk (os:Os) (args:Array Value):laidMetH Tryz.prog kZ ((World.laidAll Tryz.prog os kZ).forCall (λ_ _=>0) ⟨#[],args,[]⟩).memory:=by
 rw[MakeChecks.laidMetH_plain _ _ _ kr];exact laidMet_laidAll _ kr kr
theorem VR:Tryz.prog.globalNamed "strings.asciiSpace" = some 2:=kr
theorem Gh:(Tryz.prog.globals[2]?).map (·.type)=some 346:=kr
theorem Am:(Rows.laid_strings_asciiSpace:DataW Unit)=.agg ((x8 256).map λn:Nat=>.lit (.int .u8 (if Lib.isSp (UInt8.ofNat n) then 1 else 0))):=kr
set_option maxRecDepth 100000 in
theorem FD {W:World} (hh:laidMetH Tryz.prog kZ W):uT (Hp.whole W):=by
 have h:laidMetH Tryz.prog [("strings.asciiSpace",Rows.laid_strings_asciiSpace)] W:=hh.filter λx=>x.1 == "strings.asciiSpace";rw[MakeChecks.laidMetH_plain _ _ _ kr] at h;obtain⟨ps,⟨g0,t0,cs0,f0,p0,q0,hg0,ht0,hv0,hd0,_,_⟩,_,_⟩:=h;obtain rfl:=M0 (VR.symm.trans hg0);obtain rfl:=M0 (Gh.symm.trans ht0);obtain⟨xs,m1,rfl,hx1,hlen,hn,hel⟩:=DataW.trod_array Tryz.underlying346 hd0;have ce:Tryz.prog.cellsOf 5=1:=kr
 simp only[Prod.mk.injEq] at hx1;rw[Am,DataW.agg.injEq] at hx1;intro j hj;have h0:=hel j hj;rw[ce,D7] at h0;have hjx:j < xs.length:=om
 rw[i7 hjx] at h0;obtain⟨n,e1,e2,_⟩:=DataW.trod_int Tryz.underlying5 h0;have hd:(xs.map (·.1))[j]?=some (.lit (.int .u8 n)):=by
  rw[E2,i7 hjx,e2];rfl
 rw[<-hx1.1,E2,UN hj] at hd;have hn2:(if Lib.isSp (UInt8.ofNat j) then (1:Int) else 0)=n:=by
  simpa using hd
 have hc:=World.var?_cell hg0 hv0 j;have hcj:cs0[j]?=some (.int .u8 n):=by
  have:=congrArg (·[0]?) e1;simp only[aP,Pl (show 0 < 1 by decide),bY,E7,Array.getElem?_toList] at this;exact this
 rw[hcj] at hc;rw[hn2];exact hc
theorem WF:Tryz.prog.globalNamed "internal/strconv.uint64pow10" = some 0:=kr
theorem Gt:(Tryz.prog.globals[0]?).map (·.type)=some 319:=kr
theorem Bg:(Rows.laid_internal_strconv_uint64pow10:DataW Unit)=Lib.tabData .u64 Lib.pow10Tab:=kr
set_option maxRecDepth 100000 in
theorem FE {W:World} (hh:laidMetH Tryz.prog kZ W):dY (Hp.whole W):=by
 have h:laidMetH Tryz.prog [("internal/strconv.uint64pow10",Rows.laid_internal_strconv_uint64pow10)] W:=hh.filter λx=>x.1 == "internal/strconv.uint64pow10";rw[MakeChecks.laidMetH_plain _ _ _ kr,Bg] at h;exact dY.of (Lib.tabIs_of_head WF Gt Tryz.underlying319 Tryz.underlying248 kr kr h)
section
variable {H:Type} {enc:TypeId×Value->H} {W:World} {r:Reach} {b0:Nat} {v:Value} {d:DataW H} {ps:List MemPlace} {sp:Nat->Bool} {held:Bool}
theorem Ks:Tryz.prog.cellsOf 5=1:=kr
theorem Dx:Tryz.prog.cellsOf 133=1:=kr
theorem Ku:Tryz.prog.cellsOf 134=5:=kr
theorem Kt:Tryz.prog.cellsOf 136=6:=kr
theorem Kw:Tryz.prog.cellsOf 146=3:=kr
theorem Kv:Tryz.prog.cellsOf 148=4:=kr
theorem Nr:Tryz.prog.cellsOf 68=1:=kr
theorem No:Tryz.prog.cellsOf 55=1:=kr
theorem Nn:Tryz.prog.cellsOf 56=1:=kr
theorem Nq:Tryz.prog.cellsOf 57=1:=kr
theorem Np:Tryz.prog.cellsOf 58=1:=kr
theorem Nm:Tryz.prog.cellsOf 59=1:=kr
theorem Nl:Tryz.prog.cellsOf 61=6:=kr
theorem Jl {fuel:Nat} {cs:List Value} {y:DataW H×List MemPlace} (h:DataW.trod enc Tryz.prog W 0 sp held fuel 134 cs=some y) :∃x:Q5,cs=Mz x/\i8 x.1/\i8 x.2.1/\i8 x.2.2.1/\i8 x.2.2.2.1/\i8 x.2.2.2.2:=by
 obtain⟨hl,h⟩:=sY Tryz.underlying134 Tryz.underlying133 Dx Ku h;obtain⟨p0,p1,p2,p3,p4,rfl⟩:=Mr hl;obtain⟨v0,e0,b0⟩:=h 0 dc;obtain⟨v1,e1,b1⟩:=h 1 dc;obtain⟨v2,e2,b2⟩:=h 2 dc;obtain⟨v3,e3,b3⟩:=h 3 dc;obtain⟨v4,e4,b4⟩:=h 4 dc;exact⟨(v0,v1,v2,v3,v4),by simp only[aP,aQ,l8] at e0 e1 e2 e3 e4;rw[e0,e1,e2,e3,e4];rfl,b0,b1,b2,b3,b4⟩
theorem Jk {fuel:Nat} {cs:List Value} {y:DataW H×List MemPlace} (h:DataW.trod enc Tryz.prog W 0 sp held fuel 136 cs=some y) :∃x:Q6,cs=My x/\i8 x.1/\i8 x.2.1/\i8 x.2.2.1/\i8 x.2.2.2.1/\i8 x.2.2.2.2.1/\i8 x.2.2.2.2.2:=by
 obtain⟨hl,h⟩:=sY Tryz.underlying136 Tryz.underlying133 Dx Kt h;obtain⟨p0,p1,p2,p3,p4,p5,rfl⟩:=Kb hl;obtain⟨v0,e0,b0⟩:=h 0 dc;obtain⟨v1,e1,b1⟩:=h 1 dc;obtain⟨v2,e2,b2⟩:=h 2 dc;obtain⟨v3,e3,b3⟩:=h 3 dc;obtain⟨v4,e4,b4⟩:=h 4 dc;obtain⟨v5,e5,b5⟩:=h 5 dc;exact⟨(v0,v1,v2,v3,v4,v5),by simp only[aP,aQ,l8] at e0 e1 e2 e3 e4 e5;rw[e0,e1,e2,e3,e4,e5];rfl,b0,b1,b2,b3,b4,b5⟩
theorem Jn {fuel:Nat} {cs:List Value} {y:DataW H×List MemPlace} (h:DataW.trod enc Tryz.prog W 0 sp held fuel 146 cs=some y) :∃x:Int×Int×Int,cs=Na x/\i8 x.1/\i8 x.2.1/\i8 x.2.2:=by
 obtain⟨hl,h⟩:=sY Tryz.underlying146 Tryz.underlying133 Dx Kw h;obtain⟨p0,p1,p2,rfl⟩:=Mt hl;obtain⟨v0,e0,b0⟩:=h 0 dc;obtain⟨v1,e1,b1⟩:=h 1 dc;obtain⟨v2,e2,b2⟩:=h 2 dc;exact⟨(v0,v1,v2),by simp only[aP,aQ,l8] at e0 e1 e2;rw[e0,e1,e2];rfl,b0,b1,b2⟩
theorem Jm {fuel:Nat} {cs:List Value} {y:DataW H×List MemPlace} (h:DataW.trod enc Tryz.prog W 0 sp held fuel 148 cs=some y) :∃x:Q4,cs=Jb x/\i8 x.1/\i8 x.2.1/\i8 x.2.2.1/\i8 x.2.2.2:=by
 obtain⟨hl,h⟩:=sY Tryz.underlying148 Tryz.underlying133 Dx Kv h;obtain⟨p0,p1,p2,p3,rfl⟩:=Ms hl;obtain⟨v0,e0,b0⟩:=h 0 dc;obtain⟨v1,e1,b1⟩:=h 1 dc;obtain⟨v2,e2,b2⟩:=h 2 dc;obtain⟨v3,e3,b3⟩:=h 3 dc;exact⟨(v0,v1,v2,v3),by simp only[aP,aQ,l8] at e0 e1 e2 e3;rw[e0,e1,e2,e3];rfl,b0,b1,b2,b3⟩
theorem Es {fuel:Nat} {cs:List Value} {y:DataW H×List MemPlace} (h:DataW.trod enc Tryz.prog W 0 sp held fuel 5 cs=some y) :∃x:Nat,cs=QI x/\x < 256:=by
 obtain⟨kd,e0,_,w0⟩:=DataW.trod_int Tryz.underlying5 h;have b0:=ND w0;obtain⟨kn,rfl⟩:=S8 b0.1;exact⟨kn,e0,om⟩
theorem Ga {fuel:Nat} {cs:List Value} {y:DataW H×List MemPlace} (h:DataW.trod enc Tryz.prog W 0 sp held fuel 68 cs=some y) :∃L:List Nat,YF (E0 QI) 1 (Hp.whole W) L cs/\∀x∈L,x < 256:=by
 obtain⟨a,n,c,L,e,hs⟩:=aV (α:=Nat) (R:=λh x cs=>E0 QI h x cs/\x < 256) Tryz.underlying68 Ks dc (λ_ _ _ h=>Es h) h;exact⟨L,⟨a,n,c,e,hs.split.1⟩,hs.split.2⟩
set_option maxRecDepth 100000 in
theorem Jj {fuel:Nat} {cs:List Value} {y:DataW H×List MemPlace} (h:DataW.trod enc Tryz.prog W 0 sp held fuel 61 cs=some y) :∃k:UI,HF k/\OG (Hp.whole W) k cs:=by
 obtain⟨hl,n,⟨y0,k0⟩,⟨y1,k1⟩,⟨y2,k2⟩,⟨y3,k3⟩,⟨y4,k4⟩,⟨y5,k5⟩⟩:=RG Tryz.underlying61 h;rw[Nl] at hl;obtain⟨p0,p1,p2,p3,p4,p5,rfl⟩:=Kb hl;dsimp only at k0 k1 k2 k3 k4 k5;rw[Ks] at k0;rw[No] at k1;rw[Nn] at k2;rw[Nq] at k3;rw[Np] at k4;rw[Nm] at k5;obtain⟨nm,e0,bn⟩:=Es k0;obtain⟨a1,n1,c1,L1,e1,s1⟩:=aV (α:=Q5) (R:=λh x cs=>E0 Mz h x cs/\(i8 x.1/\i8 x.2.1/\i8 x.2.2.1/\i8 x.2.2.2.1/\i8 x.2.2.2.2)) Tryz.underlying55 Ku dc (λ_ _ _ h=>Jl h) k1;obtain⟨a2,n2,c2,L2,e2,s2⟩:=aV (α:=Q6) (R:=λh x cs=>E0 My h x cs/\(i8 x.1/\i8 x.2.1/\i8 x.2.2.1/\i8 x.2.2.2.1/\i8 x.2.2.2.2.1/\i8 x.2.2.2.2.2)) Tryz.underlying56 Kt dc (λ_ _ _ h=>Jk h) k2;obtain⟨a3,n3,c3,L3,e3,s3⟩:=aV (α:=Int×Int×Int) (R:=λh x cs=>E0 Na h x cs/\(i8 x.1/\i8 x.2.1/\i8 x.2.2)) Tryz.underlying57 Kw dc (λ_ _ _ h=>Jn h) k3;obtain⟨a4,n4,c4,L4,e4,s4⟩:=aV (α:=Q4) (R:=λh x cs=>E0 Jb h x cs/\(i8 x.1/\i8 x.2.1/\i8 x.2.2.1/\i8 x.2.2.2)) Tryz.underlying58 Kv dc (λ_ _ _ h=>Jm h) k4;obtain⟨a5,n5,c5,L5,e5,s5⟩:=aV (α:=List Nat) (R:=λh x cs=>YF (E0 QI) 1 h x cs/\∀z∈x,z < 256) Tryz.underlying59 Nr dc (λ_ _ _ h=>Ga h) k5;simp[QI] at e0 e1 e2 e3 e4 e5;exact⟨⟨nm,L1,L2,L3,L4,L5⟩,⟨bn,s1.split.2,s2.split.2,s3.split.2,s4.split.2,s5.split.2⟩,⟨a1,n1,c1,a2,n2,c2,a3,n3,c3,a4,n4,c4,a5,n5,c5,by rw[e0,e1,e2,e3,e4,e5],s1.split.1,s2.split.1,s3.split.1,s4.split.1,s5.split.1⟩⟩
set_option maxRecDepth 100000 in
theorem Gy (hval:Value.okWide Tryz.prog W r b0 61 v) (hd:DataW.Trod enc Tryz.prog W 0 (λ_=>true) true 61 v d ps) :∃(k:UI) (cs:List Value),v=.agg cs.toArray/\HF k/\OG (Hp.whole W) k cs:=by
 obtain⟨xs,rfl,_⟩:=okWide_struct Tryz.underlying61 hval;obtain⟨fuel,hf⟩:=hd;obtain⟨k,h1,h2⟩:=Jj hf;exact⟨k,xs.toList,sQ,h1,h2⟩
set_option maxRecDepth 100000 in
theorem Uh (hval:Value.okWide Tryz.prog W r b0 68 v) (hd:DataW.Trod enc Tryz.prog W 0 (λ_=>true) true 68 v d ps) :∃(L:List Nat) (a:Option Addr) (n c:Nat),v=.slice a n c/\Sl (E0 QI) 1 (Hp.whole W) a n c L/\(∀x∈L,x < 256)/\L.length < 2 ^ 63:=by
 obtain⟨a,n,c,rfl⟩:=Go.Dw.okWide_slice Tryz.underlying68 hval;obtain⟨fuel,hf⟩:=hd;obtain⟨L,⟨a',n',c',e,hs⟩,hb⟩:=Ga hf;have e':[Value.slice a n c] = [.slice a' n' c']:=e;simp only[Sg,Value.slice.injEq,and_true] at e';obtain⟨rfl,rfl,rfl⟩:=e';have h1:=Tx Tryz.underlying68 hval;exact⟨L,a,n,c,rfl,hs,hb,by have:=hs.len;have:=hs.cap;omega⟩
end
end Go.Proofs.YtpjhmeicbjkcdaaGreatDoor
