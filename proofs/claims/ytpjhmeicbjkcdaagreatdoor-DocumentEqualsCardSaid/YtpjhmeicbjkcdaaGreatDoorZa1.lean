/- Parts of one proof, joined. No condition of its own. -/
import Derived.Test.YtpjhmeicbjkcdaaGreatDoorZB3
import Derived.Laws.StructEq
import Derived.Shelf.Strings.Repeat
import Derived.Ground.NamesProg
import Derived.Test.YtpjhmeicbjkcdaaGreatDoorProg
open Bool renaming false_eq_true->iN,and_eq_true->k6,eq_iff_iff->L6,or_eq_true->U8,true_and->F6,or_eq_false_iff->U2,false_and->U4
open Classical renaming not_not->l9,propDecidable->Nk,byContradiction->j9
open Int renaming eq_ofNat_of_zero_le->aS,mul_ediv_cancel_left->Nd
open List renaming getElem_mem->j0,ext_getElem->Fw,flatMap_cons->I6,getD_eq_getElem?_getD->i7,getElem?_eq_getElem->i6,getElem?_map->G7,getElem?_range->qH,getElem_set->Fv,length_map->l7,length_set->N8,map_cons->N7,range->z8,replicate->p7,replicate_succ->qF,intercalate->mW,length_take->j8,map_append->E9,take_length->p9,append_assoc->o6,flatMap_append->V1,length->F7,length_append->d6,length_cons->d7,take_append_drop->E4,getElem?_eq_some_iff->q9,getElem?_take_of_lt->Na,length_eq_zero_iff->M0,drop_drop->R2,drop_left'->FJ,take_left'->Y7,any_eq_false->J8,length_pos_iff->G2,mem_cons->A8,mem_iff_getElem->Q1,append_nil->p8,length_nil->d9,mem_append->G1,ext_getElem?->O8,getElem?_set->O7,nil_append->N6,mem_cons_self->bU,length_replicate->O9,set_append_right->JF,any_cons->Nc,any_eq_true->E6,getElem_map->eJ,mem_map->G6,mem_take_iff_getElem->Mk,length_range->L9,mem_range->aP,mem_of_mem_drop->E8,mem_of_mem_take->C6,length_singleton->w7,length_drop->k9,not_mem_nil->Q0,flatten_cons->w5,flatten_nil->y6
open List.cons renaming inj->Nb
open Nat renaming zero_le->f8,zero_add->y8,le_refl->k8,mul_one->E3,gcd->I5,eq_zero_or_pos->w6,le_trans->v8,pos_of_ne_zero->F8,add_assoc->nX,add_zero->G3,lt_of_le_of_lt->s7,zero_lt_succ->O2,add_sub_cancel_left->BS,le_add_right->aO,sub_self->bS,le_of_lt->kA,ble->R0,not_lt_zero->H5,mod_lt->C8,div_le_self->D7,gcd_dvd_left->BR,gcd_pos_of_pos_right->gM,le_of_dvd->SQ,mul_div_cancel_left->Ni,lt_of_lt_of_le->S3,pow_pos->MU,pow_succ->O3,mul_le_mul_left->B8
open Option.some renaming inj->Y4
namespace Go.Proofs.YtpjhmeicbjkcdaaGreatDoor
open Go Go.RowKit Go.Dw
theorem OJ (w:World) (d:Nat) (x y:Int):(Op.equalIn (d+1) 3 (iQ x) (iQ y)).run Tryz.prog w=.ok (x==y) w:=run_equalIn_int w d 3 .i64 .i64 x y Tryz.underlying3
theorem Cl (w:World) (d:Nat) (x y:e8):(Op.equalIn (d+1) 9 (sv x) (sv y)).run Tryz.prog w=.ok (decide (x=y)) w:=by
 rw[run_equalIn_string w d 9 _ _ Tryz.underlying9,yA,ML]
theorem Cm (w:World) (d:Nat) (x y:e8):(Op.equalIn (d+1) 38 (sv x) (sv y)).run Tryz.prog w=.ok (decide (x=y)) w:=by
 rw[run_equalIn_string w d 38 _ _ Tryz.underlying38,yA,ML]
theorem Kh (w:World) (d:Nat) (a b:V3):(Op.equalIn (d+1+1) 122 (.agg #[iQ a.1,iQ a.2.1,iQ a.2.2]) (.agg #[iQ b.1,iQ b.2.1,iQ b.2.2])).run Tryz.prog w=.ok (decide (a=b)) w:=by
 obtain⟨a1,a2,a3⟩:=a;obtain⟨b1,b2,b3⟩:=b;have hu:(underlying 122).run Tryz.prog w=.ok (.array 3 3) w:=by simp[underlying,Tryz.underlying122]
 have hi:=OJ w d;generalize hd:d+1=e at hi;unfold Op.equalIn;simp only[Sem.run_bind,hu,Result.andThen_ok];simp[Std.Legacy.Range.forIn_eq_forIn_range',part,Tryz.isAgg3,Tryz.sizeOf3,List.range',hi];by_cases h1:a1=b1 <;> by_cases h2:a2=b2 <;> by_cases h3:a3=b3 <;> simp[h1,h2,h3]
theorem Ki (w:World) (d:Nat) (a b:e8×e8×e8):(Op.equalIn (d+1+1) 89 (.agg #[sv a.1,sv a.2.1,sv a.2.2]) (.agg #[sv b.1,sv b.2.1,sv b.2.2])).run Tryz.prog w=.ok (decide (a=b)) w:=by
 obtain⟨a1,a2,a3⟩:=a;obtain⟨b1,b2,b3⟩:=b;have hu:(underlying 89).run Tryz.prog w=.ok (.array 3 38) w:=by simp[underlying,Tryz.underlying89]
 have hi:=Cm w d;generalize hd:d+1=e at hi;unfold Op.equalIn;simp only[Sem.run_bind,hu,Result.andThen_ok];simp[Std.Legacy.Range.forIn_eq_forIn_range',part,Tryz.isAgg38,Tryz.sizeOf38,List.range',hi];by_cases h1:a1=b1 <;> by_cases h2:a2=b2 <;> by_cases h3:a3=b3 <;> simp[h1,h2,h3]
theorem Kj (w:World) (d:Nat) (a b:Int×Int×Int×Int):(Op.equalIn (d+1+1) 87 (.agg #[iQ a.1,iQ a.2.1,iQ a.2.2.1,iQ a.2.2.2]) (.agg #[iQ b.1,iQ b.2.1,iQ b.2.2.1,iQ b.2.2.2])).run Tryz.prog w=.ok (decide (a=b)) w:=by
 obtain⟨a1,a2,a3,a4⟩:=a;obtain⟨b1,b2,b3,b4⟩:=b;have hu:(underlying 87).run Tryz.prog w=.ok (.array 4 3) w:=by simp[underlying,Tryz.underlying87]
 have hi:=OJ w d;generalize hd:d+1=e at hi;unfold Op.equalIn;simp only[Sem.run_bind,hu,Result.andThen_ok];simp[Std.Legacy.Range.forIn_eq_forIn_range',part,Tryz.isAgg3,Tryz.sizeOf3,List.range',hi];by_cases h1:a1=b1 <;> by_cases h2:a2=b2 <;> by_cases h3:a3=b3 <;> by_cases h4:a4=b4 <;> simp[h1,h2,h3,h4]
abbrev Jh:=(Int×Int×Int×Int)×(e8×e8×e8)
abbrev Bn (a:Jh):Array Value:=#[iQ a.1.1,iQ a.1.2.1,iQ a.1.2.2.1,iQ a.1.2.2.2,sv a.2.1,sv a.2.2.1,sv a.2.2.2]
theorem Hx (w:World) (d:Nat) (a b:Jh):(Op.equalIn (d+1+1+1) 91 (.agg (Bn a)) (.agg (Bn b))).run Tryz.prog w=.ok (decide (a=b)) w:=by
 obtain⟨⟨a1,a2,a3,a4⟩,a5,a6,a7⟩:=a;obtain⟨⟨b1,b2,b3,b4⟩,b5,b6,b7⟩:=b;unfold Bn;dsimp only;rw[run_equalIn_struct w _ _ _ _ kr kr];have e:(Tryz.prog.fieldsOf 91).toList = [⟨ "Turn",87,0,false,"","",0⟩,⟨ "Shift",89,4,false,"","",32⟩]:=kr
 have h4:=Kj w d (a1,a2,a3,a4) (b1,b2,b3,b4);have h3:=Ki w d (a5,a6,a7) (b5,b6,b7);dsimp only at h4 h3;have x4 :∀(p q r s x y z:Value),(#[p,q,r,s,x,y,z]:Array Value).extract 0 (0+4) = #[p,q,r,s]:=λp q r s x y z=>rfl;have x3 :∀(p q r s x y z:Value),(#[p,q,r,s,x,y,z]:Array Value).extract 4 (4+3) = #[x,y,z]:=λp q r s x y z=>rfl;have z4:(sizeOf 87).run Tryz.prog w=.ok 4 w:=kr
 have z3:(sizeOf 89).run Tryz.prog w=.ok 3 w:=kr
 rw[e];simp only[Op.eqFields,ne_eq,String.reduceEq,not_false_eq_true,if_true,Sem.run_bind,part,Tryz.isAgg87,Result.andThen_ok,z4,x4,Sem.run_pure];rw[h4];simp only[Result.andThen_ok];by_cases g:(a1,a2,a3,a4)=(b1,b2,b3,b4)
 ·rw[decide_eq_true g];simp only[Sem.run_bind,Tryz.isAgg89,Result.andThen_ok,z3,x3,Sem.run_pure,if_true,if_false,Bool.not_true,iN];rw[show d+2=d+1+1 from rfl,h3];simp only[Result.andThen_ok];by_cases g2:(a5,a6,a7)=(b5,b6,b7) <;> simp[g,g2]
 ·rw[decide_eq_false g];have : ¬ (((a1,a2,a3,a4),a5,a6,a7):Jh)=((b1,b2,b3,b4),b5,b6,b7):=λc=>g (congrArg Prod.fst c);simp[this]
theorem Hz (w:World) (d:Nat) (a b:S1):(Op.equalIn (d+1+1) 48 (.agg #[sv a.1,iQ a.2.1,iQ a.2.2.1,iQ a.2.2.2]) (.agg #[sv b.1,iQ b.2.1,iQ b.2.2.1,iQ b.2.2.2])).run Tryz.prog w=.ok (decide (a=b)) w:=by
 obtain⟨a1,a2,a3,a4⟩:=a;obtain⟨b1,b2,b3,b4⟩:=b;dsimp only;rw[run_equalIn_struct w _ _ _ _ kr kr];have e:(Tryz.prog.fieldsOf 48).toList = [⟨ "Name",9,0,false,"","",0⟩,⟨ "Nominal",3,1,false,"","",16⟩,⟨ "Lower",3,2,false,"","",24⟩,⟨ "Upper",3,3,false,"","",32⟩]:=kr
 have hi:=OJ w d;have hs:=Cl w d;rw[e];simp only[Op.eqFields,ne_eq,String.reduceEq,not_false_eq_true,if_true,Sem.run_bind,part];simp[hi,hs];by_cases h1:a1=b1 <;> by_cases h2:a2=b2 <;> by_cases h3:a3=b3 <;> by_cases h4:a4=b4 <;> simp[h1,h2,h3,h4]
theorem Hw (w:World) (d:Nat) (a b:JL):(Op.equalIn (d+1+1) 80 (.agg #[iQ a.1,sv a.2]) (.agg #[iQ b.1,sv b.2])).run Tryz.prog w=.ok (decide (a=b)) w:=by
 obtain⟨a1,a2⟩:=a;obtain⟨b1,b2⟩:=b;dsimp only;rw[run_equalIn_struct w _ _ _ _ kr kr];have e:(Tryz.prog.fieldsOf 80).toList = [⟨ "Dimension",3,0,false,"","",0⟩,⟨ "Factor",38,1,false,"","",8⟩]:=kr
 have hi:=OJ w d;have hs:=Cm w d;rw[e];simp only[Op.eqFields,ne_eq,String.reduceEq,not_false_eq_true,if_true,Sem.run_bind,part,Tryz.isAgg3,Result.andThen_ok];simp[hi,hs];by_cases h1:a1=b1 <;> by_cases h2:a2=b2 <;> simp[h1,h2]
instance Fe:DecidableEq Jh:=@instDecidableEqProd _ _ inferInstance inferInstance
instance Kv:DecidableEq mX:=@instDecidableEqProd _ _ inferInstance (@instDecidableEqProd _ _ inferInstance Fe)
abbrev MP (x:mX):Array Value:=#[sv x.1,sv x.2.1,iQ x.2.2.1.1,iQ x.2.2.1.2.1,iQ x.2.2.1.2.2.1,iQ x.2.2.1.2.2.2,sv x.2.2.2.1,sv x.2.2.2.2.1,sv x.2.2.2.2.2]
theorem Hy (w:World) (d:Nat) (a b:mX):(Op.equalIn (d+1+1+1+1) 93 (.agg (MP a)) (.agg (MP b))).run Tryz.prog w=.ok (decide (a=b)) w:=by
 obtain⟨a1,a2,a3⟩:=a;obtain⟨b1,b2,b3⟩:=b;have hp:=Hx w d a3 b3;unfold MP;unfold Bn at hp;dsimp only;rw[run_equalIn_struct w _ _ _ _ kr kr];have e:(Tryz.prog.fieldsOf 93).toList = [⟨ "Name",9,0,false,"","",0⟩,⟨ "Part",9,1,false,"","",16⟩,⟨ "Place",91,2,false,"","",32⟩]:=kr
 have hs:=Cl w (d+1+1);have x7 :∀(a b p q r s x y z:Value),(#[a,b,p,q,r,s,x,y,z]:Array Value).extract 2 (2+7) = #[p,q,r,s,x,y,z]:=λa b p q r s x y z=>rfl;have z7:(sizeOf 91).run Tryz.prog w=.ok 7 w:=kr
 rw[e];simp only[Op.eqFields,ne_eq,String.reduceEq,not_false_eq_true,if_true,Sem.run_bind,part,Tryz.isAgg9,Result.andThen_ok];simp[hs];by_cases h1:a1=b1
 ·by_cases h2:a2=b2
  ·subst h1 h2;simp;rw[show d+3=d+1+1+1 from rfl,hp];simp only[Result.andThen_ok];by_cases g2:a3=b3 <;> simp[g2]
  ·simp[h1,h2]
 ·simp[h1]
end Go.Proofs.YtpjhmeicbjkcdaaGreatDoor
namespace Go.Proofs.YtpjhmeicbjkcdaaGreatDoor
open Go Go.RowKit Go.Dw
noncomputable instance Mh:DecidableEq Ex:=λa b=>Nk (a=b)
noncomputable instance Ks:DecidableEq kV:=λa b=>Nk (a=b)
instance Mg:DecidableEq V3:=@instDecidableEqProd _ _ inferInstance inferInstance
instance Kt:DecidableEq W3:=@instDecidableEqProd _ _ inferInstance (@instDecidableEqProd _ _ inferInstance inferInstance)
noncomputable instance Ku:DecidableEq jL:=λa b=>Nk (a=b)
theorem By {s:List Ch} {xo yo:Operand} {a b:V3} {q:TV->Prop} (h:q (.v (.bool (decide (a≠b))))) :
  B7 Tryz.prog s (do eqGuard .neq 122 xo yo (.agg #[iQ a.1,iQ a.2.1,iQ a.2.2]) (.agg #[iQ b.1,iQ b.2.1,iQ b.2.2]);binOp .neq 122 (.agg #[iQ a.1,iQ a.2.1,iQ a.2.2]) (.agg #[iQ b.1,iQ b.2.1,iQ b.2.2])) q:=by
 refine⟨_,λw _=>?_,h⟩;rw[Sem.run_bind,run_eqGuard_agg w _ _ _ _ _ _ Tryz.eqGuardType122];simp only[Result.andThen_ok];have e:=Kh w 9998 a b;rw[run_neq_struct,e];by_cases h1:a=b <;> simp[h1]
theorem zU {a a':Option Addr} {n c n' c':Nat} {L L':List V3} (w:World) (hL:Sl (B0 OP) 3 (Hp.whole w) a n c L) (hL':Sl (B0 OP) 3 (Hp.whole w) a' n' c' L') (hn:n < 1000000000) :
  j6 Tryz.prog 90 #[.slice a n c,.slice a' n' c'] w (v7 w (.bool (decide (L=L')))):=by
 have hlen:=hL.len;have hlen':=hL'.len;refine enterZ (cx 26) [.slice a n c,.slice a' n' c'] [.tmp 4] Tryz.func90 ?_;refine d8 (λhne=>?_) λheq=>?_
 ·refine⟨[],⟨?_,rfl⟩,λw' h=>h⟩;have:L≠L':=λe=>hne (by rw[hlen,hlen',e]);rw[decide_eq_false this]
 have hnn:n=n':=om
 refine u6.mk Nat (λk=>[(0,.v (.slice a n c)),(1,.v (.slice a' n' c')),(12,.v (iQ n)),(13,.v (iQ k))]) (λ_=>[.hp (Hp.whole w)])
  (λk=>k<=n/\L.take k=L'.take k) (λk=>n - k) 0 ⟨f8 _,rfl⟩ (v6.mk (λ_ _ h=>h) rfl rfl) ?_
 rintro k ⟨hk,ho⟩;refine d8 (λhlt=>?_) λhge=>?_
 ·have hlt':k < L.length:=om
  have hlt2:k < L'.length:=om
  refine s6.by_order cQ (.take 0 <| .take 1 <| .take 2 <| .take 3 <| .take 4 <| .take 5 <| .take 6 <| .take 7 <| .take 8 <| .done) kr ?_;refine I1 cQ (e:=122) rfl hL k rfl hlt' λb o cs hcs hR hcell=>?_;subst hR;refine T7 cQ (i:=0) rfl hcell rfl ?_;refine I1 cQ (e:=122) rfl hL' k rfl hlt2 λb o cs hcs hR hcell=>?_;subst hR;refine T7 cQ (i:=0) rfl hcell rfl ?_;refine By (a:=L[k]) (b:=L'[k]) ?_;refine d8 (λhb=>?_) λhb=>?_
  ·refine⟨[],⟨?_,rfl⟩,λw' h=>h⟩;have:L≠L':=λe=>hb (by simp[e]);rw[decide_eq_false this]
  ·refine nwo ?_;exact⟨k+1,⟨om,G5 hlt' hlt2 ho (l9.1 hb)⟩,om,v6.mk (λ_ _ h=>h) rfl rfl⟩
 ·refine⟨[],⟨?_,rfl⟩,λw' h=>h⟩;rw[decide_eq_true (J0 (show L.length<=k by omega) (show L'.length<=k by omega) ho)]
theorem UK {s:List Ch} {xo yo:Operand} {a b:mX} {q:TV->Prop} (h:q (.v (.bool (decide (a≠b))))) :
  B7 Tryz.prog s (do eqGuard .neq 93 xo yo (.agg (MP a)) (.agg (MP b));binOp .neq 93 (.agg (MP a)) (.agg (MP b))) q:=by
 refine⟨_,λw _=>?_,h⟩;rw[Sem.run_bind,run_eqGuard_agg w _ _ _ _ _ _ Tryz.eqGuardType93];simp only[Result.andThen_ok];have e:=Hy w 9996 a b;rw[run_neq_struct,e];by_cases h1:a=b <;> simp[h1]
theorem zY {a a':Option Addr} {n c n' c':Nat} {L L':List mX} (w:World) (hL:Sl (B0 dM) 9 (Hp.whole w) a n c L) (hL':Sl (B0 dM) 9 (Hp.whole w) a' n' c' L') (hn:n < 1000000000) :
  j6 Tryz.prog 95 #[.slice a n c,.slice a' n' c'] w (v7 w (.bool (decide (L=L')))):=by
 have hlen:=hL.len;have hlen':=hL'.len;refine enterZ (cx 26) [.slice a n c,.slice a' n' c'] [.tmp 4] Tryz.func95 ?_;refine d8 (λhne=>?_) λheq=>?_
 ·refine⟨[],⟨?_,rfl⟩,λw' h=>h⟩;have:L≠L':=λe=>hne (by rw[hlen,hlen',e]);rw[decide_eq_false this]
 have hnn:n=n':=om
 refine u6.mk Nat (λk=>[(0,.v (.slice a n c)),(1,.v (.slice a' n' c')),(12,.v (iQ n)),(13,.v (iQ k))]) (λ_=>[.hp (Hp.whole w)])
  (λk=>k<=n/\L.take k=L'.take k) (λk=>n - k) 0 ⟨f8 _,rfl⟩ (v6.mk (λ_ _ h=>h) rfl rfl) ?_
 rintro k ⟨hk,ho⟩;refine d8 (λhlt=>?_) λhge=>?_
 ·have hlt':k < L.length:=om
  have hlt2:k < L'.length:=om
  refine s6.by_order cQ (.take 0 <| .take 1 <| .take 2 <| .take 3 <| .take 4 <| .take 5 <| .take 6 <| .take 7 <| .take 8 <| .done) kr ?_;refine I1 cQ (e:=93) rfl hL k rfl hlt' λb o cs hcs hR hcell=>?_;subst hR;refine T7 cQ (i:=0) rfl hcell rfl ?_;refine I1 cQ (e:=93) rfl hL' k rfl hlt2 λb o cs hcs hR hcell=>?_;subst hR;refine T7 cQ (i:=0) rfl hcell rfl ?_;refine UK (a:=L[k]) (b:=L'[k]) ?_;refine d8 (λhb=>?_) λhb=>?_
  ·refine⟨[],⟨?_,rfl⟩,λw' h=>h⟩;have:L≠L':=λe=>hb (by simp[e]);rw[decide_eq_false this]
  ·refine nwo ?_;exact⟨k+1,⟨om,G5 hlt' hlt2 ho (l9.1 hb)⟩,om,v6.mk (λ_ _ h=>h) rfl rfl⟩
 ·refine⟨[],⟨?_,rfl⟩,λw' h=>h⟩;rw[decide_eq_true (J0 (show L.length<=k by omega) (show L'.length<=k by omega) ho)]
theorem UL {s:List Ch} {xo yo:Operand} {a b:S1} {q:TV->Prop} (h:q (.v (.bool (decide (a≠b))))) :
  B7 Tryz.prog s (do eqGuard .neq 48 xo yo (.agg #[sv a.1,iQ a.2.1,iQ a.2.2.1,iQ a.2.2.2]) (.agg #[sv b.1,iQ b.2.1,iQ b.2.2.1,iQ b.2.2.2]);binOp .neq 48 (.agg #[sv a.1,iQ a.2.1,iQ a.2.2.1,iQ a.2.2.2]) (.agg #[sv b.1,iQ b.2.1,iQ b.2.2.1,iQ b.2.2.2])) q:=by
 refine⟨_,λw _=>?_,h⟩;rw[Sem.run_bind,run_eqGuard_agg w _ _ _ _ _ _ Tryz.eqGuardType48];simp only[Result.andThen_ok];have e:=Hz w 9998 a b;rw[run_neq_struct,e];by_cases h1:a=b <;> simp[h1]
theorem zZ {a a':Option Addr} {n c n' c':Nat} {L L':List S1} (w:World) (hL:Sl (B0 O1) 4 (Hp.whole w) a n c L) (hL':Sl (B0 O1) 4 (Hp.whole w) a' n' c' L') (hn:n < 1000000000) :
  j6 Tryz.prog 96 #[.slice a n c,.slice a' n' c'] w (v7 w (.bool (decide (L=L')))):=by
 have hlen:=hL.len;have hlen':=hL'.len;refine enterZ (cx 26) [.slice a n c,.slice a' n' c'] [.tmp 4] Tryz.func96 ?_;refine d8 (λhne=>?_) λheq=>?_
 ·refine⟨[],⟨?_,rfl⟩,λw' h=>h⟩;have:L≠L':=λe=>hne (by rw[hlen,hlen',e]);rw[decide_eq_false this]
 have hnn:n=n':=om
 refine u6.mk Nat (λk=>[(0,.v (.slice a n c)),(1,.v (.slice a' n' c')),(12,.v (iQ n)),(13,.v (iQ k))]) (λ_=>[.hp (Hp.whole w)])
  (λk=>k<=n/\L.take k=L'.take k) (λk=>n - k) 0 ⟨f8 _,rfl⟩ (v6.mk (λ_ _ h=>h) rfl rfl) ?_
 rintro k ⟨hk,ho⟩;refine d8 (λhlt=>?_) λhge=>?_
 ·have hlt':k < L.length:=om
  have hlt2:k < L'.length:=om
  refine s6.by_order cQ (.take 0 <| .take 1 <| .take 2 <| .take 3 <| .take 4 <| .take 5 <| .take 6 <| .take 7 <| .take 8 <| .done) kr ?_;refine I1 cQ (e:=48) rfl hL k rfl hlt' λb o cs hcs hR hcell=>?_;subst hR;refine T7 cQ (i:=0) rfl hcell rfl ?_;refine I1 cQ (e:=48) rfl hL' k rfl hlt2 λb o cs hcs hR hcell=>?_;subst hR;refine T7 cQ (i:=0) rfl hcell rfl ?_;refine UL (a:=L[k]) (b:=L'[k]) ?_;refine d8 (λhb=>?_) λhb=>?_
  ·refine⟨[],⟨?_,rfl⟩,λw' h=>h⟩;have:L≠L':=λe=>hb (by simp[e]);rw[decide_eq_false this]
  ·refine nwo ?_;exact⟨k+1,⟨om,G5 hlt' hlt2 ho (l9.1 hb)⟩,om,v6.mk (λ_ _ h=>h) rfl rfl⟩
 ·refine⟨[],⟨?_,rfl⟩,λw' h=>h⟩;rw[decide_eq_true (J0 (show L.length<=k by omega) (show L'.length<=k by omega) ho)]
theorem UF {s:List Ch} {xo yo:Operand} {a b:JL} {q:TV->Prop} (h:q (.v (.bool (decide (a≠b))))) :
  B7 Tryz.prog s (do eqGuard .neq 80 xo yo (.agg #[iQ a.1,sv a.2]) (.agg #[iQ b.1,sv b.2]);binOp .neq 80 (.agg #[iQ a.1,sv a.2]) (.agg #[iQ b.1,sv b.2])) q:=by
 refine⟨_,λw _=>?_,h⟩;rw[Sem.run_bind,run_eqGuard_agg w _ _ _ _ _ _ Tryz.eqGuardType80];simp only[Result.andThen_ok];have e:=Hw w 9998 a b;rw[run_neq_struct,e];by_cases h1:a=b <;> simp[h1]
theorem zV {a a':Option Addr} {n c n' c':Nat} {L L':List JL} (w:World) (hL:Sl (B0 U0) 2 (Hp.whole w) a n c L) (hL':Sl (B0 U0) 2 (Hp.whole w) a' n' c' L') (hn:n < 1000000000) :
  j6 Tryz.prog 176 #[.slice a n c,.slice a' n' c'] w (v7 w (.bool (decide (L=L')))):=by
 have hlen:=hL.len;have hlen':=hL'.len;refine enterZ (cx 26) [.slice a n c,.slice a' n' c'] [.tmp 4] Tryz.func176 ?_;refine d8 (λhne=>?_) λheq=>?_
 ·refine⟨[],⟨?_,rfl⟩,λw' h=>h⟩;have:L≠L':=λe=>hne (by rw[hlen,hlen',e]);rw[decide_eq_false this]
 have hnn:n=n':=om
 refine u6.mk Nat (λk=>[(0,.v (.slice a n c)),(1,.v (.slice a' n' c')),(12,.v (iQ n)),(13,.v (iQ k))]) (λ_=>[.hp (Hp.whole w)])
  (λk=>k<=n/\L.take k=L'.take k) (λk=>n - k) 0 ⟨f8 _,rfl⟩ (v6.mk (λ_ _ h=>h) rfl rfl) ?_
 rintro k ⟨hk,ho⟩;refine d8 (λhlt=>?_) λhge=>?_
 ·have hlt':k < L.length:=om
  have hlt2:k < L'.length:=om
  refine s6.by_order cQ (.take 0 <| .take 1 <| .take 2 <| .take 3 <| .take 4 <| .take 5 <| .take 6 <| .take 7 <| .take 8 <| .done) kr ?_;refine I1 cQ (e:=80) rfl hL k rfl hlt' λb o cs hcs hR hcell=>?_;subst hR;refine T7 cQ (i:=0) rfl hcell rfl ?_;refine I1 cQ (e:=80) rfl hL' k rfl hlt2 λb o cs hcs hR hcell=>?_;subst hR;refine T7 cQ (i:=0) rfl hcell rfl ?_;refine UF (a:=L[k]) (b:=L'[k]) ?_;refine d8 (λhb=>?_) λhb=>?_
  ·refine⟨[],⟨?_,rfl⟩,λw' h=>h⟩;have:L≠L':=λe=>hb (by simp[e]);rw[decide_eq_false this]
  ·refine nwo ?_;exact⟨k+1,⟨om,G5 hlt' hlt2 ho (l9.1 hb)⟩,om,v6.mk (λ_ _ h=>h) rfl rfl⟩
 ·refine⟨[],⟨?_,rfl⟩,λw' h=>h⟩;rw[decide_eq_true (J0 (show L.length<=k by omega) (show L'.length<=k by omega) ho)]
theorem MG {a a':Option Addr} {n c n' c':Nat} {x y:List V3} (w:World) (hx:Sl (B0 OP) 3 (Hp.whole w) a n c x) (hy:Sl (B0 OP) 3 (Hp.whole w) a' n' c' y) (hn:n < 1000000000) :
  j6 Tryz.prog 89 #[.agg #[.slice a n c],.agg #[.slice a' n' c']] w (v7 w (.bool (decide (x=y)))):=by
 refine enterZ (cx 10) [.agg #[.slice a n c],.agg #[.slice a' n' c']] [.tmp 4] Tryz.func89 ?_;intro b2 b3;refine k7 _ (λw' hm=>zU w' (hx.mono (j7 _) (hm 0 _ rfl).whole) (hy.mono (j7 _) (hm 0 _ rfl).whole) hn) ?_;exact⟨[],⟨rfl,rfl⟩,pk [0]⟩
set_option maxRecDepth 10000 in
theorem AB {a a':Option Addr} {n c n' c':Nat} {L L':List (List V3)} (w:World) (hL:Sl pN 1 (Hp.whole w) a n c L) (hL':Sl pN 1 (Hp.whole w) a' n' c' L') (hn:n < 1000000000) (hsm :∀x∈L,x.length < 1000000) :
  j6 Tryz.prog 88 #[.slice a n c,.slice a' n' c',.func (.func 89) #[] #[]] w (v7 w (.bool (decide (L=L')))):=by
 have hlen:=hL.len;have hlen':=hL'.len;refine enterZ (cx 32) [.slice a n c,.slice a' n' c',.func (.func 89) #[] #[]] [.tmp 6] Tryz.func88 ?_;refine d8 (λhne=>?_) λheq=>?_
 ·refine⟨[],⟨?_,rfl⟩,λw' h=>h⟩;have:L≠L':=λe=>hne (by rw[hlen,hlen',e]);rw[decide_eq_false this]
 have hnn:n=n':=om
 refine u6.mk Nat (λk=>[(0,.v (.slice a n c)),(1,.v (.slice a' n' c')),(2,.v (.func (.func 89) #[] #[])),(15,.v (.slice a n c)),(16,.v (iQ n)),(17,.v (iQ k))]) (λ_=>[.hp (Hp.whole w)])
  (λk=>k<=n/\L.take k=L'.take k) (λk=>n - k) 0 ⟨f8 _,rfl⟩ (v6.mk (λ_ _ h=>h) rfl rfl) ?_
 rintro k ⟨hk,ho⟩;refine d8 (λhlt=>?_) λhge=>?_
 ·have hlt':k < L.length:=om
  have hlt2:k < L'.length:=om
  refine I1 cQ (e:=86) rfl hL k rfl hlt' λb o cs hcs hR hcell=>?_;have hR0:=hR;obtain⟨a1,n1,c1,rfl,hs1⟩:=hR;refine T7 cQ (i:=0) rfl hcell rfl ?_;intro b8;refine I1 cQ (e:=86) rfl hL' k rfl hlt2 λb o cs hcs hR hcell=>?_;have hR1:=hR;obtain⟨a2,n2,c2,rfl,hs2⟩:=hR;refine T7 cQ (i:=0) rfl hcell rfl ?_;intro b9;refine k7 _ (λw' hm=>MG w' (hs1.mono (j7 _) (hm 0 _ rfl).whole) (hs2.mono (j7 _) (hm 0 _ rfl).whole) (by have:=hs1.len;have:=hsm _ (j0 hlt');omega)) ?_;refine s8 (λhb=>?_) λhb=>?_
  ·refine⟨[],⟨?_,rfl⟩,pk [0]⟩;have:L≠L':=λe=>by subst e;simp at hb
   rw[decide_eq_false this]
  ·refine nwo ?_;exact⟨k+1,⟨om,G5 hlt' hlt2 ho (by simpa using hb)⟩,by (try dsimp only);omega,v6.mk (pj [0]) rfl rfl⟩
 ·refine⟨[],⟨?_,rfl⟩,λw' h=>h⟩;rw[decide_eq_true (J0 (show L.length<=k by omega) (show L'.length<=k by omega) ho)]
set_option maxRecDepth 10000 in
theorem KP {a a':Option Addr} {n c n' c':Nat} {x y:W3} (w:World) (hx:Sl pN 1 (Hp.whole w) a n c x.2.2) (hy:Sl pN 1 (Hp.whole w) a' n' c' y.2.2) (hs:MS x) :
  j6 Tryz.prog 87 #[.agg #[sv x.1,iQ x.2.1,.slice a n c],.agg #[sv y.1,iQ y.2.1,.slice a' n' c']] w (v7 w (.bool (decide (x=y)))):=by
 obtain⟨x1,x2,x3⟩:=x;obtain⟨y1,y2,y3⟩:=y;obtain⟨hs1,hs2⟩:=hs;have hl:=hx.len;dsimp only at hx hy hs1 hs2 hl ⊢;refine enterZ (cx 24) [.agg #[sv x1,iQ x2,.slice a n c],.agg #[sv y1,iQ y2,.slice a' n' c']] [.tmp 4] Tryz.func87 ?_;intro b2 b3;refine W8 ?_;refine d8 (λh1=>?_) λh1=>?_
 ·subst h1;refine d8 (λh2=>?_) λh2=>?_
  ·subst h2;refine k7 _ (λw' hm=>AB w' (hx.mono S6 (hm 0 _ rfl).whole) (hy.mono S6 (hm 0 _ rfl).whole) om hs2) ?_;exact⟨[],⟨congrArg Value.bool (decide_eq_decide.2 ⟨λe=>by rw[e],λe=>congrArg (λp:W3=>p.2.2) e⟩),rfl⟩,pk [0]⟩
  ·exact⟨[],⟨congrArg Value.bool (decide_eq_false (λe=>h2 (congrArg (λp:W3=>p.2.1) e))).symm,rfl⟩,pk [0]⟩
 ·exact⟨[],⟨congrArg Value.bool (decide_eq_false (λe=>h1 (congrArg (λp:W3=>p.1) e))).symm,rfl⟩,pk [0]⟩
set_option maxRecDepth 10000 in
theorem zX {a a':Option Addr} {n c n' c':Nat} {L L':List W3} (w:World) (hL:Sl bN 3 (Hp.whole w) a n c L) (hL':Sl bN 3 (Hp.whole w) a' n' c' L') (hn:n < 1000000000) (hsm :∀x∈L,MS x) :
  j6 Tryz.prog 94 #[.slice a n c,.slice a' n' c',.func (.func 87) #[] #[]] w (v7 w (.bool (decide (L=L')))):=by
 have hlen:=hL.len;have hlen':=hL'.len;refine enterZ (cx 32) [.slice a n c,.slice a' n' c',.func (.func 87) #[] #[]] [.tmp 6] Tryz.func94 ?_;refine d8 (λhne=>?_) λheq=>?_
 ·refine⟨[],⟨?_,rfl⟩,λw' h=>h⟩;have:L≠L':=λe=>hne (by rw[hlen,hlen',e]);rw[decide_eq_false this]
 have hnn:n=n':=om
 refine u6.mk Nat (λk=>[(0,.v (.slice a n c)),(1,.v (.slice a' n' c')),(2,.v (.func (.func 87) #[] #[])),(15,.v (.slice a n c)),(16,.v (iQ n)),(17,.v (iQ k))]) (λ_=>[.hp (Hp.whole w)])
  (λk=>k<=n/\L.take k=L'.take k) (λk=>n - k) 0 ⟨f8 _,rfl⟩ (v6.mk (λ_ _ h=>h) rfl rfl) ?_
 rintro k ⟨hk,ho⟩;refine d8 (λhlt=>?_) λhge=>?_
 ·have hlt':k < L.length:=om
  have hlt2:k < L'.length:=om
  refine I1 cQ (e:=83) rfl hL k rfl hlt' λb o cs hcs hR hcell=>?_;have hR0:=hR;obtain⟨a1,n1,c1,rfl,hs1⟩:=hR;refine T7 cQ (i:=0) rfl hcell rfl ?_;intro b8;refine I1 cQ (e:=83) rfl hL' k rfl hlt2 λb o cs hcs hR hcell=>?_;have hR1:=hR;obtain⟨a2,n2,c2,rfl,hs2⟩:=hR;refine T7 cQ (i:=0) rfl hcell rfl ?_;intro b9;refine k7 _ (λw' hm=>KP w' (hs1.mono S6 (hm 0 _ rfl).whole) (hs2.mono S6 (hm 0 _ rfl).whole) (hsm _ (j0 hlt'))) ?_;refine s8 (λhb=>?_) λhb=>?_
  ·refine⟨[],⟨?_,rfl⟩,pk [0]⟩;have:L≠L':=λe=>by subst e;simp at hb
   rw[decide_eq_false this]
  ·refine nwo ?_;exact⟨k+1,⟨om,G5 hlt' hlt2 ho (by simpa using hb)⟩,by (try dsimp only);omega,v6.mk (pj [0]) rfl rfl⟩
 ·refine⟨[],⟨?_,rfl⟩,λw' h=>h⟩;rw[decide_eq_true (J0 (show L.length<=k by omega) (show L'.length<=k by omega) ho)]
theorem oO {a a':Option Addr} {n c n' c':Nat} {x y:gG} (w:World) (hx:Sl (B0 U0) 2 (Hp.whole w) a n c x.2) (hy:Sl (B0 U0) 2 (Hp.whole w) a' n' c' y.2) (hn:n < 1000000000) :
  j6 Tryz.prog 92 #[.agg #[sv x.1,.slice a n c],.agg #[sv y.1,.slice a' n' c']] w (v7 w (.bool (decide (x=y)))):=by
 obtain⟨x1,x2⟩:=x;obtain⟨y1,y2⟩:=y;dsimp only at hx hy ⊢;refine enterZ (cx 17) [.agg #[sv x1,.slice a n c],.agg #[sv y1,.slice a' n' c']] [.tmp 4] Tryz.func92 ?_;intro b2 b3;refine W8 ?_;refine d8 (λh1=>?_) λh1=>?_
 ·subst h1;refine k7 _ (λw' hm=>zV w' (hx.mono (j7 _) (hm 0 _ rfl).whole) (hy.mono (j7 _) (hm 0 _ rfl).whole) hn) ?_;exact⟨[],⟨congrArg Value.bool (decide_eq_decide.2 ⟨λe=>by rw[e],λe=>congrArg (λp:gG=>p.2) e⟩),rfl⟩,pk [0]⟩
 ·exact⟨[],⟨congrArg Value.bool (decide_eq_false (λe=>h1 (congrArg (λp:gG=>p.1) e))).symm,rfl⟩,pk [0]⟩
theorem MF {a a':Option Addr} {n c n' c':Nat} {x y:kY} (w:World) (hx:Sl (B0 U0) 2 (Hp.whole w) a n c x.2.2) (hy:Sl (B0 U0) 2 (Hp.whole w) a' n' c' y.2.2) (hn:n < 1000000000) :
  j6 Tryz.prog 91 #[.agg #[sv x.1,sv x.2.1,.slice a n c],.agg #[sv y.1,sv y.2.1,.slice a' n' c']] w (v7 w (.bool (decide (x=y)))):=by
 obtain⟨x1,x2⟩:=x;obtain⟨y1,y2⟩:=y;dsimp only at hx hy ⊢;refine enterZ (cx 17) [.agg #[sv x1,sv x2.1,.slice a n c],.agg #[sv y1,sv y2.1,.slice a' n' c']] [.tmp 4] Tryz.func91 ?_;intro b2 b3;refine W8 ?_;refine d8 (λh1=>?_) λh1=>?_
 ·subst h1;refine k7 _ (λw' hm=>oO w' (hx.mono (j7 _) (hm 0 _ rfl).whole) (hy.mono (j7 _) (hm 0 _ rfl).whole) hn) ?_;exact⟨[],⟨congrArg Value.bool (decide_eq_decide.2 ⟨λe=>by rw[e],λe=>congrArg (λp:kY=>p.2) e⟩),rfl⟩,pk [0]⟩
 ·exact⟨[],⟨congrArg Value.bool (decide_eq_false (λe=>h1 (congrArg (λp:kY=>p.1) e))).symm,rfl⟩,pk [0]⟩
set_option maxRecDepth 10000 in
theorem AA {a a':Option Addr} {n c n' c':Nat} {L L':List kY} (w:World) (hL:Sl kM 3 (Hp.whole w) a n c L) (hL':Sl kM 3 (Hp.whole w) a' n' c' L') (hn:n < 1000000000) (hsm :∀x∈L,AR x.2) :
  j6 Tryz.prog 97 #[.slice a n c,.slice a' n' c',.func (.func 91) #[] #[]] w (v7 w (.bool (decide (L=L')))):=by
 have hlen:=hL.len;have hlen':=hL'.len;refine enterZ (cx 32) [.slice a n c,.slice a' n' c',.func (.func 91) #[] #[]] [.tmp 6] Tryz.func97 ?_;refine d8 (λhne=>?_) λheq=>?_
 ·refine⟨[],⟨?_,rfl⟩,λw' h=>h⟩;have:L≠L':=λe=>hne (by rw[hlen,hlen',e]);rw[decide_eq_false this]
 have hnn:n=n':=om
 refine u6.mk Nat (λk=>[(0,.v (.slice a n c)),(1,.v (.slice a' n' c')),(2,.v (.func (.func 91) #[] #[])),(15,.v (.slice a n c)),(16,.v (iQ n)),(17,.v (iQ k))]) (λ_=>[.hp (Hp.whole w)])
  (λk=>k<=n/\L.take k=L'.take k) (λk=>n - k) 0 ⟨f8 _,rfl⟩ (v6.mk (λ_ _ h=>h) rfl rfl) ?_
 rintro k ⟨hk,ho⟩;refine d8 (λhlt=>?_) λhge=>?_
 ·have hlt':k < L.length:=om
  have hlt2:k < L'.length:=om
  refine I1 cQ (e:=96) rfl hL k rfl hlt' λb o cs hcs hR hcell=>?_;have hR0:=hR;obtain⟨a1,n1,c1,rfl,hs1⟩:=hR;refine T7 cQ (i:=0) rfl hcell rfl ?_;intro b8;refine I1 cQ (e:=96) rfl hL' k rfl hlt2 λb o cs hcs hR hcell=>?_;have hR1:=hR;obtain⟨a2,n2,c2,rfl,hs2⟩:=hR;refine T7 cQ (i:=0) rfl hcell rfl ?_;intro b9;refine k7 _ (λw' hm=>MF w' (hs1.mono (j7 _) (hm 0 _ rfl).whole) (hs2.mono (j7 _) (hm 0 _ rfl).whole) (by have:=hs1.len;have:=(hsm _ (j0 hlt')).len;omega)) ?_;refine s8 (λhb=>?_) λhb=>?_
  ·refine⟨[],⟨?_,rfl⟩,pk [0]⟩;have:L≠L':=λe=>by subst e;simp at hb
   rw[decide_eq_false this]
  ·refine nwo ?_;exact⟨k+1,⟨om,G5 hlt' hlt2 ho (by simpa using hb)⟩,by (try dsimp only);omega,v6.mk (pj [0]) rfl rfl⟩
 ·refine⟨[],⟨?_,rfl⟩,λw' h=>h⟩;rw[decide_eq_true (J0 (show L.length<=k by omega) (show L'.length<=k by omega) ho)]
end Go.Proofs.YtpjhmeicbjkcdaaGreatDoor
namespace Go.Proofs.YtpjhmeicbjkcdaaGreatDoor
open Go Go.RowKit Go.Dw
def Jj (d:Nat):Prop:=∀(x y:Ex) (cs cs':List Value) (w:World),P5 d (Hp.whole w) x cs->P5 d (Hp.whole w) y cs'->AS x->j6 Tryz.prog 26 #[.agg cs.toArray,.agg cs'.toArray] w (v7 w (.bool (decide (x=y))))
set_option maxRecDepth 10000 in
theorem BI {a a':Option Addr} {n c n' c' d:Nat} {L L':List Ex} (w:World) (hL:Sl (P5 d) 5 (Hp.whole w) a n c L) (hL':Sl (P5 d) 5 (Hp.whole w) a' n' c' L') (hn:n < 1000000000) (ih:Jj d) (hsm :∀x∈L,AS x) :
  j6 Tryz.prog 101 #[.slice a n c,.slice a' n' c',.func (.func 26) #[] #[]] w (v7 w (.bool (decide (L=L')))):=by
 have hlen:=hL.len;have hlen':=hL'.len;refine enterZ (cx 32) [.slice a n c,.slice a' n' c',.func (.func 26) #[] #[]] [.tmp 6] Tryz.func101 ?_;refine d8 (λhne=>?_) λheq=>?_
 ·refine⟨[],⟨?_,rfl⟩,λw' h=>h⟩;have:L≠L':=λe=>hne (by rw[hlen,hlen',e]);rw[decide_eq_false this]
 have hnn:n=n':=om
 refine u6.mk Nat (λk=>[(0,.v (.slice a n c)),(1,.v (.slice a' n' c')),(2,.v (.func (.func 26) #[] #[])),(15,.v (.slice a n c)),(16,.v (iQ n)),(17,.v (iQ k))]) (λ_=>[.hp (Hp.whole w)])
  (λk=>k<=n/\L.take k=L'.take k) (λk=>n - k) 0 ⟨f8 _,rfl⟩ (v6.mk (λ_ _ h=>h) rfl rfl) ?_
 rintro k ⟨hk,ho⟩;refine d8 (λhlt=>?_) λhge=>?_
 ·have hlt':k < L.length:=om
  have hlt2:k < L'.length:=om
  refine I1 cQ (e:=44) rfl hL k rfl hlt' λb o cs hcs hR hcell=>?_;have hR0:=hR;obtain⟨d,rfl⟩ :∃e,d=e+1:=by
   cases d with
   | zero=>exact hR.elim
   | succ d=>exact⟨d,rfl⟩
  obtain⟨X,hX⟩ :∃X,X=L[k]:=⟨_,rfl⟩
  rw[<-hX] at hR;obtain⟨op1,f1,fac1,args1⟩:=X;obtain⟨a1,n1,c1,a2,n2,c2,rfl,_,_⟩:=hR;refine T7 cQ (i:=0) rfl hcell rfl ?_;intro b8;refine I1 cQ (e:=44) rfl hL' k rfl hlt2 λb o cs hcs hR hcell=>?_;have hR1:=hR;obtain⟨Y,hY⟩ :∃Y,Y=L'[k]:=⟨_,rfl⟩
  rw[<-hY] at hR;obtain⟨op2,f2,fac2,args2⟩:=Y;obtain⟨a3,n3,c3,a4,n4,c4,rfl,_,_⟩:=hR;refine T7 cQ (i:=0) rfl hcell rfl ?_;intro b9;refine k7 _ (λw' hm=>ih _ _ _ _ w' (q7 _ _ _ _ _ (hm 0 _ rfl).whole hR0) (q7 _ _ _ _ _ (hm 0 _ rfl).whole hR1) (hsm _ (j0 hlt'))) ?_;refine s8 (λhb=>?_) λhb=>?_
  ·refine⟨[],⟨?_,rfl⟩,pk [0]⟩;have:L≠L':=λe=>by subst e;simp at hb
   rw[decide_eq_false this]
  ·refine nwo ?_;exact⟨k+1,⟨om,G5 hlt' hlt2 ho (by simpa using hb)⟩,by (try dsimp only);omega,v6.mk (pj [0]) rfl rfl⟩
 ·refine⟨[],⟨?_,rfl⟩,λw' h=>h⟩;rw[decide_eq_true (J0 (show L.length<=k by omega) (show L'.length<=k by omega) ho)]
set_option maxRecDepth 10000 in
theorem mY (d:Nat) (ih :∀d',d=d'+1->Jj d'):Jj d:=by
 intro x y cs cs' w hx hy hs;match d,hx,hy,ih with
 | 0,hx,_,_=>exact hx.elim
 | d+1,hx,hy,ih=>
 obtain⟨x1,x2,x3,x4⟩:=x;obtain⟨y1,y2,y3,y4⟩:=y;cases hs with
 | mk hf _ hna hsa=>
 obtain⟨a1,n1,c1,a2,n2,c2,rfl,hx2,hx4⟩:=hx;obtain⟨a3,n3,c3,a4,n4,c4,rfl,hy2,hy4⟩:=hy;have hl2:=hx2.len;have hl4:=hx4.len;have hf2:=hf.len;have hi:=ih d rfl;have key:decide (Ex.mk x1 x2 x3 x4=Ex.mk y1 y2 y3 y4)=(decide (x1=y1) && (decide (x3=y3) && (decide (x2=y2) && decide (x4=y4)))):=by
  rw[L6];simp only[decide_eq_true_eq,k6,Ex.mk.injEq];exact⟨λ⟨a,b,c,d⟩=>⟨a,c,b,d⟩,λ⟨a,b,c,d⟩=>⟨a,c,b,d⟩⟩
 rw[key];refine enterZ (cx 31) [.agg #[iQ x1,sv x2.1,.slice a1 n1 c1,sv x3,.slice a2 n2 c2],.agg #[iQ y1,sv y2.1,.slice a3 n3 c3,sv y3,.slice a4 n4 c4]] [.tmp 4] Tryz.func26 ?_;intro b2 b3;refine o7 (λ_ kz=>kz _ _ ?_);refine X9 [.hp (Hp.whole w),.box b2 [iQ x1,sv x2.1,.slice a1 n1 c1,sv x3,.slice a2 n2 c2] 44,.box b3 [iQ y1,sv y2.1,.slice a3 n3 c3,sv y3,.slice a4 n4 c4] 44] rfl ?_;show Q7 _ _ _ _ _ _
 (iterate 6 refine w1j λK hK=>?_;apply hK);refine dU (by rfl) (by rfl) (by rfl) (λh5_ K hK=>?_) λh5_ K hK=>?_
 ·(iterate 4 apply hK;refine wGYj λK hK=>?_);refine W8 ?_;(iterate 2 apply hK;refine w1j λK hK=>?_);apply hK;refine dU (by rfl) (by rfl) (by rfl) (λh12_ K hK=>?_) λh12_ K hK=>?_
  ·(iterate 4 apply hK;refine wGYj λK hK=>?_);refine k7 _ (λw' hm=>oO (x:=x2) (y:=y2) w' (hx2.mono (j7 _) (hm 0 _ rfl).whole) (hy2.mono (j7 _) (hm 0 _ rfl).whole) om) ?_;(iterate 2 apply hK;refine w1j λK hK=>?_);apply hK;refine dU (by rfl) (by rfl) (by rfl) (λh19_ K hK=>?_) λh19_ K hK=>?_;focus
    (iterate 4 apply hK;refine wGYj λK hK=>?_);refine k7 _ (λw' hm=>BI w' (hx4.mono (q7 _) (hm 0 _ rfl).whole) (hy4.mono (q7 _) (hm 0 _ rfl).whole) om hi hsa) ?_
   rotate_left
   focus
    (iterate 4 apply hK;refine wGNj λK hK=>?_)
   all_goals
    (iterate 2 apply hK;refine w1j λK hK=>?_);apply hK;refine dA ?_;exact⟨[],⟨congrArg Value.bool (by rw[h5_,h12_,h19_];rfl),rfl⟩,pk [0]⟩
  ·(iterate 4 apply hK;refine wGNj λK hK=>?_);(iterate 2 apply hK;refine w1j λK hK=>?_);(iterate 5 apply hK;refine wGNj λK hK=>?_);(iterate 2 apply hK;refine w1j λK hK=>?_);apply hK;refine dA ?_;exact⟨[],⟨congrArg Value.bool (by rw[h5_,h12_];rfl),rfl⟩,pk [0]⟩
 ·(iterate 4 apply hK;refine wGNj λK hK=>?_);(iterate 2 apply hK;refine w1j λK hK=>?_);(iterate 5 apply hK;refine wGNj λK hK=>?_);(iterate 2 apply hK;refine w1j λK hK=>?_);(iterate 5 apply hK;refine wGNj λK hK=>?_);(iterate 2 apply hK;refine w1j λK hK=>?_);apply hK;refine dA ?_;exact⟨[],⟨congrArg Value.bool (by rw[h5_];rfl),rfl⟩,pk [0]⟩
theorem gH :∀d,Jj d
 | 0=>mY 0 (λd' e=>by omega)
 | d+1=>mY (d+1) (λd' e=>by
  have:d'=d:=om
  subst this;exact gH d')
end Go.Proofs.YtpjhmeicbjkcdaaGreatDoor
namespace Go.Proofs.YtpjhmeicbjkcdaaGreatDoor
open Go Go.RowKit Go.Dw
theorem ZI {a1 a3 a4 b1 b3 b4:e8} {a2 b2:Ex}:decide (((a1,a2,a3,a4):kV)=(b1,b2,b3,b4))=(decide (a1=b1) && (decide (a3=b3) && (decide (a4=b4) && decide (a2=b2)))):=by
 rw[L6];simp only[decide_eq_true_eq,k6,Prod.mk.injEq];exact⟨λ⟨a,b,c,d⟩=>⟨a,c,d,b⟩,λ⟨a,c,d,b⟩=>⟨a,b,c,d⟩⟩
set_option maxRecDepth 10000 in
theorem KF {d:Nat} {x y:kV} {x1 y1:Int} {x2 y2 x3 y3:e8} {a a' a1 a1':Option Addr} {n c n' c' n1 c1 n1' c1':Nat} (w:World) (hx:P5 d (Hp.whole w) x.2.1 [iQ x1,sv x2,.slice a n c,sv x3,.slice a1 n1 c1]) (hy:P5 d (Hp.whole w) y.2.1 [iQ y1,sv y2,.slice a' n' c',sv y3,.slice a1' n1' c1']) (hs:AS x.2.1) :
  j6 Tryz.prog 93 #[.agg #[sv x.1,iQ x1,sv x2,.slice a n c,sv x3,.slice a1 n1 c1,sv x.2.2.1,sv x.2.2.2],.agg #[sv y.1,iQ y1,sv y2,.slice a' n' c',sv y3,.slice a1' n1' c1',sv y.2.2.1,sv y.2.2.2]] w (v7 w (.bool (decide (x=y)))):=by
 obtain⟨p1,p2,p3,p4⟩:=x;obtain⟨q1,q2,q3,q4⟩:=y;dsimp only at hx hy hs ⊢;rw[ZI];have hE:=gH d;refine enterZ (cx 31) [.agg #[sv p1,iQ x1,sv x2,.slice a n c,sv x3,.slice a1 n1 c1,sv p3,sv p4],.agg #[sv q1,iQ y1,sv y2,.slice a' n' c',sv y3,.slice a1' n1' c1',sv q3,sv q4]] [.tmp 4] Tryz.func93 ?_;intro b2 b3;refine o7 (λ_ kz=>kz _ _ ?_);refine X9 [.hp (Hp.whole w),.box b2 [sv p1,iQ x1,sv x2,.slice a n c,sv x3,.slice a1 n1 c1,sv p3,sv p4] 74,.box b3 [sv q1,iQ y1,sv y2,.slice a' n' c',sv y3,.slice a1' n1' c1',sv q3,sv q4] 74] rfl ?_;show Q7 _ _ _ _ _ _
 (iterate 4 refine w1j λK hK=>?_;apply hK);refine w1j λK hK=>?_;refine W8 ?_;apply hK;refine w1j λK hK=>?_;apply hK;refine dU (by rfl) (by rfl) (by rfl) (λh5_ K hK=>?_) λh5_ K hK=>?_
 ·(iterate 4 apply hK;refine wGYj λK hK=>?_);refine W8 ?_;(iterate 2 apply hK;refine w1j λK hK=>?_);apply hK;refine dU (by rfl) (by rfl) (by rfl) (λh12_ K hK=>?_) λh12_ K hK=>?_
  ·(iterate 4 apply hK;refine wGYj λK hK=>?_);refine W8 ?_;(iterate 2 apply hK;refine w1j λK hK=>?_);apply hK;refine dU (by rfl) (by rfl) (by rfl) (λh19_ K hK=>?_) λh19_ K hK=>?_;focus
    (iterate 4 apply hK;refine wGYj λK hK=>?_);refine k7 _ (λw' hm=>hE _ _ _ _ w' (q7 _ _ _ _ _ (hm 0 _ rfl).whole hx) (q7 _ _ _ _ _ (hm 0 _ rfl).whole hy) hs) ?_
   rotate_left
   focus
    (iterate 4 apply hK;refine wGNj λK hK=>?_)
   all_goals
    (iterate 2 apply hK;refine w1j λK hK=>?_);apply hK;refine dA ?_;exact⟨[],⟨congrArg Value.bool (by rw[h5_,h12_,h19_];rfl),rfl⟩,pk [0]⟩
  ·(iterate 4 apply hK;refine wGNj λK hK=>?_);(iterate 2 apply hK;refine w1j λK hK=>?_);(iterate 5 apply hK;refine wGNj λK hK=>?_);(iterate 2 apply hK;refine w1j λK hK=>?_);apply hK;refine dA ?_;exact⟨[],⟨congrArg Value.bool (by rw[h5_,h12_];rfl),rfl⟩,pk [0]⟩
 ·(iterate 4 apply hK;refine wGNj λK hK=>?_);(iterate 2 apply hK;refine w1j λK hK=>?_);(iterate 5 apply hK;refine wGNj λK hK=>?_);(iterate 2 apply hK;refine w1j λK hK=>?_);(iterate 5 apply hK;refine wGNj λK hK=>?_);(iterate 2 apply hK;refine w1j λK hK=>?_);apply hK;refine dA ?_;exact⟨[],⟨congrArg Value.bool (by rw[h5_];rfl),rfl⟩,pk [0]⟩
set_option maxRecDepth 10000 in
theorem zW {a a':Option Addr} {n c n' c' d:Nat} {L L':List kV} (w:World) (hL:Sl (jJ d) 8 (Hp.whole w) a n c L) (hL':Sl (jJ d) 8 (Hp.whole w) a' n' c' L') (hn:n < 1000000000) (hsm :∀x∈L,XS x) :
  j6 Tryz.prog 98 #[.slice a n c,.slice a' n' c',.func (.func 93) #[] #[]] w (v7 w (.bool (decide (L=L')))):=by
 have hlen:=hL.len;have hlen':=hL'.len;refine enterZ (cx 32) [.slice a n c,.slice a' n' c',.func (.func 93) #[] #[]] [.tmp 6] Tryz.func98 ?_;refine d8 (λhne=>?_) λheq=>?_
 ·refine⟨[],⟨?_,rfl⟩,λw' h=>h⟩;have:L≠L':=λe=>hne (by rw[hlen,hlen',e]);rw[decide_eq_false this]
 have hnn:n=n':=om
 refine u6.mk Nat (λk=>[(0,.v (.slice a n c)),(1,.v (.slice a' n' c')),(2,.v (.func (.func 93) #[] #[])),(15,.v (.slice a n c)),(16,.v (iQ n)),(17,.v (iQ k))]) (λ_=>[.hp (Hp.whole w)])
  (λk=>k<=n/\L.take k=L'.take k) (λk=>n - k) 0 ⟨f8 _,rfl⟩ (v6.mk (λ_ _ h=>h) rfl rfl) ?_
 rintro k ⟨hk,ho⟩;refine d8 (λhlt=>?_) λhge=>?_
 ·have hlt':k < L.length:=om
  have hlt2:k < L'.length:=om
  refine I1 cQ (e:=74) rfl hL k rfl hlt' λb o cs hcs hR hcell=>?_;have hR0:=hR;obtain⟨X,hX⟩ :∃X,X=L[k]:=⟨_,rfl⟩
  rw[<-hX] at hR;obtain⟨xs,rfl,hx⟩:=hR;have hx0:=hx;obtain⟨Z,hZ⟩ :∃Z,Z=X.2.1:=⟨_,rfl⟩
  rw[<-hZ] at hx;obtain⟨e,rfl⟩ :∃e,d=e+1:=by
   cases d with
   | zero=>exact hx.elim
   | succ e=>exact⟨e,rfl⟩
  obtain⟨op1,f1,fac1,args1⟩:=Z;obtain⟨a1,n1,c1,a2,n2,c2,rfl,_,_⟩:=hx;have hXs:AS X.2.1:=by rw[hX];exact (hsm _ (j0 hlt')).ex
  refine T7 cQ (i:=0) rfl hcell rfl ?_;intro b8;refine I1 cQ (e:=74) rfl hL' k rfl hlt2 λb o cs hcs hR hcell=>?_;have hR1:=hR;obtain⟨Y,hY⟩ :∃Y,Y=L'[k]:=⟨_,rfl⟩
  rw[<-hY] at hR;obtain⟨ys,rfl,hy⟩:=hR;have hy0:=hy;obtain⟨U,hU⟩ :∃U,U=Y.2.1:=⟨_,rfl⟩
  rw[<-hU] at hy;obtain⟨op2,f2,fac2,args2⟩:=U;obtain⟨a3,n3,c3,a4,n4,c4,rfl,_,_⟩:=hy;refine T7 cQ (i:=0) rfl hcell rfl ?_;intro b9;refine k7 _ (λw' hm=>KF (x:=X) (y:=Y) w' (q7 _ _ _ _ _ (hm 0 _ rfl).whole hx0) (q7 _ _ _ _ _ (hm 0 _ rfl).whole hy0) hXs) ?_;refine s8 (λhb=>?_) λhb=>?_
  ·refine⟨[],⟨?_,rfl⟩,pk [0]⟩;have:L≠L':=λe=>by subst e;rw[hX,hY] at hb;simp at hb
   rw[decide_eq_false this]
  ·refine nwo ?_;exact⟨k+1,⟨om,G5 hlt' hlt2 ho (by rw[<-hX,<-hY];simpa using hb)⟩,by (try dsimp only);omega,v6.mk (pj [0]) rfl rfl⟩
 ·refine⟨[],⟨?_,rfl⟩,λw' h=>h⟩;rw[decide_eq_true (J0 (show L.length<=k by omega) (show L'.length<=k by omega) ho)]
theorem ZW {a b:jL}:decide (a=b)=(decide (a.nm=b.nm) && (decide (a.parts=b.parts) && (decide (a.insts=b.insts) && (decide (a.dims=b.dims) && (decide (a.cons=b.cons) && decide (a.reqs=b.reqs)))))):=by
 obtain⟨a1,a2,a3,a4,a5,a6⟩:=a;obtain⟨b1,b2,b3,b4,b5,b6⟩:=b;rw[L6];simp only[decide_eq_true_eq,k6,jL.mk.injEq]
set_option maxRecDepth 10000 in
theorem AU {d:Nat} {p q:jL} {cs cs':List Value} (w:World) (hp:qB d (Hp.whole w) p cs) (hq:qB d (Hp.whole w) q cs') (hs:SJ p) :
  j6 Tryz.prog 24 #[.agg cs.toArray,.agg cs'.toArray] w (v7 w (.bool (decide (p=q)))):=by
 obtain⟨a1,n1,c1,a2,n2,c2,a3,n3,c3,a4,n4,c4,a5,n5,c5,rfl,h1,h2,h3,h4,h5⟩:=hp.ex;obtain⟨u1,m1,e1,u2,m2,e2,u3,m3,e3,u4,m4,e4,u5,m5,e5,rfl,g1,g2,g3,g4,g5⟩:=hq.ex;have l1:=h1.len;have l2:=h2.len;have l3:=h3.len;have l4:=h4.len;have l5:=h5.len;have s1:=hs.np;have s2:=hs.ni;have s3:=hs.nd;have s4:=hs.nc;have s5:=hs.nr;rw[ZW];refine enterZ (cx 55) [.agg #[sv p.nm,.slice a1 n1 c1,.slice a2 n2 c2,.slice a3 n3 c3,.slice a4 n4 c4,.slice a5 n5 c5],.agg #[sv q.nm,.slice u1 m1 e1,.slice u2 m2 e2,.slice u3 m3 e3,.slice u4 m4 e4,.slice u5 m5 e5]] [.tmp 4] Tryz.func24 ?_;intro b2 b3;(iterate 4 refine o7 (λ_ kz=>kz _ _ ?_));refine X9 [.hp (Hp.whole w),.box b2 [sv p.nm,.slice a1 n1 c1,.slice a2 n2 c2,.slice a3 n3 c3,.slice a4 n4 c4,.slice a5 n5 c5] 30,.box b3 [sv q.nm,.slice u1 m1 e1,.slice u2 m2 e2,.slice u3 m3 e3,.slice u4 m4 e4,.slice u5 m5 e5] 30] rfl ?_;show Q7 _ _ _ _ _ _
 (iterate 4 refine w1j λK hK=>?_;apply hK);refine w1j λK hK=>?_;refine W8 ?_;apply hK;refine w1j λK hK=>?_;apply hK;refine dU (by rfl) (by rfl) (by rfl) (λh5_ K hK=>?_) λh5_ K hK=>?_
 ·(iterate 7 apply hK;refine wGYj λK hK=>?_);refine k7 _ (λw' hm=>zX w' (h1.mono I9 (hm 0 _ rfl).whole) (g1.mono I9 (hm 0 _ rfl).whole) om hs.sp) ?_;(iterate 2 apply hK;refine w1j λK hK=>?_);apply hK;refine dU (by rfl) (by rfl) (by rfl) (λh15_ K hK=>?_) λh15_ K hK=>?_
  ·(iterate 6 apply hK;refine wGYj λK hK=>?_);refine k7 _ (λw' hm=>zY w' (h2.mono (j7 _) (hm 0 _ rfl).whole) (g2.mono (j7 _) (hm 0 _ rfl).whole) om) ?_;(iterate 2 apply hK;refine w1j λK hK=>?_);apply hK;refine dU (by rfl) (by rfl) (by rfl) (λh24_ K hK=>?_) λh24_ K hK=>?_
   ·(iterate 4 apply hK;refine wGYj λK hK=>?_);refine k7 _ (λw' hm=>zZ w' (h3.mono (j7 _) (hm 0 _ rfl).whole) (g3.mono (j7 _) (hm 0 _ rfl).whole) om) ?_;(iterate 2 apply hK;refine w1j λK hK=>?_);apply hK;refine dU (by rfl) (by rfl) (by rfl) (λh31_ K hK=>?_) λh31_ K hK=>?_
    ·(iterate 5 apply hK;refine wGYj λK hK=>?_);refine k7 _ (λw' hm=>AA w' (h4.mono S5 (hm 0 _ rfl).whole) (g4.mono S5 (hm 0 _ rfl).whole) om hs.sc) ?_;(iterate 2 apply hK;refine w1j λK hK=>?_);apply hK;refine dU (by rfl) (by rfl) (by rfl) (λh39_ K hK=>?_) λh39_ K hK=>?_;focus
      (iterate 5 apply hK;refine wGYj λK hK=>?_);refine k7 _ (λw' hm=>zW w' (h5.mono (M8 d) (hm 0 _ rfl).whole) (g5.mono (M8 d) (hm 0 _ rfl).whole) om hs.sr) ?_
     rotate_left
     focus
      (iterate 5 apply hK;refine wGNj λK hK=>?_)
     all_goals
      (iterate 2 apply hK;refine w1j λK hK=>?_);apply hK;refine dA ?_;exact⟨[],⟨congrArg Value.bool (by rw[h5_,h15_,h24_,h31_,h39_];rfl),rfl⟩,pk [0]⟩
    ·(iterate 5 apply hK;refine wGNj λK hK=>?_);(iterate 2 apply hK;refine w1j λK hK=>?_);(iterate 6 apply hK;refine wGNj λK hK=>?_);(iterate 2 apply hK;refine w1j λK hK=>?_);apply hK;refine dA ?_;exact⟨[],⟨congrArg Value.bool (by rw[h5_,h15_,h24_,h31_];rfl),rfl⟩,pk [0]⟩
   ·(iterate 4 apply hK;refine wGNj λK hK=>?_);(iterate 2 apply hK;refine w1j λK hK=>?_);(iterate 6 apply hK;refine wGNj λK hK=>?_);(iterate 2 apply hK;refine w1j λK hK=>?_);(iterate 6 apply hK;refine wGNj λK hK=>?_);(iterate 2 apply hK;refine w1j λK hK=>?_);apply hK;refine dA ?_;exact⟨[],⟨congrArg Value.bool (by rw[h5_,h15_,h24_];rfl),rfl⟩,pk [0]⟩
  ·(iterate 6 apply hK;refine wGNj λK hK=>?_);(iterate 2 apply hK;refine w1j λK hK=>?_);(iterate 5 apply hK;refine wGNj λK hK=>?_);(iterate 2 apply hK;refine w1j λK hK=>?_);(iterate 6 apply hK;refine wGNj λK hK=>?_);(iterate 2 apply hK;refine w1j λK hK=>?_);(iterate 6 apply hK;refine wGNj λK hK=>?_);(iterate 2 apply hK;refine w1j λK hK=>?_);apply hK;refine dA ?_;exact⟨[],⟨congrArg Value.bool (by rw[h5_,h15_];rfl),rfl⟩,pk [0]⟩
 ·(iterate 7 apply hK;refine wGNj λK hK=>?_);(iterate 2 apply hK;refine w1j λK hK=>?_);(iterate 7 apply hK;refine wGNj λK hK=>?_);(iterate 2 apply hK;refine w1j λK hK=>?_);(iterate 5 apply hK;refine wGNj λK hK=>?_);(iterate 2 apply hK;refine w1j λK hK=>?_);(iterate 6 apply hK;refine wGNj λK hK=>?_);(iterate 2 apply hK;refine w1j λK hK=>?_);(iterate 6 apply hK;refine wGNj λK hK=>?_);(iterate 2 apply hK;refine w1j λK hK=>?_);apply hK;refine dA ?_;exact⟨[],⟨congrArg Value.bool (by rw[h5_];rfl),rfl⟩,pk [0]⟩
end Go.Proofs.YtpjhmeicbjkcdaaGreatDoor
namespace Go.Proofs
open Go.Shelf
def Tryz.lRe_ren:Go.Shelf.Ren:=⟨λ| 105=>199 | 212=>244 | 99=>245 | 165=>188 | 166=>129 | 170=>136 | 169=>137 | 263=>277 | 264=>278 | 206=>224 | 240=>183 | 241=>223 | 276=>216 | 277=>267 | n=>n,λ| 9=>9 | 3=>3 | 4=>4 | 20=>20 | 0=>0 | 46=>135 | 109=>303 | 5=>5 | 72=>116 | 76=>197 | 51=>247 | 146=>329 | 53=>248 | 148=>331 | 70=>114 | 37=>68 | 75=>196 | 127=>239 | 164=>263 | 80=>206 | n=>n,λ| n=>n⟩
theorem Tryz.lRe:Go.Proofs.Lays.n105 Tryz.prog Tryz.lRe_ren:={
 mixed:=kr
 f99:=Tryz.func245.trans (congrArg some kr)
 f105:=Tryz.func199.trans (congrArg some kr)
 f165:=Tryz.func188.trans (congrArg some kr)
 f166:=Tryz.func129.trans (congrArg some kr)
 f169:=Tryz.func137.trans (congrArg some kr)
 f170:=Tryz.func136.trans (congrArg some kr)
 f206:=Tryz.func224.trans (congrArg some kr)
 f212:=Tryz.func244.trans (congrArg some kr)
 f240:=Tryz.func183.trans (congrArg some kr)
 f241:=Tryz.func223.trans (congrArg some kr)
 f263:=Tryz.func277.trans (congrArg some kr)
 f264:=Tryz.func278.trans (congrArg some kr)
 f276:=Tryz.func216.trans (congrArg some kr)
 f277:=Tryz.func267.trans (congrArg some kr)
 t0:=Tryz.underlying0
 a0:=Tryz.isAgg0
 z0:=Tryz.sizeOf0
 v0:=Tryz.zeroValue0
 t3:=Tryz.underlying3
 a3:=Tryz.isAgg3
 z3:=Tryz.sizeOf3
 v3:=Tryz.zeroValue3
 t4:=Tryz.underlying4
 a4:=Tryz.isAgg4
 z4:=Tryz.sizeOf4
 v4:=Tryz.zeroValue4
 t5:=Tryz.underlying5
 a5:=Tryz.isAgg5
 z5:=Tryz.sizeOf5
 v5:=Tryz.zeroValue5
 t9:=Tryz.underlying9
 a9:=Tryz.isAgg9
 z9:=Tryz.sizeOf9
 v9:=Tryz.zeroValue9
 t20:=Tryz.underlying20
 a20:=Tryz.isAgg20
 z20:=Tryz.sizeOf20
 v20:=Tryz.zeroValue20
 t37:=Tryz.underlying68
 a37:=Tryz.isAgg68
 z37:=Tryz.sizeOf68
 v37:=Tryz.zeroValue68
 t46:=Tryz.underlying135
 a46:=Tryz.isAgg135
 z46:=Tryz.sizeOf135
 v46:=Tryz.zeroValue135
 t51:=Tryz.underlying247
 a51:=Tryz.isAgg247
 z51:=Tryz.sizeOf247
 v51:=Tryz.zeroValue247
 t53:=Tryz.underlying248
 a53:=Tryz.isAgg248
 z53:=Tryz.sizeOf248
 v53:=Tryz.zeroValue248
 t70:=Tryz.underlying114
 a70:=Tryz.isAgg114
 z70:=Tryz.sizeOf114
 v70:=Tryz.zeroValue114
 t72:=Tryz.underlying116
 a72:=Tryz.isAgg116
 z72:=Tryz.sizeOf116
 v72:=Tryz.zeroValue116
 t75:=Tryz.underlying196
 a75:=Tryz.isAgg196
 z75:=Tryz.sizeOf196
 v75:=Tryz.zeroValue196
 t76:=Tryz.underlying197
 a76:=Tryz.isAgg197
 z76:=Tryz.sizeOf197
 v76:=Tryz.zeroValue197
 t109:=Tryz.underlying303
 a109:=Tryz.isAgg303
 z109:=Tryz.sizeOf303
 v109:=Tryz.zeroValue303
 t127:=Tryz.underlying239
 a127:=Tryz.isAgg239
 z127:=Tryz.sizeOf239
 v127:=Tryz.zeroValue239
 t146:=Tryz.underlying329
 a146:=Tryz.isAgg329
 z146:=Tryz.sizeOf329
 v146:=Tryz.zeroValue329
 t148:=Tryz.underlying331
 a148:=Tryz.isAgg331
 z148:=Tryz.sizeOf331
 v148:=Tryz.zeroValue331
 t164:=Tryz.underlying263
 a164:=Tryz.isAgg263
 z164:=Tryz.sizeOf263
 v164:=Tryz.zeroValue263 }
end Go.Proofs
namespace Go.Proofs.YtpjhmeicbjkcdaaGreatDoor
open Go Go.RowKit Go.Dw
def dW (L:List e8) (i:Nat):List e8:=(z8 L.length).map λp=>if p < i\/L.length<=p+i then L.getD (L.length - 1 - p) [] else L.getD p []
theorem aD (L:List e8) (i:Nat):(dW L i).length=L.length:=by unfold dW;simp
theorem lU {L:List e8} {i p:Nat} (h:p < (dW L i).length):(dW L i)[p]=if p < i\/L.length<=p+i then L.getD (L.length - 1 - p) [] else L.getD p []:=by
 have hp:p < L.length:=by rw[aD] at h;exact h
 have:(dW L i)[p]?=some (if p < i\/L.length<=p+i then L.getD (L.length - 1 - p) [] else L.getD p []):=by unfold dW;rw[G7,qH hp];rfl
 rw[i6 h] at this;exact Y4 this
theorem PX (L:List e8):dW L 0=L:=by
 apply Fw (aD _ _);intro p h1 h2;rw[lU h1,if_neg om,i7,i6 h2];rfl
theorem TY {L:List e8} {i:Nat} (h:L.length<=2*i+1):dW L i=L.reverse:=by
 apply Fw (by rw[aD,List.length_reverse]);intro p h1 h2;have hp:p < L.length:=by rw[aD] at h1;exact h1
 rw[lU h1,List.getElem_reverse];have e:L.getD (L.length - 1 - p) []=L[L.length - 1 - p]:=by rw[i7,i6 om];rfl
 split
 ·exact e
 ·have:p=L.length - 1 - p:=om
  rw[<-e,<-this]
theorem PY {L:List e8} {i j:Nat} (hij:i < j) (hj:i+j+1=L.length) {x y:e8} (hx:x=(dW L i).getD j []) (hy:y=(dW L i).getD i []):((dW L i).set i x).set j y=dW L (i+1):=by
 have gd :∀p,p < L.length->(dW L i).getD p []=if p < i\/L.length<=p+i then L.getD (L.length - 1 - p) [] else L.getD p []:=λp hp=>by
  have h:p < (dW L i).length:=by rw[aD];exact hp
  rw[i7,i6 h,Option.getD_some,lU h]
 apply Fw (by rw[N8,N8,aD,aD]);intro p h1 h2;have hp:p < L.length:=by rw[aD] at h2;exact h2
 rw[Fv,lU h2];split
 ·rename_i e
  subst e;rw[hy,gd i om,if_neg om,if_pos om,show L.length - 1 - j=i by omega]
 ·rename_i e
  rw[Fv];split
  ·rename_i e2
   subst e2;rw[hx,gd j om,if_neg om,if_pos om,show L.length - 1 - i=j by omega]
  ·rename_i e2
   have h3:p < (dW L i).length:=by rw[aD];exact hp
   rw[lU h3];by_cases h:p < i\/L.length<=p+i
   ·rw[if_pos h,if_pos om]
   ·rw[if_neg h,if_neg om]
set_option maxRecDepth 10000 in
theorem wD {o:Dw.Os} {L:List e8} (w:World) (hin:o.h.In w) (ho:w8 fS 9 1 o L) (hl:L.length < 1000000) :
  j6 Tryz.prog 200 #[o.v] w (O6 w o.h λv h' cs=>v=.tuple #[]/\cs = []/\w8 fS 9 1 ⟨o.a,o.n,o.c,h'⟩ L.reverse):=by
 have hn:=ho.len;refine enterMZ (cx 28) [o.v] hin [] Tryz.func200 ?_;obtain⟨c0,hc0⟩ :∃c0,c0=(Hp.whole w).minus o.h:=⟨_,rfl⟩
 rw[<-hc0];refine nwo ?_;refine u6.mk (Nat×Dw.Os×Int) (λg=>[(0,.v o.v),(2,.v (iQ g.1)),(3,.v (iQ g.2.2))]) (λg=>[.hp c0,.hp g.2.1.h])
  (λg=>(2*g.1<=o.n+1/\g.2.2=(o.n:Int) - 1 - g.1)/\(g.2.1.a=o.a/\g.2.1.n=o.n/\g.2.1.c=o.c)/\w8 fS 9 1 g.2.1 (dW L g.1)) (λg=>o.n - g.1) (0,o,(o.n:Int) - 1) ⟨⟨by dsimp only;omega,by dsimp only;omega⟩,⟨rfl,rfl,rfl⟩,by dsimp only;rw[PX];exact ho⟩ (v6.mk (λ_ _ h=>h) rfl rfl) ?_
 rintro⟨i,o1,jj⟩ ⟨⟨hi,hjj⟩,⟨e1,e2,e3⟩,ho1⟩;dsimp only at *;obtain⟨oa,on,oc,h1⟩:=o1;simp only at e1 e2 e3;subst e1 e2 e3;have hrl:=aD L i;refine d8 (λhlt=>?_) λhge=>?_
 ·obtain⟨j,hj⟩ :∃j:Nat,j=o.n - 1 - i:=⟨_,rfl⟩
  have hij:i < j:=om
  have hjl:j < (dW L i).length:=om
  have hil:i < (dW L i).length:=om
  have gi:(dW L i).getD i []=(dW L i)[i]:=by rw[i7,i6 hil];rfl
  have gj:(dW L i).getD j []=(dW L i)[j]:=by rw[i7,i6 hjl];rfl
  have hst:=PY hij om gj.symm gi.symm;obtain⟨x,hx⟩ :∃x,x=(dW L i)[j]:=⟨_,rfl⟩
  obtain⟨y,hy⟩ :∃y,y=(dW L i)[i]:=⟨_,rfl⟩
  refine s6.cut Dw.Os (λg=>[(0,.v o.v),(2,.v (iQ i)),(3,.v (iQ jj))]) (λg=>[.hp c0,.hp g.h]) (λg=>(g.a=o.a/\g.n=o.n/\g.c=o.c)/\w8 fS 9 1 g (dW L (i+1))) (s6.by_order0 cQ (.take 0 <| .take 1 <| .take 2 <| .take 3 <| .take 4 <| .take 5 <| .take 6 <| .take 8 <| .take 9 <| .take 10 <| .two 7 (.run 11 <| .take 12 <| .run 13 <| .run 14 <| .run 15 <| .done) 11 (.run 7 <| .take 12 <| .run 13 <| .run 14 <| .run 15 <| .done)) kr (K9 _ 1) ?_) ?_
  ·refine aW (o:=⟨o.a,o.n,o.c,h1⟩) cQ (e:=9) rfl rfl ho1 j om hjl λb8 hb8=>?_;refine aW (o:=⟨o.a,o.n,o.c,h1⟩) cQ (e:=9) rfl rfl ho1 i rfl hil λb9 hb9=>?_;constructor
   focus
    refine rQ (o:=⟨o.a,o.n,o.c,h1⟩) (g:=λx:e8=>sv x) (λ_=>rfl) cQ (i:=1) rfl hb8 ho1 hjl rfl ?_;refine⟨sK,?_⟩;refine rQ (o:=⟨o.a,o.n,o.c,h1⟩) (g:=λx:e8=>sv x) (λ_=>rfl) cQ (i:=1) rfl hb9 ho1 hil rfl ?_
   rotate_left
   focus
    refine rQ (o:=⟨o.a,o.n,o.c,h1⟩) (g:=λx:e8=>sv x) (λ_=>rfl) cQ (i:=1) rfl hb9 ho1 hil rfl ?_;refine⟨sK,?_⟩;refine rQ (o:=⟨o.a,o.n,o.c,h1⟩) (g:=λx:e8=>sv x) (λ_=>rfl) cQ (i:=1) rfl hb8 ho1 hjl rfl ?_
   all_goals
    refine⟨sK,?_⟩;rw[<-hx,<-hy];refine aW (o:=⟨o.a,o.n,o.c,h1⟩) cQ (e:=9) rfl rfl ho1 i rfl hil λb7 hb7=>?_;refine kI (o:=⟨o.a,o.n,o.c,h1⟩) (g:=λx:e8=>sv x) (λ_=>rfl) cQ (i:=1) rfl hb7 ho1 hil rfl rfl x rfl rfl rfl λo2 f1 f2 f3 ho2=>?_;refine⟨sK,?_⟩;obtain⟨oa,on,oc,h2⟩:=o2;simp only at f1 f2 f3;subst f1 f2 f3;refine aW (o:=⟨o.a,o.n,o.c,h2⟩) cQ (e:=9) rfl rfl ho2 j om (by rw[N8];exact hjl) λb6 hb6=>?_;refine kI (o:=⟨o.a,o.n,o.c,h2⟩) (g:=λx:e8=>sv x) (λ_=>rfl) cQ (i:=1) rfl hb6 ho2 (by rw[N8];exact hjl) rfl rfl y rfl rfl rfl λo3 f1 f2 f3 ho3=>?_;rw[hx,hy,hst] at ho3;exact⟨o3,⟨⟨f1,f2,f3⟩,ho3⟩,v6.mk (λ_ _ h=>h) rfl rfl⟩
  rintro o3 ⟨⟨e1,e2,e3⟩,ho3⟩ _;dsimp only;(iterate 2 refine nwo ?_);exact⟨(i+1,o3,jj - 1),⟨⟨by dsimp only;omega,by dsimp only;omega⟩,⟨e1,e2,e3⟩,ho3⟩,by dsimp only;omega,v6.mk (λ_ _ h=>h) rfl rfl⟩
 ·rw[TY om] at ho1;exact⟨h1,[],⟨rfl,rfl,ho1⟩,λw' h=>h⟩
theorem Iq:Go.Proofs.Builder.Extra Tryz.prog Tryz.lRe_ren where
 sizeBuilder:=kr
 liesBuilder:=kr
 t5:=Tryz.underlying5
 a5:=Tryz.isAgg5
 z5:=Tryz.sizeOf5
 v5:=Tryz.zeroValue5
 infoByte:=kr
 cellsByte:=kr
 sizeByte:=kr
 neB5:=dc
theorem Ip:Go.Proofs.Builder.Extra Tryz.prog Tryz.lJo_ren where
 sizeBuilder:=kr
 liesBuilder:=kr
 t5:=Tryz.underlying5
 a5:=Tryz.isAgg5
 z5:=Tryz.sizeOf5
 v5:=Tryz.zeroValue5
 infoByte:=kr
 cellsByte:=kr
 sizeByte:=kr
 neB5:=dc
theorem Ha (k:Nat):Lib.repeatL [48] k=p7 k 48:=by
 induction k with
 | zero=>rfl
 | succ k ih=>show [48]++Lib.repeatL [48] k=_;rw[ih,qF];rfl
theorem ED (k:Nat) (hk:k < 1000) (w:World):j6 Tryz.prog 199 #[sv [48],iQ k] w (v7 w (sv (p7 k 48))):=by
 have hcon:=Any.strings_Repeat Tryz.lRe Iq (bs [48]) k w om (by rw[B6];show 1*k<=_;omega);change Calls Tryz.prog 199 _ _ _ at hcon
 refine⟨enters_of (args:=#[sv [48],iQ k]) Tryz.func199 kr rfl,hcon.mono ?_⟩;rintro e w' ⟨rfl,hb⟩;refine v7.ofBelow ?_ hb;rw[jV,Ha];rfl
theorem zI {o:Dw.Os} {L:List e8} (w:World) (sep:e8) (hin:o.h.In w) (ho:w8 fS 9 1 o L) (h0:0 < L.length) (hl:L.length < 1000000) (hj:(Lib.join L sep).length < 1000000) :
  j6 Tryz.prog 133 #[o.v,sv sep] w (v7 w (sv (Lib.join L sep))):=by
 have hlen:=w8.len ho;obtain⟨b,hb⟩:=ho.addr h0;obtain⟨a,n,c,hh⟩:=o;dsimp only at hb hlen hin;subst hb;subst hlen;have hms:(L.map bs).map (λx=>x.data.toList)=L:=by rw[List.map_map];exact (List.map_congr_left λx _=>rfl).trans (List.map_id L)
 have hfl :∀(j:Nat) x,(L.map bs)[j]?=some x->(L.flatMap fS)[j]?=some (.string x):=by
  have e:L.flatMap fS=(L.map bs).map Value.string:=by
   clear hms ho h0 hl hj;induction L with
   | nil=>rfl
   | cons x r ih=>rw[I6,N7,N7,ih];rfl
  intro j x hx;rw[e,G7,hx];rfl
 have hown:=ho;have hcap:L.length<=c:=by
  rcases ho.2.2 with ⟨g,_⟩ | ⟨b',arr,e1,_,hnc,_⟩
  ·have:L.length=0:=g;omega
  ·exact hnc
 have hblk:b < w.heap.size:=by
  obtain⟨b',arr,e1,hbb,_,h4⟩:=iK.cell ho.2 (hfl 0 (bs (L[0]'h0)) (by rw[G7,i6 h0];rfl));cases e1;have:=hin _ _ hbb;exact (Array.getElem?_eq_some_iff.1 this).1
 have hcon:=Any.strings_Join Tryz.lJo Ip b 0 c (L.map bs) (bs sep) w (λj x hx=>by
  obtain⟨b',arr,e1,_,_,h4⟩:=iK.cell ho.2 (hfl j x hx);cases e1;rw[y8];exact hin.whole.cell h4) hblk (by rw[l7];omega) (by rw[l7];exact hcap) (by rw[hms,jV];omega)
 change Calls Tryz.prog 133 _ _ _ at hcon
 rw[l7] at hcon;refine⟨enters_of (args:=#[(⟨some ⟨b,0,none⟩,L.length,c,hh⟩:Dw.Os).v,sv sep]) Tryz.func133 kr rfl,hcon.mono ?_⟩;rintro e w' ⟨rfl,hbel⟩;refine v7.ofBelow ?_ hbel;rw[hms,jV];rfl
end Go.Proofs.YtpjhmeicbjkcdaaGreatDoor
namespace Go.Proofs.YtpjhmeicbjkcdaaGreatDoor
open Go Go.Shelf Go.RowKit Go.Dw
def LV (z:Int):Prop:=-9223372036854775808<=z/\z<=9223372036854775807
theorem fU (z:Int) (hz:LV z) (w:World) (hP:dT (Hp.whole w)):j6 Tryz.prog 58 #[iQ z] w (v7 w (sv (zT z))):=by
 have hcon:=Any.strconv_Itoa Tryz.lIt z hz.1 hz.2 w hP.at;change Calls Tryz.prog 58 _ _ _ at hcon
 refine⟨enters_of (args:=#[iQ z]) Tryz.func58 kr rfl,hcon.mono ?_⟩;rintro e w' ⟨rfl,k,os,rfl⟩;have e1:(⟨(Lib.itoa z).toArray⟩:ByteArray)=bs (zT z):=by
  unfold Lib.itoa zT bs;split
  ·rfl
  ·rw[show z.toNat=z.natAbs by omega]
 rw[e1];refine v7.ofBelow rfl ⟨rfl,rfl,rfl,?_,λj hj=>?_⟩
 ·show w.heap.size<=(w.heap++os).size
  rw[Array.size_append];omega
 ·exact Sort.heap_grow_old (w.drewN k) os hj
theorem CZ :∀L:List e8,Lib.join L [44,32]=O5 L
 | []=>rfl
 | [x]=>by show mW [44,32] [x]=x;simp[mW]
 | x::y::r=>by
  have ih:=CZ (y::r);unfold Lib.join at ih ⊢;show _=x++44::32::O5 (y::r)
  rw[<-ih];simp[mW,List.intersperse]
set_option maxRecDepth 10000 in
theorem RB {h:Hp} {b:Nat} {dv:Value} {t:e8} {a:Option Addr} {n c:Nat} {L:List Int} (w:World) (hin:h.In w) (hI:kW h b dv t) (hL:Sl (B0 Gf) 1 ((Hp.whole w).minus h) a n c L) (hP:dT ((Hp.whole w).minus h)) (h0:0 < L.length) (hn:L.length < 1000) (hz :∀z∈L,LV z) (hlen:t.length+(dL L).length < 1000000) :
  j6 Tryz.prog 59 #[pQ b,.slice a n c] w (O6 w h λ_ h' cs=>cs = []/\kW h' b dv (t++dL L)):=by
 have hll:=hL.len;refine enterMZ (cx 24) [pQ b,.slice a n c] hin [] Tryz.func59 ?_;obtain⟨c0,hc0⟩ :∃c0,c0=(Hp.whole w).minus h:=⟨_,rfl⟩
 rw[<-hc0] at hL hP ⊢;refine u6.mk (Nat×Dw.Os) (λg=>[(0,.v (pQ b)),(4,.v g.2.v),(7,.v (.slice a n c)),(8,.v (iQ n)),(9,.v (iQ g.1))]) (λg=>[.hp c0,.hp h,.hp g.2.h])
  (λg=>g.1<=n/\w8 fS 9 1 g.2 ((L.take g.1).map zT)) (λg=>n - g.1) (0,Dw.Os.nil) ⟨f8 _,w8.nil _ _ _⟩ (v6.mk (λ_ _ h=>Ok.emp h) rfl rfl) ?_
 rintro⟨k,o⟩ ⟨hk,ho⟩;dsimp only at hk ho ⊢;refine d8 (λh1=>?_) λh1=>?_
 ·have hkl:k < L.length:=om
  obtain⟨z,hzk⟩ :∃z,z=L[k]:=⟨_,rfl⟩
  have hz1:LV z:=hz z (by rw[hzk];exact j0 hkl);refine I1 cQ (e:=3) rfl hL k rfl hkl λb9 o9 cs hcs hR hcell=>?_;rw[<-hzk] at hR;subst hR;refine lQ 0 (hcell 0 _ rfl) ?_;refine k7 (sv (zT z)) (λw' hm=>fU z hz1 w' (hP.mono (hm 0 _ rfl).whole)) ?_;intro b16;refine gF (f:=fS) cQ (e:=9) rfl (i:=2) rfl ho (j:=3) (zT z) rfl rfl rfl rfl (by rw[l7,j8];omega) λo2 ho2=>?_;refine nwo ?_;refine⟨(k+1,o2),⟨by dsimp only;omega,?_⟩,by dsimp only;omega,v6.mk (pj [0,1,2]) rfl rfl⟩;dsimp only;rw[I8 L k hkl,E9,<-hzk];exact ho2
 ·have hk2:k=L.length:=om
  subst hk2;rw[p9] at ho;have hcj:=CZ (L.map zT);have hit:(dL L).length=(O5 (L.map zT)).length+2:=by unfold dL;simp
  refine k7 _ (λw' hm=>zI w' [44,32] (hm 2 _ rfl) ho (by rw[l7];exact h0) (by rw[l7];omega) (by rw[hcj];omega)) ?_;rw[hcj];intro b22;refine aL (i:=1) (j:=3) dc rfl hI (L:=[[40],O5 (L.map zT),[41]]) rfl rfl sQ (by simp;omega) λv h' hI2=>?_;refine⟨h',[],⟨rfl,?_⟩,pk [0,1]⟩;have e:[[40],O5 (L.map zT),[41]].flatten=dL L:=by unfold dL;simp
  rw[<-e];exact hI2
end Go.Proofs.YtpjhmeicbjkcdaaGreatDoor
namespace Go.Proofs.YtpjhmeicbjkcdaaGreatDoor
open Go Go.RowKit Go.Dw
theorem kW.dv {h:Hp} {b:Nat} {dv:Value} {t:e8} (hI:kW h b dv t):h.cell? ⟨b,2,none⟩=some dv:=by
 obtain⟨fl,o,rfl,_⟩:=hI;exact (Hp.le_join_l _ _).cell (J3 b (cs:=[fl,o.v,dv]) _ rfl)
theorem Cg (s:e8):Y9 s [45]=true↔s.getD 0 0=45:=by
 unfold Y9;cases s with
 | nil=>simp
 | cons c r=>simp
theorem cW {α:Type} {g:α->e8} {L:List α} {k:Nat} (hk:k < L.length):(L.take (k+1)).flatMap g=(L.take k).flatMap g++g L[k]:=by
 rw[I8 L k hk,V1];simp
theorem sB {α:Type} {g:α->e8} {L:List α} {k:Nat} (hk:k < L.length):((L.take k).flatMap g).length+(g L[k]).length<=(L.flatMap g).length:=by
 have:=congrArg F7 (cW (g:=g) hk);rw[d6] at this;rw[<-this];have e:L.flatMap g=(L.take (k+1)).flatMap g++(L.drop (k+1)).flatMap g:=by rw[<-V1,E4]
 rw[e,d6];omega
set_option maxRecDepth 10000 in
set_option maxHeartbeats 1000000 in
theorem CR {h:Hp} {b:Nat} {ad:Option Addr} {nd cd:Nat} {D:List S1} {t fc:e8} {a:Option Addr} {n c:Nat} {L:List JL} (w:World) (hin:h.In w) (hI:kW h b (.slice ad nd cd) t) (hL:Sl (B0 U0) 2 ((Hp.whole w).minus h) a n c L) (hD:Sl (B0 O1) 4 ((Hp.whole w).minus h) ad nd cd D)
  (hn:L.length < 1000000) (hdn :∀d∈D,d.1.length < 1000000) (hi :∀x∈L,0<=x.1/\x.1 < D.length) (hlen:t.length+(bZ (D6 D) (fc,L)).length < 1000000000) :
  j6 Tryz.prog 60 #[pQ b,.agg #[sv fc,.slice a n c]] w (O6 w h λ_ h' cs=>cs = []/\kW h' b (.slice ad nd cd) (t++bZ (D6 D) (fc,L))):=by
 have hll:=hL.len;have hfl:(bZ (D6 D) (fc,L)).length=fc.length+(L.flatMap (dV (D6 D))).length+2:=by unfold bZ;simp;omega
 refine enterMZ (cx 47) [pQ b,.agg #[sv fc,.slice a n c]] hin [] Tryz.func60 ?_;obtain⟨c0,hc0⟩ :∃c0,c0=(Hp.whole w).minus h:=⟨_,rfl⟩
 rw[<-hc0] at hL hD ⊢;intro b3 b12;refine aL (i:=1) (j:=3) dc rfl hI (L:=[[91],fc]) rfl rfl sQ (by simp;omega) λv h1 hI1=>?_;refine u6.mk (Nat×Hp) (λg=>[(0,.v (pQ b)),(15,.v (.slice a n c)),(16,.v (iQ n)),(17,.v (iQ g.1))]) (λg=>[.hp c0,.hp g.2])
  (λg=>g.1<=n/\kW g.2 b (.slice ad nd cd) (t++((91::fc)++(L.take g.1).flatMap (dV (D6 D))))) (λg=>n - g.1) (0,h1) ⟨f8 _,by simpa using hI1⟩ (v6.mk (pj [0,1]) rfl rfl) ?_
 rintro⟨k,h1⟩ ⟨hk,hI1⟩;dsimp only at hk hI1 ⊢;refine d8 (λg1=>?_) λg1=>?_
 ·have hkl:k < L.length:=om
  obtain⟨⟨ix,x⟩,hx⟩ :∃x,x=L[k]:=⟨_,rfl⟩
  obtain⟨hx0,hx1⟩:=hi (ix,x) (by rw[hx];exact j0 hkl);dsimp only at hx0 hx1;obtain⟨m,rfl⟩:=aS hx0;have hm:m < D.length:=om
  have hfle:=sB (g:=dV (D6 D)) hkl;obtain⟨d,hd⟩ :∃d,d=D[m]:=⟨_,rfl⟩
  have hdl:d.1.length < 1000000:=hdn d (by rw[hd];exact j0 hm);have hnm:D6 D (m:Int)=P1 d.1:=by
   unfold D6;rw[i7,show (m:Int).toNat=m from rfl,i6 hm,hd];rfl
  obtain⟨y,hy⟩ :∃y,y=(if Y9 x [45]=true then x.drop ([45]:e8).length else x):=⟨_,rfl⟩
  obtain⟨f,hf⟩ :∃f,f=Y9 x [45]:=⟨_,rfl⟩
  have htr:dV (D6 D) L[k]=(if f=true then [[32,45,32],y,[32,42,32],P1 d.1].flatten else [[32,43,32],y,[32,42,32],P1 d.1].flatten):=by
   rw[<-hx];unfold dV;dsimp only;rw[hnm,hy,hf];by_cases hp:Y9 x [45]=true
   ·rw[if_pos hp,if_pos hp,if_pos ((Cg x).1 hp)];simp
   ·rw[if_neg hp,if_neg hp,if_neg (λe=>hp ((Cg x).2 e))];simp
  rw[htr] at hfle;refine I1 cQ (e:=80) rfl hL k rfl hkl λb9 o9 cs hcs hR hcell2=>?_;rw[<-hx] at hR;have hR:cs = [iQ m,sv x]:=hR;subst hR;refine T7 cQ (i:=0) rfl hcell2 rfl ?_;intro b5;refine k7 (.tuple #[sv y,.bool f]) (λw' hm=>by rw[hy,hf];exact mQ x [45] w') ?_;refine s8 (λg3=>?_) λg3=>?_;focus
   rw[if_pos g3] at htr hfle;refine s6.by_order0 cQ (.take 0 <| .take 1 <| .take 2 <| .take 3 <| .take 4 <| .take 5 <| .take 7 <| .take 8 <| .run 6 <| .take 9 <| .take 10 <| .take 11 <| .run 12 <| .run 13 <| .run 14 <| .done) kr (K9 _ 1) ?_;refine lQ 1 hI1.dv ?_;refine⟨sK,?_⟩;refine I1 cQ (e:=48) rfl hD m rfl hm λb9 o9 cs hcs hR hcell4=>?_;rw[<-hd] at hR;subst hR;refine lQ 0 (hcell4 0 _ rfl) ?_;refine k7 _ (λw' hm=>Z0 d.1 hdl w') ?_;refine⟨sK,?_⟩;intro b41;refine⟨sK,?_⟩;refine aL (i:=1) (j:=3) dc rfl hI1 (L:=[[32,45,32],y,[32,42,32],P1 d.1]) rfl rfl sQ (by rw[d6,d6,d7];omega) λv h2 hI2=>?_
  rotate_left
  focus
   rw[if_neg (by rw[g3];decide)] at htr hfle;refine s6.by_order0 cQ (.take 0 <| .take 1 <| .take 2 <| .take 3 <| .take 4 <| .take 5 <| .take 7 <| .take 8 <| .run 6 <| .take 9 <| .take 10 <| .take 11 <| .run 12 <| .run 13 <| .run 14 <| .done) kr (K9 _ 1) ?_;refine lQ 1 hI1.dv ?_;refine⟨sK,?_⟩;refine I1 cQ (e:=48) rfl hD m rfl hm λb9 o9 cs hcs hR hcell4=>?_;rw[<-hd] at hR;subst hR;refine lQ 0 (hcell4 0 _ rfl) ?_;refine k7 _ (λw' hm=>Z0 d.1 hdl w') ?_;refine⟨sK,?_⟩;intro b41;refine⟨sK,?_⟩;refine aL (i:=1) (j:=3) dc rfl hI1 (L:=[[32,43,32],y,[32,42,32],P1 d.1]) rfl rfl sQ (by rw[d6,d6,d7];omega) λv h2 hI2=>?_
  all_goals
   refine⟨sK,?_⟩;refine nwo ?_;refine⟨(k+1,h2),⟨by dsimp only;omega,?_⟩,by dsimp only;omega,v6.mk (pj [0,1]) rfl rfl⟩;dsimp only;rw[cW hkl,htr,<-o6,<-o6,o6 t];exact hI2
 ·have hk2:k=L.length:=om
  subst hk2;rw[p9] at hI1;intro b45;refine aL (i:=1) (j:=2) dc rfl hI1 (L:=[[93]]) rfl rfl sQ (by have e1:([[93]]:List e8).flatten.length=1:=rfl;rw[e1];simp only[d6,d7];omega) λv h2 hI2=>?_;refine⟨h2,[],⟨rfl,?_⟩,pk [0,1]⟩;have e:t++((91::fc)++L.flatMap (dV (D6 D)))++[[93]].flatten=t++bZ (D6 D) (fc,L):=by unfold bZ;simp
  rw[<-e];exact hI2
end Go.Proofs.YtpjhmeicbjkcdaaGreatDoor
namespace Go.Proofs.YtpjhmeicbjkcdaaGreatDoor
open Go Go.RowKit Go.Dw
theorem kW.buf {h:Hp} {b:Nat} {dv:Value} {t:e8} (hI:kW h b dv t) :∃a c,h.cell? ⟨b,1,none⟩=some (.slice a t.length c)/\Sl (B0 AW) 1 h a t.length c t:=by
 obtain⟨fl,o,rfl,hdj,_,ho⟩:=hI;have hn:=ho.len;have hs:=(w8.sl (f:=AW) (sz:=1) (λ_=>rfl) dc ho).mono (j7 _) (Hp.le_join_r hdj);rw[hn] at hs;refine⟨o.a,o.c,(Hp.le_join_l _ _).cell (J3 b (cs:=[fl,o.v,dv]) _ ?_),hs⟩;rw[<-hn];rfl
theorem QX {h:Hp} {b:Nat} {dv:Value} {t:e8} (w:World) (hin:h.In w) (hI:kW h b dv t):j6 Tryz.prog 136 #[pQ b] w (v7 w (iQ t.length)):=by
 obtain⟨a,c,hc,_⟩:=hI.buf;refine enterZ (cx 8) [pQ b] [.tmp 2] Tryz.func136 ?_;refine lQ 0 (hin.whole.cell hc) ?_;exact⟨[],⟨rfl,rfl⟩,pk [0]⟩
end Go.Proofs.YtpjhmeicbjkcdaaGreatDoor
namespace Go.Proofs.YtpjhmeicbjkcdaaGreatDoor
open Go Go.RowKit Go.Dw Go.Shelf
set_option maxHeartbeats 1000000 in
set_option maxRecDepth 100000 in
theorem PP (b g cap:Nat) (cur:Array Value) (l:e8) (w:World) (h0:l≠[]) (hc:w.cell? ⟨b,1,none⟩=some (.slice (some ⟨g,0,none⟩) l.length cap)) (hg:w.heap[g]?=some (.cells cur 5 (0,0))) (hlc:l.length<=cap) (hcm:cap<=maxLen) (hcs:cur.size=cap)
  (hcells :∀j (x:UInt8),l[j]?=some x->w.cell? ⟨g,j,none⟩=some (.int .u8 x.toNat)) :
  Calls Tryz.prog 137 #[pQ b] w λe w'=>e=.returned (sv l)/\w'=w.drew.freeze ⟨g,0,none⟩ l.length:=by
 have hl0:l.length≠0:=by simpa using h0
 have c1:w.drew.cell? ⟨b,1,none⟩=some (.slice (some ⟨g,0,none⟩) l.length cap):=hc;have hSD:(Builtin.unsafeSliceData_ #[68] 239 #[.slice (some ⟨g,0,none⟩) l.length cap]).run Tryz.prog w.drew=.ok (pQ g) w.drew:=
  Lib.run_unsafeSliceData_row _ _ _ _ _ _ om
 have hUS:(Builtin.unsafeString_ #[239,3] 9 #[pQ g,iQ l.length]).run Tryz.prog w.drew=.ok (.string ⟨l.toArray⟩) (w.drew.freeze ⟨g,0,none⟩ l.length):=by
  refine Lib.run_unsafeString_row w.drew 239 3 9 5 Tryz.underlying239 kr g cur.size (by have hg':w.drew.heap[g]?=some (.cells cur 5 (0,0)):=hg;simp[World.shape?,hg']) l h0 om (by unfold maxLen at hcm;omega) ?_;intro j x hx;have:=hcells j x hx;rw[Addr.add_mk,y8];exact this
 have mixed:Tryz.prog.follows Departure.mixedOrders=true:=kr
 go_enter Tryz.func137,Tryz.ntmps137
 go_wp2
 go_region_o
 all_goals (go_wp2;go_ret;exact⟨rfl,rfl⟩)
end Go.Proofs.YtpjhmeicbjkcdaaGreatDoor
namespace Go.Proofs.YtpjhmeicbjkcdaaGreatDoor
open Go Go.RowKit Go.Dw Go.Shelf
theorem IE (w:World) (g n:Nat) {cs:Array Value} {T:Nat} (hg:w.heap[g]?=some (.cells cs T (0,0))):(w.freeze ⟨g,0,none⟩ n).heap[g]?=some (.cells cs T (0,n))/\(∀k,k≠g->(w.freeze ⟨g,0,none⟩ n).heap[k]?=w.heap[k]?)/\(w.freeze ⟨g,0,none⟩ n).heap.size=w.heap.size/\(w.freeze ⟨g,0,none⟩ n).os=w.os/\(w.freeze ⟨g,0,none⟩ n).tape=w.tape/\(w.freeze ⟨g,0,none⟩ n).output=w.output/\(w.freeze ⟨g,0,none⟩ n).drawn=w.drawn:=by
 unfold World.freeze;by_cases h0:n=0
 ·rw[if_pos h0,h0];exact⟨hg,λ_ _=>rfl,rfl,rfl,rfl,rfl,rfl⟩
 ·rw[if_neg h0];refine⟨?_,λk hk=>?_,sQ,rfl,rfl,rfl,rfl⟩
  ·simp[Array.getElem?_modify,hg]
  ·simp[Array.getElem?_modify,hk.symm]
theorem Ok.freeze {w0 w:World} {s:List Ch} (hok:Ok w0 s w) {i:Nat} {h:Hp} (hi:m8 s i=some (.hp h)) {g n:Nat} {cs:Array Value} {T:Nat} (hg:h g=some (.cells cs T (0,0))) :
  Ok w0 (x9 s i (.hp (h.upd g (.cells cs T (0,n))))) (w.freeze ⟨g,0,none⟩ n):=by
 have hgw:w.heap[g]?=some (.cells cs T (0,0)):=hok.mem i _ hi g _ hg;obtain⟨f1,f2,f3,f4,f5,f6,f7⟩:=IE w g n hgw;refine hok.upd hi _ f4 f5 f6 (by rw[f3];exact k8 _) (by first | exact k8 _ | (rw[f7];exact k8 _)) (λk _ hk=>f2 k λe=>?_) ?_ λk hk=>?_
 ·subst e;rw[show (Ch.hp h).h k=h k from rfl,hg] at hk;cases hk
 ·intro k x hk;simp only[Ch.h,Hp.upd] at hk;split at hk
  ·rename_i e;subst e;cases hk;exact f1
  ·rename_i e;rw[f2 k e];exact hok.mem i _ hi k x hk
 ·left
  simp only[Ch.h,Hp.upd] at hk ⊢;split at hk
  ·rename_i e;subst e;rw[hg];simp
  ·exact hk
theorem OR :∀t:e8,t.flatMap AW=t.map λc:UInt8=>Value.int .u8 c.toNat
 | []=>rfl
 | c::r=>by
  show Value.int .u8 c.toNat::r.flatMap AW=_
  rw[OR r];rfl
set_option maxRecDepth 10000 in
theorem FY {h:Hp} {b:Nat} {dv:Value} {t:e8} (w:World) (hin:h.In w) (hI:kW h b dv t) (h0:t≠[]) :
  j6 Tryz.prog 137 #[pQ b] w (O6 w h λv h' cs=>cs = []/\v=sv t/\∃ys k',h'=(Ch.box b ys 118).h.join k'/\(Ch.box b ys 118).h.dj k'):=by
 refine⟨enters_of (args:=#[pQ b]) Tryz.func137 kr rfl,?_⟩;obtain⟨fl,o,rfl,hdj,_,ho⟩:=hI;have hn:=ho.len;rcases ho.2.2 with ⟨hz,_⟩ | ⟨g,arr,e1,e2,e3,e4,e5,e6⟩
 ·rw[hn] at hz;exact absurd (M0.1 hz) h0
 ·have hok:Ok w [.hp ((Hp.whole w).minus ((Ch.box b [fl,o.v,dv] 118).h.join o.h)),.hp ((Ch.box b [fl,o.v,dv] 118).h.join o.h)] w:=Ok.start2 w hin;have hgj:((Ch.box b [fl,o.v,dv] 118).h.join o.h) g=some (.cells arr 5 (0,0)):=Hp.le_join_r hdj g _ e2;have hcb:w.cell? ⟨b,1,none⟩=some (.slice (some ⟨g,0,none⟩) t.length o.c):=by
   refine hin.cell ((Hp.le_join_l _ _).cell (J3 b (cs:=[fl,o.v,dv]) _ ?_));rw[<-hn,<-e1];rfl
  rw[E3] at e5 e6;have hcells :∀j (x:UInt8),t[j]?=some x->w.cell? ⟨g,j,none⟩=some (.int .u8 x.toNat):=by
   intro j x hx;refine hin.cell ?_;rw[Hp.cell_block hgj];have h1:(t.flatMap AW)[j]?=some (.int .u8 x.toNat):=by
    have e:=OR t;rw[e,G7,hx];rfl
   have hj:j < o.n:=by
    rw[hn];exact (q9.1 hx).1
   rw[<-e6,Na hj] at h1;rw[<-Array.getElem?_toList];exact h1
  refine (PP b g o.c arr t w h0 hcb (hin g _ hgj) om e4 e5 hcells).mono ?_;rintro e w' ⟨rfl,rfl⟩;have hbg:(Ch.box b [fl,o.v,dv] 118).h g=none:=(hdj g).resolve_right (by rw[e2];simp);refine⟨_,_,[],rfl,Ok.freeze (n:=t.length) hok.drew (i:=1) rfl hgj,rfl,rfl,[fl,o.v,dv],o.h.upd g (.cells arr 5 (0,t.length)),?_,λk=>?_⟩
  ·funext k
   by_cases hk:k=g
   ·subst hk;unfold Hp.join Hp.upd;rw[if_pos rfl,hbg];simp
   ·unfold Hp.join Hp.upd;rw[if_neg hk,if_neg hk]
  ·by_cases hk:k=g
   ·subst hk;exact .inl hbg
   ·rcases hdj k with h | h
    ·exact .inl h
    ·right;unfold Hp.upd;rw[if_neg hk];exact h
def xR (t:e8):e8×Int:=if 65536 < t.length then ([],5) else (t,0)
theorem vE {h:Hp} {b:Nat} {dv:Value} {t:e8} (w:World) (hin:h.In w) (hI:kW h b dv t) (h0:t≠[]) :
  j6 Tryz.prog 62 #[pQ b] w (O6 w h λv h' cs=>cs = []/\v=.tuple #[sv (xR t).1,iQ (xR t).2]/\∃ys k',h'=(Ch.box b ys 118).h.join k'/\(Ch.box b ys 118).h.dj k'):=by
 refine enterMZ (cx 13) [pQ b] hin [.tmp 2,.tmp 3] Tryz.func62 ?_;refine k7 _ (λw' hm=>QX w' (hm 1 _ rfl) hI) ?_;unfold xR;refine d8 (λh1=>?_) λh1=>?_
 ·rw[if_pos om];obtain⟨fl,o,rfl,hdj,_⟩:=hI;exact⟨_,[],⟨rfl,rfl,_,_,rfl,hdj⟩,pk [0,1]⟩
 ·rw[if_neg om];refine l6 (i:=1) rfl (λw0 w1 hok=>FY w1 (hok.mem 1 _ rfl) hI h0) ?_;rintro _ h2 _ ⟨rfl,rfl,hX⟩;exact⟨h2,[],⟨rfl,rfl,hX⟩,pk [0,1]⟩
end Go.Proofs.YtpjhmeicbjkcdaaGreatDoor
namespace Go.Proofs.YtpjhmeicbjkcdaaGreatDoor
open Go
theorem IY (A B:e8):bO (A++47::B) A.length=(cM A && (cM B && (decide (1 < T8 B) && decide (I5 (T8 A) (T8 B)=1)))):=by
 unfold bO;have h1 : ¬ (A++47::B).length=A.length:=by rw[d6,d7];omega
 have h2:(A++47::B).drop (A.length+1)=B:=by rw[<-R2,FJ rfl];rfl
 rw[if_neg h1,Y7 rfl,h2]
structure XT (x:e8) (sg:Bool) (t:e8):Prop where
 e:x=(if sg=true then [45] else [])++t
 d :∃k,Fs t k/\bO t k=true
 z:sg=true->t≠[48]
end Go.Proofs.YtpjhmeicbjkcdaaGreatDoor
namespace Go.Proofs.YtpjhmeicbjkcdaaGreatDoor
open Go
theorem aY {s:e8} (h:H8 s=true):PW s/\s.length<=40/\0 < s.length:=by
 unfold H8 at h;rw[k6,k6,decide_eq_true_eq,decide_eq_true_eq] at h;obtain⟨h0,h1,h2⟩:=h;refine⟨λc hc hb=>?_,h1,G2.2 h0⟩;have h3:s.any jW=false:=by simpa using h2
 have:=J8.1 h3 c hc;unfold jW at this;rw[U8,decide_eq_true_eq,decide_eq_true_eq] at this;unfold MN at hb;omega
end Go.Proofs.YtpjhmeicbjkcdaaGreatDoor
namespace Go.Proofs.YtpjhmeicbjkcdaaGreatDoor
open Go
theorem Bc {n:Nat} (h:n < 10 ^ 200) :∃k,Fs (Lib.decDigits n) k/\bO (Lib.decDigits n) k=true:=by
 obtain⟨h1,h2,h3,h4,h5⟩:=cX n;refine⟨_,⟨v8 (h5 200 dc h) dc,_,[],h1,h3,rfl,.inl rfl⟩,?_⟩;unfold bO cM;rw[if_pos rfl,decide_eq_true h3,F6];rcases w6 n with rfl | hn
 ·rw[Lib.decDigits_one dc];decide
 ·rw[decide_eq_false (h4 hn)];simp
def XY (n:Int):Nat->Ex->Prop
 | 0,_=>False
 | d+1,.mk op f fac args=>bH n op f fac args.length=0/\∀y∈args,XY n d y
theorem OU {n:Int} {d:Nat} (h :∀y k,(M9 n d k y).1=0->XY n d y) :∀(L:List Ex) (k:Nat),(Z2 (M9 n d) k L).1=0->∀y∈L,XY n d y
 | [],_,_=>λy hy=>by cases hy
 | x::L,k,he=>by
  unfold Z2 at he;by_cases h0:(M9 n d k x).1≠0
  ·rw[if_pos h0] at he;exact absurd he h0
  ·rw[if_neg h0] at he;intro y hy;rcases A8.1 hy with rfl | hy
   ·exact h y k (l9.1 h0)
   ·exact OU h L _ he y hy
theorem xC {n:Int} :∀(d k:Nat) (x:Ex),(M9 n d k x).1=0->XY n d x
 | 0,k,x,h=>by
  unfold M9 at h;exact absurd h (show ¬ (15:Int)=0 by decide)
 | d+1,k,.mk op f fac args,h=>by
  unfold M9 at h;split at h
  ·exact absurd h (show ¬ (6:Int)=0 by decide)
  ·split at h
   ·rename_i h2;exact absurd h h2
   ·rename_i h2
    exact⟨l9.1 h2,OU (λy k hy=>xC d k y hy) args _ h⟩
structure wR (n:Int) (f:gG):Prop where
 c:I7 f.1=0
 l:f.2.length<=64
 t :∀i,i < f.2.length->lJ n f.2 i=0
theorem ID {n:Int} {f:gG} (h:jD n f=0):wR n f:=by
 unfold jD at h;split at h
 ·rename_i h2;exact absurd h h2
 ·rename_i h1
  split at h
  ·exact absurd h dc
  ·rename_i h2
   exact⟨l9.1 h1,om,V8.1 h⟩
theorem Dd {l:List JL} {i:Nat} (h:i < l.length):l.getD i (0,[])=l[i]:=by rw[i7,i6 h];rfl
theorem wR.at {n:Int} {f:gG} (g:wR n f) {i:Nat} (hi:i < f.2.length):0<=f.2[i].1/\f.2[i].1 < n/\I7 f.2[i].2=0/\f.2[i].2≠[48]/\(0 < i->(f.2.getD (i - 1) (0,[])).1 < f.2[i].1):=by
 have h:=g.t i hi;unfold lJ at h;dsimp only at h;rw[Dd hi] at h;split at h
 ·exact absurd h dc
 ·rename_i h1
  split at h
  ·exact absurd h dc
  ·rename_i h2
   split at h
   ·rename_i h3;exact absurd h h3
   ·rename_i h3
    split at h
    ·exact absurd h dc
    ·rename_i h4
     exact⟨om,om,l9.1 h3,h4,λh0=>by omega⟩
theorem wR.all {n:Int} {f:gG} (g:wR n f) :∀t∈f.2,(0<=t.1/\t.1 < n)/\I7 t.2=0:=by
 intro t ht;obtain⟨i,hi,rfl⟩:=Q1.1 ht;obtain⟨h1,h2,h3,_⟩:=g.at hi;exact⟨⟨h1,h2⟩,h3⟩
theorem yS {n:Int} {f:gG} {fac:e8} {args:List Ex} (h:bH n 0 f fac args.length=0):wR n f/\fac = []/\args = []:=by
 unfold bH at h;rw[if_neg dc,if_pos rfl] at h;split at h
 ·exact absurd h dc
 ·rename_i h1
  refine⟨ID h,j9 λc=>h1 (.inr c),?_⟩;cases args with
  | nil=>rfl
  | cons x l=>exact absurd (.inl sQ) h1
theorem KZ {n op:Int} {f:gG} {fac:e8} {args:List Ex} (h0:op≠0) (h:bH n op f fac args.length=0):(1<=op/\op<=5)/\f=([],[])/\(op≠2->fac = [])/\(op=2->I7 fac=0)/\0 < args.length/\((op=2\/op=5)->args.length=1):=by
 unfold bH at h;rw[if_neg h0] at h;split at h
 ·exact absurd h dc
 ·rename_i h1
  split at h
  ·exact absurd h dc
  ·rename_i h2
   split at h
   ·exact absurd h dc
   ·rename_i h3
    have hf1:f.1 = []:=j9 λc=>h2 (.inl (.inl c));have hf2:f.2 = []:=by
     cases hh:f.2 with
     | nil=>rfl
     | cons x l=>exact absurd (.inl (.inr (by rw[hh];simp))) h2
    refine⟨om,by rw[<-hf1,<-hf2],λh5=>j9 λc=>h2 (.inr ⟨c,h5⟩),λh5=>?_,?_,λh5=>?_⟩
    ·rw[if_pos h5] at h;exact h
    ·exact F8 λc=>h3 (.inl c)
    ·have hp:args.length≠0:=λc=>h3 (.inl c);have : ¬ 1 < args.length:=λc=>h3 (.inr ⟨h5,c⟩);omega
end Go.Proofs.YtpjhmeicbjkcdaaGreatDoor
namespace Go.Proofs.YtpjhmeicbjkcdaaGreatDoor
open Go Go.RowKit Go.Dw
def Hq (z:Int):ByteArray×Value:=(bs (jP z),iQ z)
def lE:List Int:=[1,2,3,4,5]
set_option maxRecDepth 10000 in
theorem xJ (w:World):j6 Tryz.prog 135 #[] w (fD w λv cs=>∃b h,v=.map (some b)/\cs = [.hp h]/\DF h b (lE.map Hq)):=by
 refine enterZ (cx 3) [] [.tmp 0] Tryz.func135 ?_;refine Kd λb h0 hM0=>?_;refine FT (i:=1) Tryz.underlying203 Tryz.underlying9 rfl hM0 _ _ rfl λh1 hM1=>?_;refine FT (i:=1) Tryz.underlying203 Tryz.underlying9 rfl hM1 _ _ (by decide +kernel) λh2 hM2=>?_;refine FT (i:=1) Tryz.underlying203 Tryz.underlying9 rfl hM2 _ _ (by decide +kernel) λh3 hM3=>?_;refine FT (i:=1) Tryz.underlying203 Tryz.underlying9 rfl hM3 _ _ (by decide +kernel) λh4 hM4=>?_;refine FT (i:=1) Tryz.underlying203 Tryz.underlying9 rfl hM4 _ _ (by decide +kernel) λh5 hM5=>?_;exact⟨[.hp h5],⟨b,h5,rfl,rfl,hM5⟩,pk [0,1]⟩
theorem eZ (x:e8) :∀(L:List e8),O5 (L++[x])=if L = [] then x else O5 L++(44::32::x)
 | []=>rfl
 | [y]=>rfl
 | y::z::L=>by
  have ih:=eZ x (z::L);rw[if_neg sQ] at ih;rw[if_neg sQ];show y++44::32::O5 ((z::L)++[x])=(y++44::32::O5 (z::L))++_
  rw[ih,o6];rfl
theorem tA :∀(A B:List e8),(O5 A).length<=(O5 (A++B)).length
 | [],_=>f8 _
 | [x],[]=>k8 _
 | [x],y::B=>by
  show x.length<=(x++44::32::O5 (y::B)).length
  rw[d6];omega
 | x::y::A,B=>by
  have:=tA (y::A) B;show (x++44::32::O5 (y::A)).length<=(x++44::32::O5 ((y::A)++B)).length
  simp only[d6,d7];omega
set_option maxRecDepth 10000 in
set_option maxHeartbeats 2000000 in
theorem CT {b:Nat} {ad:Option Addr} {nd cd:Nat} {D:List S1} (hdn :∀d∈D,d.1.length < 1000000) :∀(d e:Nat) (h:Hp) (t:e8) (x:Ex) (cs:List Value) (w:World),h.In w->kW h b (.slice ad nd cd) t->XY D.length d x->AS x->P5 e ((Hp.whole w).minus h) x cs->Sl (B0 O1) 4 ((Hp.whole w).minus h) ad nd cd D->t.length+(E7 (D6 D) d x).length < 1000000000->
  j6 Tryz.prog 61 #[pQ b,.agg cs.toArray] w (O6 w h λ_ h' cs=>cs = []/\kW h' b (.slice ad nd cd) (t++E7 (D6 D) d x)):=by
 intro d;induction d with
 | zero=>intro e h t x cs w _ _ hg;exact hg.elim
 | succ d ih=>
  intro e h t x cs w hin hI hg hx he hD hlen;match e,he with
  | e+1,he=>
  obtain⟨op,f,fac,args⟩:=x;obtain⟨a,n,c,a1,n1,c1,rfl,hf,ha⟩:=he;cases hx with
  | mk hxf hxs hxn hxa=>
  obtain⟨hnode,hall⟩:=hg;have hla:=ha.len;refine enterMZ (cx 61) [pQ b,.agg #[iQ op,sv f.1,.slice a n c,sv fac,.slice a1 n1 c1]] hin [] Tryz.func61 ?_;obtain⟨c0,hc0⟩ :∃c0,c0=(Hp.whole w).minus h:=⟨_,rfl⟩
  rw[<-hc0] at hf ha hD ⊢;intro b3;refine d8 (λh1=>?_) λh1=>?_
  ·subst h1;obtain⟨g,_,_⟩:=yS hnode;have e1:E7 (D6 D) (d+1) (.mk 0 f fac args)=bZ (D6 D) f:=if_pos rfl;rw[e1] at hlen ⊢;refine l6 (i:=1) rfl (λw0 w1 hok=>CR (fc:=f.1) (L:=f.2) w1 (hok.mem 1 _ rfl) hI (hf.mono (j7 _) (Hp.le_minus (hok.mem 0 _ rfl).whole (hok.disj 0 1 _ _ dc rfl rfl))) (hD.mono (j7 _) (Hp.le_minus (hok.mem 0 _ rfl).whole (hok.disj 0 1 _ _ dc rfl rfl)))
    (by have:=g.l;omega) hdn (λt ht=>(g.all t ht).1) hlen) ?_
   rintro _ h2 _ ⟨rfl,hI2⟩;exact⟨h2,[],⟨rfl,hI2⟩,pk [0,1]⟩
  obtain⟨ho,_,hfa,_,_,_⟩:=KZ h1 hnode;have hxp:E7 (D6 D) (d+1) (.mk op f fac args)=jP op++((if op=2 then 32::(fac++[32]) else [])++(40::(O5 (args.map (E7 (D6 D) d))++[41]))):=if_neg h1;rw[hxp] at hlen ⊢;simp only[d6,d7,d9] at hlen;refine call (λw' hm=>xJ w') ?_;rintro _ _ ⟨bm,hm0,rfl,rfl,hM⟩;refine Gy (i:=3) Tryz.underlying203 rfl hM λr kk hIt=>?_;have hmem:op∈lE:=by
   have:op=1\/op=2\/op=3\/op=4\/op=5:=om
   rcases this with rfl | rfl | rfl | rfl | rfl <;> decide
  refine u6.mk (List Int×Hp×Hp×Option (ByteArray×Value)) (λg=>[(0,.v (pQ b)),(3,.bx 2 0),(16,.v (pQ r))]) (λg=>[.hp c0,.hp g.2.1,.box b3 [iQ op,sv f.1,.slice a n c,sv fac,.slice a1 n1 c1] 44,.hp hm0,.hp g.2.2.1])
   (λg=>Ix hm0 g.2.2.1 r bm (g.1.map Hq) g.2.2.2/\g.1.Sublist lE/\kW g.2.1 b (.slice ad nd cd) (t++if op∈g.1 then [] else jP op)) (λg=>g.1.length) (lE,h,kk,none) ⟨hIt,List.Sublist.refl _,by rw[if_pos hmem,p8];exact hI⟩ (v6.mk (pj [0,1,2,3,4]) rfl rfl) ?_
  rintro⟨L,h,hi,cur⟩ ⟨hIt,hsub,hI⟩;dsimp only at hIt hsub hI ⊢;refine En (i:=3) (j:=4) rfl rfl hIt (λh0=>?_) λl1 k v l2 hi' hsp hIt'=>?_
  ·have hL:L = []:=List.map_eq_nil_iff.1 h0;subst hL;rw[if_neg sQ] at hI;refine d8 (λh2=>?_) λh2=>?_
   ·rw[if_pos h2] at hlen;simp only[d6,d7,d9] at hlen;intro b36;refine aL (i:=1) (j:=5) dc rfl hI (L:=[[32],fac,[32]]) rfl rfl sQ (by simp;omega) λv h hI=>?_;obtain⟨t2,ht2⟩ :∃t2,t2=t++(jP op++(if op=2 then 32::(fac++[32]) else [])):=⟨_,rfl⟩
    have e2:t++jP op++[[32],fac,[32]].flatten=t2:=by rw[ht2,if_pos h2];simp
    have hl2:t2.length=t.length+((jP op).length+(fac.length+2)):=by rw[<-e2];simp[nX]
    rw[e2] at hI;intro b39;refine aL (i:=1) (j:=6) dc rfl hI (L:=[[40]]) rfl rfl sQ (by have e1:([[40]]:List e8).flatten.length=1:=rfl;omega) λv h3 hI3=>?_;refine u6.mk (Nat×Hp) (λg=>[(0,.v (pQ b)),(42,.v (.slice a1 n1 c1)),(43,.v (iQ n1)),(44,.v (iQ g.1))]) (λg=>[.hp c0,.hp g.2])
     (λg=>g.1<=n1/\kW g.2 b (.slice ad nd cd) (t2++40::O5 ((args.take g.1).map (E7 (D6 D) d)))) (λg=>n1 - g.1) (0,h3) ⟨f8 _,hI3⟩ (v6.mk (pj [0,1]) rfl rfl) ?_
    rintro⟨k,h3⟩ ⟨hk,hI3⟩;dsimp only at hk hI3 ⊢;refine d8 (λg1=>?_) λg1=>?_
    ·have hkl:k < args.length:=om
     obtain⟨y,hy⟩ :∃y,y=args[k]:=⟨_,rfl⟩
     have hym:y∈args:=by rw[hy];exact j0 hkl
     have htk:(args.take (k+1)).map (E7 (D6 D) d)=(args.take k).map (E7 (D6 D) d)++[E7 (D6 D) d y]:=by rw[I8 args k hkl,E9,<-hy];rfl
     have hcl:=tA ((args.take (k+1)).map (E7 (D6 D) d)) ((args.drop (k+1)).map (E7 (D6 D) d));rw[<-E9,E4] at hcl;rw[htk,eZ] at hcl;refine I1 cQ (e:=44) rfl ha k rfl hkl λb9 o9 cs hcs hR hcell=>?_;rw[<-hy] at hR;match e,hR with
     | e+1,hR=>
     obtain⟨op',f',fac',args'⟩:=y;have hR':=hR;obtain⟨a',n',c',a1',n1',c1',rfl,hf',ha'⟩:=hR;refine T7 cQ (i:=0) rfl hcell rfl ?_;intro b7;refine d8 (λg3=>?_) λg3=>?_
     ·intro b52;have hne:(args.take k).map (E7 (D6 D) d)≠[]:=by
       intro c;have:=congrArg F7 c;rw[l7,j8,d9] at this;omega
      rw[if_neg hne,d6,d7,d7] at hcl;refine aL (i:=1) (j:=3) dc rfl hI3 (L:=[[44,32]]) rfl rfl sQ (by have e1:([[44,32]]:List e8).flatten.length=2:=rfl;rw[d6,d7];omega) λv h4 hI4=>?_;refine l6 (i:=1) rfl (λw0 w1 hok=>ih (e+1) h4 _ _ _ w1 (hok.mem 1 _ rfl) hI4 (hall _ hym) (hxa _ hym) (q7 _ _ _ _ _ (Hp.le_minus (hok.mem 0 _ rfl).whole (hok.disj 0 1 _ _ dc rfl rfl)) hR') (hD.mono (j7 _) (Hp.le_minus (hok.mem 0 _ rfl).whole (hok.disj 0 1 _ _ dc rfl rfl)))
       (by have e1:([[44,32]]:List e8).flatten.length=2:=rfl;rw[d6,d6,d7];omega)) ?_
      rintro _ h5 _ ⟨rfl,hI5⟩;refine nwo ?_;refine⟨(k+1,h5),⟨by dsimp only;omega,?_⟩,by dsimp only;omega,v6.mk (pj [0,1]) rfl rfl⟩;dsimp only;rw[htk,eZ,if_neg hne];have e1:t2++40::(O5 ((args.take k).map (E7 (D6 D) d))++44::32::E7 (D6 D) d (.mk op' f' fac' args'))=t2++40::O5 ((args.take k).map (E7 (D6 D) d))++([[44,32]]:List e8).flatten++E7 (D6 D) d (.mk op' f' fac' args'):=sQ
      rw[e1];exact hI5
     ·have hk0:k=0:=om
      subst hk0;refine l6 (i:=1) rfl (λw0 w1 hok=>ih (e+1) h3 _ _ _ w1 (hok.mem 1 _ rfl) hI3 (hall _ hym) (hxa _ hym) (q7 _ _ _ _ _ (Hp.le_minus (hok.mem 0 _ rfl).whole (hok.disj 0 1 _ _ dc rfl rfl)) hR') (hD.mono (j7 _) (Hp.le_minus (hok.mem 0 _ rfl).whole (hok.disj 0 1 _ _ dc rfl rfl)))
       (by
        have hcl:(E7 (D6 D) d (.mk op' f' fac' args')).length<=_:=hcl;rw[d6];show t2.length+((40::([]:e8)).length)+_ < _
        have e1:(40::([]:e8)).length=1:=rfl;omega)) ?_
      rintro _ h5 _ ⟨rfl,hI5⟩;refine nwo ?_;refine⟨(0+1,h5),⟨by dsimp only;omega,?_⟩,by dsimp only;omega,v6.mk (pj [0,1]) rfl rfl⟩;dsimp only;rw[htk];have e1:t2++40::O5 ((args.take 0).map (E7 (D6 D) d)++[E7 (D6 D) d (.mk op' f' fac' args')])=t2++40::O5 ((args.take 0).map (E7 (D6 D) d))++E7 (D6 D) d (.mk op' f' fac' args'):=by simp[O5]
      rw[e1];exact hI5
    ·have hk2:k=args.length:=om
     subst hk2;rw[p9] at hI3;intro b59;refine aL (i:=1) (j:=2) dc rfl hI3 (L:=[[41]]) rfl rfl sQ (by have e1:([[41]]:List e8).flatten.length=1:=rfl;rw[d6,d7];omega) λv h4 hI4=>?_;refine⟨h4,[],⟨rfl,?_⟩,pk [0,1]⟩;have e1:t++(jP op++((if op=2 then 32::(fac++[32]) else [])++(40::(O5 (args.map (E7 (D6 D) d))++[41]))))=t2++40::O5 (args.map (E7 (D6 D) d))++([[41]]:List e8).flatten:=by rw[ht2];simp
     rw[e1];exact hI4
   ·rw[if_neg h2] at hlen;simp only[d9] at hlen;obtain⟨t2,ht2⟩ :∃t2,t2=t++(jP op++(if op=2 then 32::(fac++[32]) else [])):=⟨_,rfl⟩
    have e2:t++jP op=t2:=by rw[ht2,if_neg h2];simp
    have hl2:t2.length=t.length+(jP op).length:=by rw[<-e2];simp
    rw[e2] at hI;intro b39;refine aL (i:=1) (j:=5) dc rfl hI (L:=[[40]]) rfl rfl sQ (by have e1:([[40]]:List e8).flatten.length=1:=rfl;omega) λv h3 hI3=>?_;refine u6.mk (Nat×Hp) (λg=>[(0,.v (pQ b)),(42,.v (.slice a1 n1 c1)),(43,.v (iQ n1)),(44,.v (iQ g.1))]) (λg=>[.hp c0,.hp g.2])
     (λg=>g.1<=n1/\kW g.2 b (.slice ad nd cd) (t2++40::O5 ((args.take g.1).map (E7 (D6 D) d)))) (λg=>n1 - g.1) (0,h3) ⟨f8 _,hI3⟩ (v6.mk (pj [0,1]) rfl rfl) ?_
    rintro⟨k,h3⟩ ⟨hk,hI3⟩;dsimp only at hk hI3 ⊢;refine d8 (λg1=>?_) λg1=>?_
    ·have hkl:k < args.length:=om
     obtain⟨y,hy⟩ :∃y,y=args[k]:=⟨_,rfl⟩
     have hym:y∈args:=by rw[hy];exact j0 hkl
     have htk:(args.take (k+1)).map (E7 (D6 D) d)=(args.take k).map (E7 (D6 D) d)++[E7 (D6 D) d y]:=by rw[I8 args k hkl,E9,<-hy];rfl
     have hcl:=tA ((args.take (k+1)).map (E7 (D6 D) d)) ((args.drop (k+1)).map (E7 (D6 D) d));rw[<-E9,E4] at hcl;rw[htk,eZ] at hcl;refine I1 cQ (e:=44) rfl ha k rfl hkl λb9 o9 cs hcs hR hcell=>?_;rw[<-hy] at hR;match e,hR with
     | e+1,hR=>
     obtain⟨op',f',fac',args'⟩:=y;have hR':=hR;obtain⟨a',n',c',a1',n1',c1',rfl,hf',ha'⟩:=hR;refine T7 cQ (i:=0) rfl hcell rfl ?_;intro b7;refine d8 (λg3=>?_) λg3=>?_
     ·intro b52;have hne:(args.take k).map (E7 (D6 D) d)≠[]:=by
       intro c;have:=congrArg F7 c;rw[l7,j8,d9] at this;omega
      rw[if_neg hne,d6,d7,d7] at hcl;refine aL (i:=1) (j:=3) dc rfl hI3 (L:=[[44,32]]) rfl rfl sQ (by have e1:([[44,32]]:List e8).flatten.length=2:=rfl;rw[d6,d7];omega) λv h4 hI4=>?_;refine l6 (i:=1) rfl (λw0 w1 hok=>ih (e+1) h4 _ _ _ w1 (hok.mem 1 _ rfl) hI4 (hall _ hym) (hxa _ hym) (q7 _ _ _ _ _ (Hp.le_minus (hok.mem 0 _ rfl).whole (hok.disj 0 1 _ _ dc rfl rfl)) hR') (hD.mono (j7 _) (Hp.le_minus (hok.mem 0 _ rfl).whole (hok.disj 0 1 _ _ dc rfl rfl)))
       (by have e1:([[44,32]]:List e8).flatten.length=2:=rfl;rw[d6,d6,d7];omega)) ?_
      rintro _ h5 _ ⟨rfl,hI5⟩;refine nwo ?_;refine⟨(k+1,h5),⟨by dsimp only;omega,?_⟩,by dsimp only;omega,v6.mk (pj [0,1]) rfl rfl⟩;dsimp only;rw[htk,eZ,if_neg hne];have e1:t2++40::(O5 ((args.take k).map (E7 (D6 D) d))++44::32::E7 (D6 D) d (.mk op' f' fac' args'))=t2++40::O5 ((args.take k).map (E7 (D6 D) d))++([[44,32]]:List e8).flatten++E7 (D6 D) d (.mk op' f' fac' args'):=sQ
      rw[e1];exact hI5
     ·have hk0:k=0:=om
      subst hk0;refine l6 (i:=1) rfl (λw0 w1 hok=>ih (e+1) h3 _ _ _ w1 (hok.mem 1 _ rfl) hI3 (hall _ hym) (hxa _ hym) (q7 _ _ _ _ _ (Hp.le_minus (hok.mem 0 _ rfl).whole (hok.disj 0 1 _ _ dc rfl rfl)) hR') (hD.mono (j7 _) (Hp.le_minus (hok.mem 0 _ rfl).whole (hok.disj 0 1 _ _ dc rfl rfl)))
       (by
        have hcl:(E7 (D6 D) d (.mk op' f' fac' args')).length<=_:=hcl;rw[d6];show t2.length+((40::([]:e8)).length)+_ < _
        have e1:(40::([]:e8)).length=1:=rfl;omega)) ?_
      rintro _ h5 _ ⟨rfl,hI5⟩;refine nwo ?_;refine⟨(0+1,h5),⟨by dsimp only;omega,?_⟩,by dsimp only;omega,v6.mk (pj [0,1]) rfl rfl⟩;dsimp only;rw[htk];have e1:t2++40::O5 ((args.take 0).map (E7 (D6 D) d)++[E7 (D6 D) d (.mk op' f' fac' args')])=t2++40::O5 ((args.take 0).map (E7 (D6 D) d))++E7 (D6 D) d (.mk op' f' fac' args'):=by simp[O5]
      rw[e1];exact hI5
    ·have hk2:k=args.length:=om
     subst hk2;rw[p9] at hI3;intro b59;refine aL (i:=1) (j:=2) dc rfl hI3 (L:=[[41]]) rfl rfl sQ (by have e1:([[41]]:List e8).flatten.length=1:=rfl;rw[d6,d7];omega) λv h4 hI4=>?_;refine⟨h4,[],⟨rfl,?_⟩,pk [0,1]⟩;have e1:t++(jP op++((if op=2 then 32::(fac++[32]) else [])++(40::(O5 (args.map (E7 (D6 D) d))++[41]))))=t2++40::O5 (args.map (E7 (D6 D) d))++([[41]]:List e8).flatten:=by rw[ht2];simp
     rw[e1];exact hI4
  ·obtain⟨L1,L2,rfl,e1,e2⟩:=List.map_eq_append_iff.1 hsp;obtain⟨z,L2,rfl,e3,e4⟩:=List.map_eq_cons_iff.1 e2;have hkz:k=bs (jP z):=(congrArg Prod.fst e3).symm;have hvz:v=iQ z:=(congrArg Prod.snd e3).symm;subst hkz;subst hvz;have hnd:(L1++z::L2).Nodup:=hsub.nodup dc;refine As (i:=3) (j:=4) rfl rfl hIt' ?_;have hsub2:(L1++L2).Sublist lE:=List.Sublist.trans (List.Sublist.append (List.Sublist.refl L1) (List.sublist_cons_self z L2)) hsub;rw[<-e1,<-e4,<-E9] at hIt';refine d8 (λh3=>?_) λh3=>?_
   ·subst h3;have hnm:z∉L1++L2:=by
     rw[List.nodup_append] at hnd;obtain⟨_,h2,h3⟩:=hnd;rw[List.nodup_cons] at h2;intro hm;rcases G1.1 hm with hm | hm
     ·exact h3 z hm z sQ rfl
     ·exact h2.1 hm
    rw[if_pos sQ,p8] at hI;intro b28;refine aL (i:=1) (j:=5) dc rfl hI (L:=[jP z]) rfl rfl sQ (by simp;omega) λv h2 hI2=>?_;refine⟨(L1++L2,h2,hi',_),⟨hIt',hsub2,?_⟩,by dsimp only;simp,v6.mk (pj [0,1,2,3,4]) rfl rfl⟩;dsimp only;rw[if_neg hnm];have e5:([jP z]:List e8).flatten=jP z:=sQ
    rw[<-e5];exact hI2
   ·refine⟨(L1++L2,h,hi',_),⟨hIt',hsub2,?_⟩,by dsimp only;simp,v6.mk (pj [0,1,2,3,4]) rfl rfl⟩;dsimp only;have e6:(if op∈L1++L2 then ([]:e8) else jP op)=if op∈L1++z::L2 then [] else jP op:=by
     have:op∈L1++z::L2↔op∈L1++L2:=by
      simp only[G1,A8];exact⟨λh=>h.elim .inl λh=>h.elim (λc=>absurd c.symm h3) .inr,λh=>h.elim .inl λh=>.inr (.inr h)⟩
     by_cases c:op∈L1++L2
     ·rw[if_pos c,if_pos (this.2 c)]
     ·rw[if_neg c,if_neg (λd=>c (this.1 d))]
    rw[e6];exact hI
end Go.Proofs.YtpjhmeicbjkcdaaGreatDoor
namespace Go.Dw
open Go Go.RowKit
theorem Ok.exch {w0 w:World} {s:List Ch} (hok:Ok w0 s w) {i j:Nat} {c d c' d':Ch} (_:i≠j) (hi:m8 s i=some c) (hj:m8 s j=some d)
  (h1 :∀k o,c'.h k=some o->c.h k=some o\/d.h k=some o) (h2 :∀k o,d'.h k=some o->c.h k=some o\/d.h k=some o) (hd:c'.h.dj d'.h):Ok w0 (x9 (x9 s i c') j d') w:=by
 have hget :∀{k x},m8 (x9 (x9 s i c') j d') k=some x->(k=j/\x=d')\/(k=i/\k≠j/\x=c')\/(k≠i/\k≠j/\m8 s k=some x):=by
  intro k x h;rw[F9] at h;by_cases hk:j=k
  ·rw[if_pos hk] at h;cases hs:m8 (x9 s i c') k with
   | none=>rw[hs] at h;cases h
   | some y=>rw[hs] at h;exact .inl ⟨hk.symm,(Y4 h).symm⟩
  ·rw[if_neg hk,F9] at h;by_cases hk2:i=k
   ·rw[if_pos hk2] at h;cases hs:m8 s k with
    | none=>rw[hs] at h;cases h
    | some y=>rw[hs] at h;exact .inr (.inl ⟨hk2.symm,λe=>hk e.symm,(Y4 h).symm⟩)
   ·rw[if_neg hk2] at h;exact .inr (.inr ⟨λe=>hk2 e.symm,λe=>hk e.symm,h⟩)
 have rQ :∀{x:Ch} (hx :∀k o,x.h k=some o->c.h k=some o\/d.h k=some o) {k y},k≠i->k≠j->m8 s k=some y->x.h.dj y.h:=by
  intro x hx k y h1 h2 hy b;cases hb:x.h b with
  | none=>exact .inl rfl
  | some o=>
   right
   rcases hx b o hb with h | h
   ·exact (hok.disj i k c y h1.symm hi hy b).resolve_left (by rw[h];simp)
   ·exact (hok.disj j k d y h2.symm hj hy b).resolve_left (by rw[h];simp)
 have inw :∀{x:Ch} (hx :∀k o,x.h k=some o->c.h k=some o\/d.h k=some o),x.h.In w:=by
  intro x hx b o hb;rcases hx b o hb with h | h
  ·exact hok.mem i c hi b o h
  ·exact hok.mem j d hj b o h
 refine⟨hok.os,hok.tape,hok.output,hok.size,hok.drawn,λk x hx=>?_,λk l x y hkl hx hy=>?_⟩
 ·rcases hget hx with ⟨_,rfl⟩ | ⟨_,_,rfl⟩ | ⟨_,_,h⟩
  ·exact inw h2
  ·exact inw h1
  ·exact hok.mem k x h
 ·rcases hget hx with ⟨e1,rfl⟩ | ⟨e1,_,rfl⟩ | ⟨n1,n2,h⟩ <;> rcases hget hy with ⟨e3,rfl⟩ | ⟨e3,_,rfl⟩ | ⟨n3,n4,h'⟩
  ·exact absurd (e1.trans e3.symm) hkl
  ·exact hd.symm
  ·exact rQ h2 n3 n4 h'
  ·exact hd
  ·exact absurd (e1.trans e3.symm) hkl
  ·exact rQ h1 n3 n4 h'
  ·exact (rQ h2 n1 n2 h).symm
  ·exact (rQ h1 n1 n2 h).symm
  ·exact hok.disj k l x y hkl h h'
theorem Ok.le2 {w0 w:World} {s:List Ch} (hok:Ok w0 s w) {i j m:Nat} {c d x:Ch} (hmi:m≠i) (hmj:m≠j) (hi:m8 s i=some c) (hj:m8 s j=some d) (hm:m8 s m=some x):x.h.le ((Hp.whole w).minus (c.h.join d.h)):=
 Hp.le_minus (hok.mem m x hm).whole λb=>by
  rcases hok.disj m i x c hmi hm hi b with h | h
  ·exact .inl h
  ·rcases hok.disj m j x d hmj hm hj b with h' | h'
   ·exact .inl h'
   ·right;unfold Hp.join;rw[h,h']
theorem Q8.emp {P:Program} {s:List Ch} {f:Nat} {args:List Value} {q:TV->List Ch->Prop} (h:Q8 P (s++[.hp Hp.emp]) f args q):Q8 P s f args q:=by
 obtain⟨h⟩:=h;refine⟨λw0 w hok=>⟨(h w0 w hok.emp).1,(h w0 w hok.emp).2.mono λe w' he=>?_⟩⟩;obtain⟨v,s',e1,h2,h3,h4⟩:=he;exact⟨v,s',e1,h2,(J6.app s _).trans h3,h4⟩
end Go.Dw
namespace Go.Proofs.YtpjhmeicbjkcdaaGreatDoor
open Go Go.RowKit Go.Dw
def BF (b:Nat) (fl:Value):Prop:=fl=.pointer none\/fl=pQ b
theorem XJ {s:List Ch} {i j b f:Nat} {xs:List Value} {k:Hp} {args:List Value} {R:Value->List Value->Hp->Prop} {q:TV->List Ch->Prop} (hij:i≠j) (hi:m8 s i=some (.box b xs 118)) (hj:m8 s j=some (.hp k))
  (hc :∀w0 w,Ok w0 s w->j6 Tryz.prog f args.toArray w (O6 w ((Ch.box b xs 118).h.join k) λv h' cs=>cs = []/\∃ys k',h'=(Ch.box b ys 118).h.join k'/\(Ch.box b ys 118).h.dj k'/\R v ys k'))
  (hq :∀v ys k',R v ys k'->q (.v v) (x9 (x9 s i (.box b ys 118)) j (.hp k'))):Q8 Tryz.prog s f args q:=by
 refine⟨λw0 w hok=>⟨(hc w0 w hok).1,(hc w0 w hok).2.mono λe w' he=>?_⟩⟩;obtain⟨v,h',cs,rfl,h1,rfl,ys,k',rfl,hdj,hR⟩:=he;have a1:=hok.exch (c':=.hp ((Ch.box b xs 118).h.join k)) (d':=.hp Hp.emp) hij hi hj (λn x hx=>by
  have hx:((Ch.box b xs 118).h.join k) n=some x:=hx;unfold Hp.join at hx;split at hx
  ·rename_i y hy;rw[hy];exact .inl hx
  ·exact .inr hx) (λk x hx=>by cases hx) (λk=>.inr rfl)
 have g1:m8 (x9 (x9 s i (.hp ((Ch.box b xs 118).h.join k))) j (.hp Hp.emp)) i=some (.hp ((Ch.box b xs 118).h.join k)):=by
  rw[F9,if_neg hij.symm,F9,if_pos rfl,hi];rfl
 have a2:=a1.callM g1 h1;rw[p8] at a2;have g2:m8 (x9 (x9 (x9 s i (.hp ((Ch.box b xs 118).h.join k))) j (.hp Hp.emp)) i (.hp ((Ch.box b ys 118).h.join k'))) i=some (.hp ((Ch.box b ys 118).h.join k')):=by
  rw[F9,if_pos rfl,g1];rfl
 have g3:m8 (x9 (x9 (x9 s i (.hp ((Ch.box b xs 118).h.join k))) j (.hp Hp.emp)) i (.hp ((Ch.box b ys 118).h.join k'))) j=some (.hp Hp.emp):=by
  rw[F9,if_neg hij,F9,if_pos rfl,F9,if_neg hij,hj];rfl
 have a3:=a2.exch (c':=.box b ys 118) (d':=.hp k') hij g2 g3 (λn x hx=>.inl (Hp.le_join_l _ _ n x hx)) (λn x hx=>.inl (Hp.le_join_r hdj n x hx)) hdj;have e :∀(a c:Ch) (d e f:Ch),x9 (x9 (x9 (x9 (x9 s i a) j c) i d) i e) j f=x9 (x9 s i e) j f:=by
  intro a c d e f;simp only[S9];refine O8 λn=>?_;simp only[O7,N8];by_cases hj':j=n
  ·subst hj';simp
  ·simp only[hj',if_false];by_cases hi':i=n
   ·subst hi';simp
   ·simp[hi']
 rw[e] at a3;refine⟨v,_,rfl,a3,?_,hq v ys k' hR⟩;refine (J6.set hi (c':=.box b ys 118) (λb' cs T e=>by cases e;exact⟨_,_,rfl⟩)).trans ?_;exact J6.set (i:=j) (c:=.hp k) (by rw[F9,if_neg hij,hj]) (λb' cs T e=>by cases e)
theorem XK {s:List Ch} {i j b f:Nat} {fl dv:Value} {o:Dw.Os} {args:List Value} {t':e8} {R:Value->Prop} {q:TV->List Ch->Prop} (hij:i≠j) (hi:m8 s i=some (.box b [fl,o.v,dv] 118)) (hj:m8 s j=some (.hp o.h))
  (hc :∀w0 w,Ok w0 s w->j6 Tryz.prog f args.toArray w (O6 w ((Ch.box b [fl,o.v,dv] 118).h.join o.h) λv h' cs=>cs = []/\R v/\kW h' b dv t'))
  (hq :∀v fl' o',R v->BF b fl'->w8 AW 5 1 o' t'->q (.v v) (x9 (x9 s i (.box b [fl',o'.v,dv] 118)) j (.hp o'.h))):Q8 Tryz.prog s f args q:=by
 refine XJ (R:=λv ys k'=>R v/\∃fl' o',ys = [fl',o'.v,dv]/\k'=o'.h/\BF b fl'/\w8 AW 5 1 o' t') hij hi hj (λw0 w hok=>⟨(hc w0 w hok).1,(hc w0 w hok).2.mono ?_⟩) ?_
 ·rintro e w' ⟨v,h',cs,rfl,h1,rfl,hR,fl',o',rfl,hdj,hfl,ho⟩;exact⟨v,_,[],rfl,h1,rfl,_,_,rfl,hdj,hR,fl',o',rfl,rfl,hfl,ho⟩
 ·rintro v _ _ ⟨hR,fl',o',rfl,rfl,hfl,ho⟩;exact hq v fl' o' hR hfl ho
theorem KQ {w0 w:World} {s:List Ch} (hok:Ok w0 s w) {i j b:Nat} {fl dv:Value} {o:Dw.Os} {t:e8} (hij:i≠j) (hi:m8 s i=some (.box b [fl,o.v,dv] 118)) (hj:m8 s j=some (.hp o.h)) (hfl:BF b fl) (ho:w8 AW 5 1 o t) :
  ((Ch.box b [fl,o.v,dv] 118).h.join o.h).In w/\kW ((Ch.box b [fl,o.v,dv] 118).h.join o.h) b dv t:=by
 refine⟨λk x hx=>?_,fl,o,rfl,hok.disj i j _ _ hij hi hj,hfl,ho⟩;unfold Hp.join at hx;split at hx
 ·rename_i y hy
  cases hx;exact hok.mem i _ hi k _ hy
 ·exact hok.mem j _ hj k x hx
section
variable {s:List Ch} {i j b:Nat} {fl dv:Value} {o:Dw.Os} {t:e8} {q:TV->List Ch->Prop}
theorem Ju {k bb T m:Nat} {L:List e8} (hij:i≠j) (hi:m8 s i=some (.box b [fl,o.v,dv] 118)) (hj:m8 s j=some (.hp o.h)) (hk:m8 s k=some (.box bb (L.map λx=>Value.string (bs x)) T)) (hki:k≠i) (hkj:k≠j) (hfl:BF b fl) (ho:w8 AW 5 1 o t)
  (hm:m=L.length) (hn:L.length < 1000000) (hlen:t.length+L.flatten.length < 1000000000)
  (hq :∀v fl' o',BF b fl'->w8 AW 5 1 o' (t++L.flatten)->q (.v v) (x9 (x9 s i (.box b [fl',o'.v,dv] 118)) j (.hp o'.h))) :
  Q8 Tryz.prog s 56 [pQ b,.slice (some ⟨bb,0,none⟩) m m] q:=by
 subst hm;refine XK (R:=λ_=>True) (t':=t++L.flatten) hij hi hj (λw0 w hok=>?_) (λv fl' o' _ h1 h2=>hq v fl' o' h1 h2);obtain⟨h1,h2⟩:=KQ hok hij hi hj hfl ho;have hsl:Sl (B0 Jc) 1 ((Hp.whole w).minus ((Ch.box b [fl,o.v,dv] 118).h.join o.h)) (some ⟨bb,0,none⟩) L.length L.length L:=Sl.mono (j7 _) (hok.le2 hki hkj hi hj hk) (KA (f:=Jc) (λ_=>rfl) (λkk hkk jj v hv=>by
  match jj,hv with
  | 0,hv=>
   have hv:some (Value.string (bs L[kk]))=some v:=hv;rw[y8,E3,G3,G7,i6 hkk];exact hv))
 have:=GR (dv:=dv) (t:=t) (L:=L) w h1 h2 hsl hn hlen;refine⟨this.1,this.2.mono ?_⟩;rintro e w' ⟨v,h',cs,rfl,h3,rfl,h4⟩;exact⟨v,h',[],rfl,h3,rfl,trivial,h4⟩
theorem Hd {k bb T m:Nat} {L:List e8} (hi:m8 s i=some (.box b [fl,Dw.Os.nil.v,dv] 118)) (hk:m8 s k=some (.box bb (L.map λx=>Value.string (bs x)) T)) (hki:k≠i) (hfl:BF b fl)
  (hm:m=L.length) (hn:L.length < 1000000) (hlen:L.flatten.length < 1000000000)
  (hq :∀v fl' o',BF b fl'->w8 AW 5 1 o' L.flatten->q (.v v) (x9 (x9 (s++[.hp Hp.emp]) i (.box b [fl',o'.v,dv] 118)) s.length (.hp o'.h))) :
  Q8 Tryz.prog s 56 [pQ b,.slice (some ⟨bb,0,none⟩) m m] q:=by
 have hlt:i < s.length:=by rw[J7] at hi;exact (q9.1 hi).1
 have hltk:k < s.length:=by rw[J7] at hk;exact (q9.1 hk).1
 refine Q8.emp (Ju (i:=i) (j:=s.length) (k:=k) (o:=Dw.Os.nil) (t:=[]) (fl:=fl) (dv:=dv) om (by rw[H3,if_pos hlt];exact hi) (eQ s _) (by rw[H3,if_pos hltk];exact hk) hki om hfl (w8.nil _ _ _) hm hn (by rw[d9];omega) (λv fl' o' h1 h2=>?_));rw[N6] at h2;exact hq v fl' o' h1 h2
theorem Ib {c d e:Nat} {H:Hp} {ad:Option Addr} {nd cd:Nat} {D:List S1} {x:Ex} {xs:List Value} (hij:i≠j) (hi:m8 s i=some (.box b [fl,o.v,.slice ad nd cd] 118)) (hj:m8 s j=some (.hp o.h)) (hc:m8 s c=some (.hp H)) (hci:c≠i) (hcj:c≠j) (hfl:BF b fl) (ho:w8 AW 5 1 o t)
  (hx:P5 e H x xs) (hD:Sl (B0 O1) 4 H ad nd cd D) (hg:XY D.length d x) (hs:AS x) (hdn :∀d∈D,d.1.length < 1000000) (hlen:t.length+(E7 (D6 D) d x).length < 1000000000)
  (hq :∀v fl' o',BF b fl'->w8 AW 5 1 o' (t++E7 (D6 D) d x)->q (.v v) (x9 (x9 s i (.box b [fl',o'.v,.slice ad nd cd] 118)) j (.hp o'.h))) :
  Q8 Tryz.prog s 61 [pQ b,.agg xs.toArray] q:=by
 refine XK (R:=λ_=>True) (t':=t++E7 (D6 D) d x) hij hi hj (λw0 w hok=>?_) (λv fl' o' _ h1 h2=>hq v fl' o' h1 h2);obtain⟨h1,h2⟩:=KQ hok hij hi hj hfl ho;have hle:H.le _:=hok.le2 hci hcj hi hj hc;have:=CT hdn d e _ t x xs w h1 h2 hg hs (q7 e _ _ _ _ hle hx) (hD.mono (j7 _) hle) hlen;refine⟨this.1,this.2.mono ?_⟩;rintro e w' ⟨v,h',cs,rfl,h3,rfl,h4⟩;exact⟨v,h',[],rfl,h3,rfl,trivial,h4⟩
theorem Gt (hij:i≠j) (hi:m8 s i=some (.box b [fl,o.v,dv] 118)) (hj:m8 s j=some (.hp o.h)) (hfl:BF b fl) (ho:w8 AW 5 1 o t) (h0:t≠[])
  (hq :∀ys k',q (.v (.tuple #[sv (xR t).1,iQ (xR t).2])) (x9 (x9 s i (.box b ys 118)) j (.hp k'))):Q8 Tryz.prog s 62 [pQ b] q:=by
 refine XJ (R:=λv _ _=>v=.tuple #[sv (xR t).1,iQ (xR t).2]) hij hi hj (λw0 w hok=>?_) ?_
 ·obtain⟨h1,h2⟩:=KQ hok hij hi hj hfl ho;have:=vE w h1 h2 h0;refine⟨this.1,this.2.mono ?_⟩;rintro e w' ⟨v,h',cs,rfl,h3,rfl,rfl,ys,k',e1,e2⟩;exact⟨_,h',[],rfl,h3,rfl,ys,k',e1,e2,rfl⟩
 ·rintro v ys k' rfl;exact hq ys k'
end
end Go.Proofs.YtpjhmeicbjkcdaaGreatDoor
namespace Go.Dw
open Go Go.RowKit
theorem iJ {P:Program} {s:List Ch} {i j b f T:Nat} {xs:List Value} {k:Hp} {args:List Value} {R:Value->List Value->Hp->Prop} {q:TV->List Ch->Prop} (hij:i≠j) (hi:m8 s i=some (.box b xs T)) (hj:m8 s j=some (.hp k))
  (hc :∀w0 w,Ok w0 s w->j6 P f args.toArray w (O6 w ((Ch.box b xs T).h.join k) λv h' cs=>∃ys,cs = [.box b ys T]/\R v ys h'))
  (hq :∀v ys k',R v ys k'->q (.v v) (x9 (x9 s i (.box b ys T)) j (.hp k'))):Q8 P s f args q:=by
 refine⟨λw0 w hok=>⟨(hc w0 w hok).1,(hc w0 w hok).2.mono λe w' he=>?_⟩⟩;obtain⟨v,k',cs,rfl,h0,ys,rfl,hR⟩:=he;have hdj:(Ch.box b ys T).h.dj k':=h0.disj 2 1 _ _ dc rfl rfl;have h1:Ok w [.hp ((Hp.whole w).minus ((Ch.box b xs T).h.join k)),.hp ((Ch.box b ys T).h.join k')] w':=Ok.join (d:=.box b ys T) (e:=.hp k') (s:=[]) (h0.pick [0,2,1] rfl rfl);have a1:=hok.exch (c':=.hp ((Ch.box b xs T).h.join k)) (d':=.hp Hp.emp) hij hi hj (λn x hx=>by
  have hx:((Ch.box b xs T).h.join k) n=some x:=hx;unfold Hp.join at hx;split at hx
  ·rename_i y hy;rw[hy];exact .inl hx
  ·exact .inr hx) (λk x hx=>by cases hx) (λk=>.inr rfl)
 have g1:m8 (x9 (x9 s i (.hp ((Ch.box b xs T).h.join k))) j (.hp Hp.emp)) i=some (.hp ((Ch.box b xs T).h.join k)):=by
  rw[F9,if_neg hij.symm,F9,if_pos rfl,hi];rfl
 have a2:=a1.callM g1 h1;rw[p8] at a2;have g2:m8 (x9 (x9 (x9 s i (.hp ((Ch.box b xs T).h.join k))) j (.hp Hp.emp)) i (.hp ((Ch.box b ys T).h.join k'))) i=some (.hp ((Ch.box b ys T).h.join k')):=by
  rw[F9,if_pos rfl,g1];rfl
 have g3:m8 (x9 (x9 (x9 s i (.hp ((Ch.box b xs T).h.join k))) j (.hp Hp.emp)) i (.hp ((Ch.box b ys T).h.join k'))) j=some (.hp Hp.emp):=by
  rw[F9,if_neg hij,F9,if_pos rfl,F9,if_neg hij,hj];rfl
 have a3:=a2.exch (c':=.box b ys T) (d':=.hp k') hij g2 g3 (λn x hx=>.inl (Hp.le_join_l _ _ n x hx)) (λn x hx=>.inl (Hp.le_join_r hdj n x hx)) hdj;have e :∀(a c:Ch) (d e f:Ch),x9 (x9 (x9 (x9 (x9 s i a) j c) i d) i e) j f=x9 (x9 s i e) j f:=by
  intro a c d e f;simp only[S9];refine O8 λn=>?_;simp only[O7,N8];by_cases hj':j=n
  ·subst hj';simp
  ·simp only[hj',if_false];by_cases hi':i=n
   ·subst hi';simp
   ·simp[hi']
 rw[e] at a3;refine⟨v,_,rfl,a3,?_,hq v ys k' hR⟩;refine (J6.set hi (c':=.box b ys T) (λb' cs T e=>by cases e;exact⟨_,_,rfl⟩)).trans ?_;exact J6.set (i:=j) (c:=.hp k) (by rw[F9,if_neg hij,hj]) (λb' cs T e=>by cases e)
end Go.Dw
namespace Go.Proofs.YtpjhmeicbjkcdaaGreatDoor
open Go Go.RowKit Go.Dw
theorem _root_.Go.Dw.Ok.startB {w:World} {b7 T:Nat} {xs:List Value} {h:Hp} (hin:((Ch.box b7 xs T).h.join h).In w) (hdj:(Ch.box b7 xs T).h.dj h):Ok w [.hp ((Hp.whole w).minus ((Ch.box b7 xs T).h.join h)),.hp h,.box b7 xs T] w:=
 Ok.same (s:=[.hp ((Hp.whole w).minus ((Ch.box b7 xs T).h.join h)),.hp h,.hp (Ch.box b7 xs T).h]) (i:=2) (c:=.hp (Ch.box b7 xs T).h) (d:=.box b7 xs T) rfl rfl (Ok.part (i:=1) (Ok.start2 w hin) rfl (Hp.le_join_r hdj) (Hp.le_join_l _ _) hdj.symm)
abbrev wA (z:Int) (f:e8->Int) (r:RS):Int:=if zJ (C7 r)/\H8 (C7 r).2.1=true then f (C7 r).2.1 else z
set_option maxRecDepth 10000 in
theorem fP {k h:Hp} {rb b b7 g:Nat} {r:RS} {z:Int} {cap:List Value} {chk fv:e8->Int} (w:World) (hin:((Ch.box b7 [iQ z] 3).h.join h).In w) (hdj:(Ch.box b7 [iQ z] 3).h.dj h) (hd:DR ((Hp.whole w).minus ((Ch.box b7 [iQ z] 3).h.join h)) k h rb b r)
  (hc :∀w',(Ch.box b7 [iQ z] 3).h.In w'->((Hp.whole w).minus ((Ch.box b7 [iQ z] 3).h.join h)).le ((Hp.whole w').minus (Ch.box b7 [iQ z] 3).h)->∀s:e8,s.length < 900000->j6 Tryz.prog g (sv s::cap).toArray w' (O6 w' (Ch.box b7 [iQ z] 3).h λv h' cs2=>cs2 = []/\∃cs',(Ch.box b7 cs' 3).h.le h'/\(v=iQ (chk s)/\cs' = [iQ (fv s)]))) :
  j6 Tryz.prog 77 #[pQ rb,.func (.func g) #[] cap.toArray] w (O6 w ((Ch.box b7 [iQ z] 3).h.join h) λv h' cs=>∃ys,cs = [.box b7 ys 3]/\(v=sv (P2 r chk).2/\ys = [iQ (wA z fv r)]/\G9 k h' b (P2 r chk).1)):=by
 have ok0:=Ok.startB hin hdj;have hpk:=hd.hR.peekB;refine enterMSZ (cx 50) [pQ rb,.func (.func g) #[] cap.toArray] ok0 [.tmp 4] Tryz.func77 ?_;obtain⟨c0,hc0⟩ :∃c0,c0=(Hp.whole w).minus ((Ch.box b7 [iQ z] 3).h.join h):=⟨_,rfl⟩
 rw[<-hc0] at hd hc ok0 ⊢;refine lQ 0 hd.hB ?_;refine k7 _ (λw' hm=>S7 w' (hm 1 _ rfl) (hd.hk.trans (hm 0 _ rfl).whole) hd.hR) ?_;obtain⟨⟨K,T,ln,co⟩,hP⟩ :∃p,p=C7 r:=⟨_,rfl⟩
 rw[<-hP] at hpk ⊢;dsimp only at hpk;intro b5;refine d8 (λh1=>?_) λh1=>?_;focus
  have hnm:zJ (C7 r):=by rw[<-hP];exact .inl h1
 rotate_left
 focus
  refine d8 (λh2=>?_) λh2=>?_;focus
   have hnm:zJ (C7 r):=by rw[<-hP];exact .inr h2
  rotate_left
  ·have hnm : ¬ zJ (C7 r):=by rw[<-hP];exact λc=>c.elim h1 h2
   have hC:namC r chk=r:=by unfold namC;rw[if_neg hnm]
   have hv:wA z fv r=z:=by unfold wA;rw[if_neg (λc=>hnm c.1)]
   refine d8 (λh6=>?_) λh6=>?_;focus
    refine lQ 0 hd.hB ?_;refine l6 (i:=1) rfl (λw0 w' hok=>fB w' (hok.mem 1 _ rfl) (hok.kle rfl rfl hd.hk) hd.hR) ?_;rintro _ h2 _ ⟨rfl,rfl,hR2⟩;have e:P2 r chk=O4 r 3:=by unfold P2;rw[<-hP,if_pos h6,hC]
   rotate_left
   focus
    refine lQ 0 hd.hB ?_;refine l6 (i:=1) rfl (λw0 w' hok=>fF w' (hok.mem 1 _ rfl) (hok.kle rfl rfl hd.hk) hd.hR) ?_;rintro _ h2 _ ⟨rfl,rfl,hR2⟩;have e:P2 r chk=O4 r 1:=by unfold P2;rw[<-hP,if_neg h6,hC]
   all_goals
    rw[e];exact⟨h2,[.box b7 [iQ z] 3],⟨[iQ z],rfl,rfl,by rw[hv],hR2⟩,pk [0,1,2]⟩
 all_goals
  refine k7 _ (λw' hm=>dK T w') ?_;refine s8 (λh3=>?_) λh3=>?_
  ·have h3:H8 T=false:=by simpa using h3
   have hC:namC r chk=y7 r 11:=by unfold namC;rw[if_pos hnm,<-hP,if_pos h3]
   have hv:wA z fv r=z:=by unfold wA;rw[if_neg (λc=>by rw[<-hP] at c;have c2:H8 T=true:=c.2;rw[h3] at c2;cases c2)]
   refine lQ 0 hd.hB ?_;refine l6 (i:=1) rfl (λw0 w' hok=>G8 w' (hok.mem 1 _ rfl) (hok.kle rfl rfl hd.hk) hd.hR) ?_;rintro _ h1 _ ⟨rfl,hR1⟩;refine d8 (λh6=>?_) λh6=>?_;focus
    refine lQ 0 hd.hB ?_;refine l6 (i:=1) rfl (λw0 w' hok=>fB w' (hok.mem 1 _ rfl) (hok.kle rfl rfl hd.hk) hR1) ?_;rintro _ h2 _ ⟨rfl,rfl,hR2⟩;have e:P2 r chk=O4 (y7 r 11) 3:=by unfold P2;rw[<-hP,if_pos h6,hC]
   rotate_left
   focus
    refine lQ 0 hd.hB ?_;refine l6 (i:=1) rfl (λw0 w' hok=>fF w' (hok.mem 1 _ rfl) (hok.kle rfl rfl hd.hk) hR1) ?_;rintro _ h2 _ ⟨rfl,rfl,hR2⟩;have e:P2 r chk=O4 (y7 r 11) 1:=by unfold P2;rw[<-hP,if_neg h6,hC]
   all_goals
    rw[e];exact⟨h2,[.box b7 [iQ z] 3],⟨[iQ z],rfl,rfl,by rw[hv],hR2⟩,pk [0,1,2]⟩
  ·have h3:H8 T=true:=by simpa using h3
   have hC:namC r chk=y7 r (chk T):=by unfold namC;rw[if_pos hnm,<-hP,if_neg (by rw[h3];decide)]
   have hv:wA z fv r=fv T:=by unfold wA;rw[<-hP] at hnm ⊢;rw[if_pos ⟨hnm,h3⟩]
   refine s6.cut Hp (λ_=>[(0,.v (pQ rb)),(5,.bx 3 0)]) (λg=>[.hp c0,.hp g,.box b7 [iQ (fv T)] 3,.box b5 [iQ K,sv T,iQ ln,iQ co] 211]) (λg=>G9 k g b (y7 r (chk T))) (s6.by_order0 (s0:=[.hp c0,.hp Hp.emp,.hp Hp.emp,.box b5 [iQ K,sv T,iQ ln,iQ co] 211]) cQ (.take 0 <| .take 1 <| .take 2 <| .take 3 <| .take 4 <| .take 5 <| .take 6 <| .run 7 <| .run 8 <| .done) kr (sK) ?_) ?_
   ·refine lQ 0 hd.hB ?_;refine mM ?_;refine jU (i:=2) rfl (λw0 w' hok=>hc w' (hok.mem 2 _ rfl) (Hp.le_minus (hok.mem 0 _ rfl).whole (hok.disj 0 2 _ _ dc rfl rfl)) T hpk) ?_;rintro _ _ ⟨rfl,rfl⟩;refine⟨sK,?_⟩;refine l6 (i:=1) rfl (λw0 w' hok=>G8 w' (hok.mem 1 _ rfl) (hok.kle rfl rfl hd.hk) hd.hR) ?_;rintro _ h1 _ ⟨rfl,hR1⟩;refine⟨sK,?_⟩;exact⟨h1,hR1,v6.mk (pj [0,1,2,3]) rfl rfl⟩
   intro h1 hR1 _;refine d8 (λh6=>?_) λh6=>?_;focus
    refine lQ 0 hd.hB ?_;refine l6 (i:=1) rfl (λw0 w' hok=>fB w' (hok.mem 1 _ rfl) (hok.kle rfl rfl hd.hk) hR1) ?_;rintro _ h2 _ ⟨rfl,rfl,hR2⟩;have e:P2 r chk=O4 (y7 r (chk T)) 3:=by unfold P2;rw[<-hP,if_pos h6,hC]
   rotate_left
   focus
    refine lQ 0 hd.hB ?_;refine l6 (i:=1) rfl (λw0 w' hok=>fF w' (hok.mem 1 _ rfl) (hok.kle rfl rfl hd.hk) hR1) ?_;rintro _ h2 _ ⟨rfl,rfl,hR2⟩;have e:P2 r chk=O4 (y7 r (chk T)) 1:=by unfold P2;rw[<-hP,if_neg h6,hC]
   all_goals
    rw[e];exact⟨h2,[.box b7 [iQ (fv T)] 3],⟨[iQ (fv T)],rfl,rfl,by rw[hv],hR2⟩,pk [0,1,2]⟩
end Go.Proofs.YtpjhmeicbjkcdaaGreatDoor
namespace Go.Proofs.YtpjhmeicbjkcdaaGreatDoor
open Go Go.RowKit Go.Dw
theorem G9.unsB {k h:Hp} {b:Nat} {r:RS} (hR:G9 k h b r):(AZ r).2.length < 900001:=by
 obtain⟨_,_,_,_,_,_,tb⟩:=hR;have key :∀r':RS,A7 r r'->(O4 r' 2).2.length < 900000:=by
  intro r' ha;unfold O4;split
  ·exact O2 _
  ·dsimp only;unfold C7;split
   ·exact O2 _
   ·cases e:r'.ts with
    | nil=>exact O2 _
    | cons x l=>exact tb x (ha.sb x (by rw[e];exact bU))
 have hs :∀r':RS,A7 r r'->(aM r').2.length < 900001:=by
  intro r' ha;have h1:=key (tM r') (ha.trans (((A7.take r' [45]).trans (A7.fail _ 3)).ite (A7.take r' [45])));unfold aM;dsimp only;split
  ·exact O2 _
  ·rw[d6];split
   ·simp only[d7,d9];omega
   ·simp only[d9];omega
 unfold AZ;exact hs _ ((A7.fail r 14).ite (A7.refl r))
theorem HE {r:RS} {s:e8} {c m:Nat} (he:r.e=0->cP r.ts) (h:aA r s=true):J5 (E5 (J2 r c m)) < J5 r:=by
 obtain⟨h0,h5,_⟩:=S2 h;have hp:=jO he h;unfold J2;split
 ·refine s7 (A7.next _).rem ?_;have:(y7 r 6).e≠0:=by unfold y7;rw[if_neg (λc=>c h0),if_pos dc];exact (by decide:(6:Int)≠0)
  unfold J5 at hp ⊢;rw[if_pos this];exact hp
 ·exact EO he h0 om
section
variable {names:List e8} {rr:RS} {cnt:Nat}
theorem UE (he:rr.e=0->cP rr.ts) (h:aA rr [43]=true\/aA rr [45]=true):0 < J5 rr:=h.elim (jO he) (jO he)
theorem xU (names:List e8) (last:Int) (he:rr.e=0->cP rr.ts) (h:aA rr [43]=true\/aA rr [45]=true) (cnt:Nat):J5 (iR names last rr cnt).1 < J5 rr:=by
 have h1:J5 (E5 (J2 rr cnt 64)) < J5 rr:=h.elim (HE he) (HE he);refine s7 ?_ h1;have a:A7 (E5 (J2 rr cnt 64)) (nY rr cnt).1:=by
  unfold nY;dsimp only;have h:=A7.uns (E5 (J2 rr cnt 64));exact (h.trans (A7.fail _ 5)).ite ((h.trans (A7.fail _ 19)).ite h)
 unfold iR;dsimp only;exact ((a.trans (A7.exp _ _)).trans (A7.nam _ _)).rem
theorem qT (names:List e8) (last:Int) (h:aA rr [43]=true\/aA rr [45]=true) (hc:cnt<=64\/(cnt<=65/\rr.e≠0)):cnt+1<=64\/(cnt+1<=65/\(iR names last rr cnt).1.e≠0):=by
 have h0:rr.e=0:=h.elim (λh=>(S2 h).1) (λh=>(S2 h).1);have hc:cnt<=64:=hc.elim id (λc=>absurd h0 c.2);by_cases h6:cnt=64
 ·refine .inr ⟨om,?_⟩;have hb:(J2 rr cnt 64).e≠0:=by
   unfold J2;rw[if_pos om];unfold y7;rw[if_neg (λc=>c h0),if_pos dc];exact (by decide:(6:Int)≠0)
  have a:A7 (J2 rr cnt 64) (iR names last rr cnt).1:=by
   unfold iR nY;dsimp only;have h:=(A7.next (J2 rr cnt 64)).trans (A7.uns _);exact (((h.trans (A7.fail _ 5)).ite ((h.trans (A7.fail _ 19)).ite h)).trans (A7.exp _ _)).trans (A7.nam _ _)
  exact a.bad hb
 ·exact .inl om
end
theorem _root_.Go.Dw.Ok.inJ {w0 w:World} {s:List Ch} (hok:Ok w0 s w) {i j:Nat} {c d:Ch} (hi:m8 s i=some c) (hj:m8 s j=some d):(c.h.join d.h).In w:=by
 intro k x hx;unfold Hp.join at hx;split at hx
 ·rename_i y hy
  cases hx;exact hok.mem i _ hi k _ hy
 ·exact hok.mem j _ hj k x hx
set_option maxHeartbeats 4000000 in
set_option maxRecDepth 10000 in
theorem mL {k h:Hp} {rb b:Nat} {r:RS} {ad:Option Addr} {nd cd:Nat} {D:List S1} (w:World) (hin:h.In w) (hd:DR ((Hp.whole w).minus h) k h rb b r) (hds:((Hp.whole w).minus h).cell? ⟨rb,1,none⟩=some (.slice ad nd cd)) (hD:Sl (B0 O1) 4 ((Hp.whole w).minus h) ad nd cd D) (hn:D.length < 1000000) :
  j6 Tryz.prog 171 #[pQ rb] w (O6 w h λv h' cs=>∃o,cs = [.hp o.h]/\(v=.agg #[sv (sA (D.map λx:S1=>x.1) r).2.1,o.v]/\w8 U0 80 2 o (sA (D.map λx:S1=>x.1) r).2.2/\G9 k h' b (sA (D.map λx:S1=>x.1) r).1)):=by
 refine enterMZ (cx 99) [pQ rb] hin [.cell 2 41] Tryz.func171 ?_;obtain⟨c0,hc0⟩ :∃c0,c0=(Hp.whole w).minus h:=⟨_,rfl⟩
 rw[<-hc0] at hd hds hD ⊢;obtain⟨names,hnames⟩ :∃l,l=D.map λx:S1=>x.1:=⟨_,rfl⟩
 rw[<-hnames];intro b1 b2;refine o7 λq' hq'=>?_;apply hq';refine nQ [.hp c0,.hp h,.box b1 [pQ rb] 151,.box b2 [zs,zl] 41] λq' hq'=>?_;refine lQ 0 hd.hB ?_;refine l6 (i:=1) rfl (λw0 w' hok=>m6 w' (hok.mem 1 _ rfl) (hok.kle rfl rfl hd.hk) hd.hR) ?_;rintro _ h1 _ ⟨rfl,hR1⟩;have hR1:G9 k h1 b (x8 (r) [91]):=hR1;apply hq';refine nQ [.hp c0,.hp h1,.box b1 [pQ rb] 151,.box b2 [zs,zl] 41] λq' hq'=>?_;refine l6 (i:=1) rfl (λw0 w' hok=>W5 w' (hok.mem 1 _ rfl) ((hd.to hR1).mono (hok.le01 rfl rfl))) ?_;rintro _ h2 _ ⟨rfl,rfl,hR2⟩;have hR2:G9 k h2 b ((R6 (x8 (r) [91])).1):=hR2;obtain⟨A,hA⟩ :∃x,x=R6 (x8 (r) [91]):=⟨_,rfl⟩
 rw[<-hA] at hR2 ⊢;intro b3;apply hq';refine nQ [.hp c0,.hp h2,.box b1 [pQ rb] 151,.box b2 [zs,zl] 41,.box b3 [sv A.2,zl] 41] λq' hq'=>?_;intro b4;apply hq';obtain⟨tot,htot⟩ :∃x,x=iP names (J5 A.1) A.1 (-1) []:=⟨_,rfl⟩
 have hend:A.1.e=0->cP A.1.ts:=by obtain⟨_,_,_,_,_,hE,_⟩:=hR2;exact hE
 refine u6.mk (RS×Int×List JL×Hp×Dw.Os) (λ_=>[(1,.bx 2 0),(2,.bx 3 0),(3,.bx 4 0),(4,.bx 5 0)]) (λg=>[.hp c0,.hp g.2.2.2.1,.box b1 [pQ rb] 151,.box b2 [zs,zl] 41,.box b3 [sv A.2,g.2.2.2.2.v] 41,.box b4 [iQ g.2.1] 3,.hp g.2.2.2.2.h])
  (λg=>G9 k g.2.2.2.1 b g.1/\w8 U0 80 2 g.2.2.2.2 g.2.2.1/\(∃f,J5 g.1<=f/\iP names f g.1 g.2.1 g.2.2.1=tot)/\(g.2.2.1.length<=64\/(g.2.2.1.length<=65/\g.1.e≠0))) (λg=>J5 g.1) (A.1,-1,[],h2,Dw.Os.nil)
  ⟨hR2,w8.nil _ _ _,⟨J5 A.1,k8 _,htot.symm⟩,.inl (f8 _)⟩ (v6.mk (λ_ _ h=>h.emp) rfl rfl) ?_
 rintro⟨rr,last,out,hh,oo⟩ ⟨hRr,hO,⟨f,hf,htr⟩,hcnt⟩;dsimp only at hRr hO hf htr hcnt ⊢;have hRend:rr.e=0->cP rr.ts:=by obtain⟨_,_,_,_,_,hE,_⟩:=hRr;exact hE
 refine nQ [.hp c0,.hp hh,.box b1 [pQ rb] 151,.box b2 [zs,zl] 41,.box b3 [sv A.2,oo.v] 41,.box b4 [iQ last] 3,.hp oo.h] λq' hq'=>?_;refine lQ 0 hd.hB ?_;refine k7 _ (λw' hm=>S0 w' (hm 1 _ rfl) (hd.hk.trans (hm 0 _ rfl).whole) hRr) ?_;refine s8 (λg1=>?_) λg1=>?_;focus
  apply hq';refine RW rfl ?_;have hio:aA rr [43]=true\/aA rr [45]=true:=.inl g1
 rotate_left
 focus
  refine lQ 0 hd.hB ?_;refine k7 _ (λw' hm=>S0 w' (hm 1 _ rfl) (hd.hk.trans (hm 0 _ rfl).whole) hRr) ?_;apply hq';refine s8 (λg2=>?_) λg2=>?_;focus
   have hio:aA rr [43]=true\/aA rr [45]=true:=.inr g2
  rotate_left
  ·have eT:tot=(rr,out):=by
    rw[<-htr];cases f with
    | zero=>rfl
    | succ f=>unfold iP;rw[if_neg (λc=>by rw[g1,g2] at c;cases c <;> rename_i c <;> cases c)]
   have eF:sA names r=(x8 rr [93],(A.2,out)):=by
    unfold sA;dsimp only;rw[<-hA,<-htot,eT]
   refine nQ [.hp c0,.hp hh,.box b1 [pQ rb] 151,.box b2 [zs,zl] 41,.box b3 [sv A.2,oo.v] 41,.box b4 [iQ last] 3,.hp oo.h] λq' hq'=>?_;refine lQ 0 hd.hB ?_;refine l6 (i:=1) rfl (λw0 w' hok=>m6 w' (hok.mem 1 _ rfl) (hok.kle rfl rfl hd.hk) hRr) ?_;rintro _ h3 _ ⟨rfl,hR3⟩;have hR3:G9 k h3 b (x8 (rr) [93]):=hR3;apply hq';rw[eF];exact⟨h3,[.hp oo.h],⟨oo,rfl,rfl,hO,hR3⟩,pk [0,1,6]⟩
 all_goals
  refine nQ [.hp c0,.hp hh,.box b1 [pQ rb] 151,.box b2 [zs,zl] 41,.box b3 [sv A.2,oo.v] 41,.box b4 [iQ last] 3,.hp oo.h] λq' hq'=>?_;refine l6 (i:=1) rfl (λw0 w' hok=>N9 (n:=out.length) (m:=64) (by rw[hO.len]) rfl w' (hok.mem 1 _ rfl) ((hd.to hRr).mono (hok.le01 rfl rfl))) ?_;rintro _ h3 _ ⟨rfl,hR3⟩;have hR3:G9 k h3 b (J2 (rr) out.length 64):=hR3;obtain⟨r3,e3⟩ :∃x,x=J2 (rr) out.length 64:=⟨_,rfl⟩
  rw[<-e3] at hR3;apply hq';refine nQ [.hp c0,.hp h3,.box b1 [pQ rb] 151,.box b2 [zs,zl] 41,.box b3 [sv A.2,oo.v] 41,.box b4 [iQ last] 3,.hp oo.h] λq' hq'=>?_;refine lQ 0 hd.hB ?_;refine k7 _ (λw' hm=>S0 w' (hm 1 _ rfl) (hd.hk.trans (hm 0 _ rfl).whole) hR3) ?_;apply hq';refine nQ [.hp c0,.hp h3,.box b1 [pQ rb] 151,.box b2 [zs,zl] 41,.box b3 [sv A.2,oo.v] 41,.box b4 [iQ last] 3,.hp oo.h] λq' hq'=>?_;refine lQ 0 hd.hB ?_;refine l6 (i:=1) rfl (λw0 w' hok=>cO w' (hok.mem 1 _ rfl) (hok.kle rfl rfl hd.hk) hR3) ?_;rintro _ h4 _ ⟨rfl,rfl,hR4⟩;have hR4:G9 k h4 b (E5 (r3)):=hR4;apply hq';refine nQ [.hp c0,.hp h4,.box b1 [pQ rb] 151,.box b2 [zs,zl] 41,.box b3 [sv A.2,oo.v] 41,.box b4 [iQ last] 3,.hp oo.h] λq' hq'=>?_;refine l6 (i:=1) rfl (λw0 w' hok=>wB w' (hok.mem 1 _ rfl) ((hd.to hR4).mono (hok.le01 rfl rfl))) ?_;rintro _ h5 _ ⟨rfl,rfl,hR5⟩;have hR5:G9 k h5 b ((AZ (E5 (r3))).1):=hR5;have hUl:=G9.unsB hR4;obtain⟨U,hU⟩ :∃x,x=AZ (E5 (r3)):=⟨_,rfl⟩
  rw[<-hU] at hR5 hUl ⊢;apply hq';refine nQ [.hp c0,.hp h5,.box b1 [pQ rb] 151,.box b2 [zs,zl] 41,.box b3 [sv A.2,oo.v] 41,.box b4 [iQ last] 3,.hp oo.h] λq' hq'=>?_;apply hq';refine s8 (λm1=>?_) λm1=>?_;focus
   refine nQ [.hp c0,.hp h5,.box b1 [pQ rb] 151,.box b2 [zs,zl] 41,.box b3 [sv A.2,oo.v] 41,.box b4 [iQ last] 3,.hp oo.h] λq' hq'=>?_;refine P0 (ty:=38) (a:=[45]) (by simp only[d7,d9];omega) ?_;obtain⟨X,hX⟩ :∃X,X=([45]++U.2):=⟨_,rfl⟩
   rw[<-hX];have hX2:(if aA r3 [45]=true then 45::U.2 else U.2)=X:=by rw[if_pos m1,hX];rfl
   apply hq'
  rotate_left
  focus
   obtain⟨X,hX⟩ :∃X,X=U.2:=⟨_,rfl⟩
   rw[<-hX];have hX2:(if aA r3 [45]=true then 45::U.2 else U.2)=X:=by rw[if_neg (by rw[m1];decide),hX]
  all_goals
   refine nQ [.hp c0,.hp h5,.box b1 [pQ rb] 151,.box b2 [zs,zl] 41,.box b3 [sv A.2,oo.v] 41,.box b4 [iQ last] 3,.hp oo.h] λq' hq'=>?_;apply hq';refine d8 (λs0=>?_) λs0=>?_
   ·refine nQ [.hp c0,.hp h5,.box b1 [pQ rb] 151,.box b2 [zs,zl] 41,.box b3 [sv A.2,oo.v] 41,.box b4 [iQ last] 3,.hp oo.h] λq' hq'=>?_;refine lQ 0 hd.hB ?_;refine l6 (i:=1) rfl (λw0 w' hok=>G8 w' (hok.mem 1 _ rfl) (hok.kle rfl rfl hd.hk) hR5) ?_;rintro _ h6 _ ⟨rfl,hR6⟩;have hR6:G9 k h6 b (y7 (U.1) 5):=hR6;apply hq';have hN:nY rr out.length=(y7 (U.1) 5,X):=by
     unfold nY;dsimp only;rw[<-e3,<-hU,hX2];rw[if_pos (by rw[B6] at s0;omega)]
    refine nQ [.hp c0,.hp h6,.box b1 [pQ rb] 151,.box b2 [zs,zl] 41,.box b3 [sv A.2,oo.v] 41,.box b4 [iQ last] 3,.hp oo.h] λq' hq'=>?_;refine lQ 0 hd.hB ?_;refine l6 (i:=1) rfl (λw0 w' hok=>m6 w' (hok.mem 1 _ rfl) (hok.kle rfl rfl hd.hk) hR6) ?_;rintro _ h7 _ ⟨rfl,hR7⟩;have hR7:G9 k h7 b (x8 (y7 (U.1) 5) [42]):=hR7;obtain⟨r7,e7⟩ :∃x,x=x8 (y7 (U.1) 5) [42]:=⟨_,rfl⟩
    rw[<-e7] at hR7;apply hq';refine o7 λq' hq'=>?_;intro b7;apply hq';refine nQ [.hp c0,.hp h7,.box b1 [pQ rb] 151,.box b2 [zs,zl] 41,.box b3 [sv A.2,oo.v] 41,.box b4 [iQ last] 3,.hp oo.h,.box b7 [iQ (-1)] 3] λq' hq'=>?_;refine iJ (i:=7) (j:=1) dc rfl rfl (λw0 w' hok=>fP (cap:=[pQ b1,pQ b7,pQ b4]) (chk:=kJ names last) (fv:=mK names) w' (hok.inJ (i:=7) (j:=1) (c:=.box b7 [iQ (-1)] 3) (d:=.hp h7) rfl rfl) (hok.disj 7 1 _ _ dc rfl rfl) ((hd.to hR7).mono (hok.le2 (i:=7) (j:=1) (m:=0) dc dc rfl rfl rfl)) (λw2 hi2 hle s _=>by
     have hl0:=(hok.le2 (i:=7) (j:=1) (m:=0) dc dc rfl rfl rfl).trans hle;have hl1:=(hok.le2 (i:=7) (j:=1) (m:=2) dc dc rfl rfl rfl).trans hle;have hl4:=(hok.le2 (i:=7) (j:=1) (m:=5) dc dc rfl rfl rfl).trans hle;rw[hnames];exact fX (b1:=b1) (b7:=b7) (b4:=b4) (rb:=rb) (last:=last) (z:=-1) s w2 hi2 (hl1.cell (J3 b1 (cs:=[pQ rb]) _ rfl)) (hl0.cell hds) (hl4.cell (J3 b4 (cs:=[iQ last]) _ rfl)) (hD.mono (j7 _) hl0) hn)) ?_
    rintro _ _ h8 ⟨rfl,rfl,hR8⟩;have hT:iR names last rr out.length=((P2 r7 (kJ names last)).1,(XO names r7,X)):=by
     unfold iR;dsimp only;rw[hN];dsimp only;rw[<-e7]
    have hlt:=xU names last hRend hio out.length;have hcn:=qT names last hio hcnt;rw[hT] at hlt hcn;dsimp only at hlt hcn;obtain⟨at_,hat⟩ :∃x,x=XO names r7:=⟨_,rfl⟩
    have hat2:wA (-1) (mK names) r7=at_:=hat.symm;rw[<-hat] at hT;rw[hat2];obtain⟨r9,hr9⟩ :∃x,x=(P2 r7 (kJ names last)).1:=⟨_,rfl⟩
    rw[<-hr9] at hR8 hT hlt hcn;apply hq';refine nQ [.hp c0,.hp h8,.box b1 [pQ rb] 151,.box b2 [zs,zl] 41,.box b3 [sv A.2,oo.v] 41,.box b4 [iQ last] 3,.hp oo.h,.box b7 [iQ at_] 3] λq' hq'=>?_;apply hq';refine nQ [.hp c0,.hp h8,.box b1 [pQ rb] 151,.box b2 [zs,zl] 41,.box b3 [sv A.2,oo.v] 41,.box b4 [iQ at_] 3,.hp oo.h,.box b7 [iQ at_] 3] λq' hq'=>?_;intro b8;refine gF (f:=U0) (o:=oo) (L:=out) cQ (e:=80) rfl (i:=6) rfl hO (at_,X) (j:=8) rfl rfl rfl rfl om λo9 hO9=>?_;apply hq';refine⟨(r9,at_,out++[(at_,X)],h8,o9),⟨hR8,hO9,?_,?_⟩,hlt,v6.mk (pj [0,1,2,3,4,5,6]) rfl rfl⟩
    ·cases f with
     | zero=>exact absurd hf (by have:=UE hRend hio;omega)
     | succ f=>
      refine⟨f,by dsimp only;omega,?_⟩;dsimp only;rw[<-htr];show _=iP names (f+1) rr last out
      conv=>rhs;unfold iP
      rw[if_pos hio,hT]
    ·dsimp only;rw[d6];exact hcn
   ·have s0' : ¬ 400 < X.length:=by rw[B6] at s0;omega
    refine nQ [.hp c0,.hp h5,.box b1 [pQ rb] 151,.box b2 [zs,zl] 41,.box b3 [sv A.2,oo.v] 41,.box b4 [iQ last] 3,.hp oo.h] λq' hq'=>?_;refine lQ 0 hd.hB ?_;refine k7 _ (λw' hm=>S0 w' (hm 1 _ rfl) (hd.hk.trans (hm 0 _ rfl).whole) hR5) ?_;refine s8 (λs1=>?_) λs1=>?_;focus
     refine W8 (b:=[48]) ?_;refine d8 (λs2=>?_) λs2=>?_;focus
      apply hq';refine RW rfl ?_;refine nQ [.hp c0,.hp h5,.box b1 [pQ rb] 151,.box b2 [zs,zl] 41,.box b3 [sv A.2,oo.v] 41,.box b4 [iQ last] 3,.hp oo.h] λq' hq'=>?_;refine lQ 0 hd.hB ?_;refine l6 (i:=1) rfl (λw0 w' hok=>G8 w' (hok.mem 1 _ rfl) (hok.kle rfl rfl hd.hk) hR5) ?_;rintro _ h6 _ ⟨rfl,hR6⟩;have hR6:G9 k h6 b (y7 (U.1) 19):=hR6;apply hq';have hN:nY rr out.length=(y7 (U.1) 19,X):=by
       unfold nY;dsimp only;rw[<-e3,<-hU,hX2];rw[if_neg s0',if_pos ⟨s1,.inl s2⟩]
      refine nQ [.hp c0,.hp h6,.box b1 [pQ rb] 151,.box b2 [zs,zl] 41,.box b3 [sv A.2,oo.v] 41,.box b4 [iQ last] 3,.hp oo.h] λq' hq'=>?_;refine lQ 0 hd.hB ?_;refine l6 (i:=1) rfl (λw0 w' hok=>m6 w' (hok.mem 1 _ rfl) (hok.kle rfl rfl hd.hk) hR6) ?_;rintro _ h7 _ ⟨rfl,hR7⟩;have hR7:G9 k h7 b (x8 (y7 (U.1) 19) [42]):=hR7;obtain⟨r7,e7⟩ :∃x,x=x8 (y7 (U.1) 19) [42]:=⟨_,rfl⟩
      rw[<-e7] at hR7;apply hq';refine o7 λq' hq'=>?_;intro b7;apply hq';refine nQ [.hp c0,.hp h7,.box b1 [pQ rb] 151,.box b2 [zs,zl] 41,.box b3 [sv A.2,oo.v] 41,.box b4 [iQ last] 3,.hp oo.h,.box b7 [iQ (-1)] 3] λq' hq'=>?_;refine iJ (i:=7) (j:=1) dc rfl rfl (λw0 w' hok=>fP (cap:=[pQ b1,pQ b7,pQ b4]) (chk:=kJ names last) (fv:=mK names) w' (hok.inJ (i:=7) (j:=1) (c:=.box b7 [iQ (-1)] 3) (d:=.hp h7) rfl rfl) (hok.disj 7 1 _ _ dc rfl rfl) ((hd.to hR7).mono (hok.le2 (i:=7) (j:=1) (m:=0) dc dc rfl rfl rfl)) (λw2 hi2 hle s _=>by
       have hl0:=(hok.le2 (i:=7) (j:=1) (m:=0) dc dc rfl rfl rfl).trans hle;have hl1:=(hok.le2 (i:=7) (j:=1) (m:=2) dc dc rfl rfl rfl).trans hle;have hl4:=(hok.le2 (i:=7) (j:=1) (m:=5) dc dc rfl rfl rfl).trans hle;rw[hnames];exact fX (b1:=b1) (b7:=b7) (b4:=b4) (rb:=rb) (last:=last) (z:=-1) s w2 hi2 (hl1.cell (J3 b1 (cs:=[pQ rb]) _ rfl)) (hl0.cell hds) (hl4.cell (J3 b4 (cs:=[iQ last]) _ rfl)) (hD.mono (j7 _) hl0) hn)) ?_
      rintro _ _ h8 ⟨rfl,rfl,hR8⟩;have hT:iR names last rr out.length=((P2 r7 (kJ names last)).1,(XO names r7,X)):=by
       unfold iR;dsimp only;rw[hN];dsimp only;rw[<-e7]
      have hlt:=xU names last hRend hio out.length;have hcn:=qT names last hio hcnt;rw[hT] at hlt hcn;dsimp only at hlt hcn;obtain⟨at_,hat⟩ :∃x,x=XO names r7:=⟨_,rfl⟩
      have hat2:wA (-1) (mK names) r7=at_:=hat.symm;rw[<-hat] at hT;rw[hat2];obtain⟨r9,hr9⟩ :∃x,x=(P2 r7 (kJ names last)).1:=⟨_,rfl⟩
      rw[<-hr9] at hR8 hT hlt hcn;apply hq';refine nQ [.hp c0,.hp h8,.box b1 [pQ rb] 151,.box b2 [zs,zl] 41,.box b3 [sv A.2,oo.v] 41,.box b4 [iQ last] 3,.hp oo.h,.box b7 [iQ at_] 3] λq' hq'=>?_;apply hq';refine nQ [.hp c0,.hp h8,.box b1 [pQ rb] 151,.box b2 [zs,zl] 41,.box b3 [sv A.2,oo.v] 41,.box b4 [iQ at_] 3,.hp oo.h,.box b7 [iQ at_] 3] λq' hq'=>?_;intro b8;refine gF (f:=U0) (o:=oo) (L:=out) cQ (e:=80) rfl (i:=6) rfl hO (at_,X) (j:=8) rfl rfl rfl rfl om λo9 hO9=>?_;apply hq';refine⟨(r9,at_,out++[(at_,X)],h8,o9),⟨hR8,hO9,?_,?_⟩,hlt,v6.mk (pj [0,1,2,3,4,5,6]) rfl rfl⟩;focus
       skip
      rotate_left
      ·dsimp only;rw[d6];exact hcn
     rotate_left
     ·refine W8 (b:=[45,48]) ?_;apply hq';refine d8 (λs3=>?_) λs3=>?_;focus
       refine nQ [.hp c0,.hp h5,.box b1 [pQ rb] 151,.box b2 [zs,zl] 41,.box b3 [sv A.2,oo.v] 41,.box b4 [iQ last] 3,.hp oo.h] λq' hq'=>?_;refine lQ 0 hd.hB ?_;refine l6 (i:=1) rfl (λw0 w' hok=>G8 w' (hok.mem 1 _ rfl) (hok.kle rfl rfl hd.hk) hR5) ?_;rintro _ h6 _ ⟨rfl,hR6⟩;have hR6:G9 k h6 b (y7 (U.1) 19):=hR6;apply hq';have hN:nY rr out.length=(y7 (U.1) 19,X):=by
        unfold nY;dsimp only;rw[<-e3,<-hU,hX2];rw[if_neg s0',if_pos ⟨s1,.inr s3⟩]
       refine nQ [.hp c0,.hp h6,.box b1 [pQ rb] 151,.box b2 [zs,zl] 41,.box b3 [sv A.2,oo.v] 41,.box b4 [iQ last] 3,.hp oo.h] λq' hq'=>?_;refine lQ 0 hd.hB ?_;refine l6 (i:=1) rfl (λw0 w' hok=>m6 w' (hok.mem 1 _ rfl) (hok.kle rfl rfl hd.hk) hR6) ?_;rintro _ h7 _ ⟨rfl,hR7⟩;have hR7:G9 k h7 b (x8 (y7 (U.1) 19) [42]):=hR7;obtain⟨r7,e7⟩ :∃x,x=x8 (y7 (U.1) 19) [42]:=⟨_,rfl⟩
       rw[<-e7] at hR7;apply hq';refine o7 λq' hq'=>?_;intro b7;apply hq';refine nQ [.hp c0,.hp h7,.box b1 [pQ rb] 151,.box b2 [zs,zl] 41,.box b3 [sv A.2,oo.v] 41,.box b4 [iQ last] 3,.hp oo.h,.box b7 [iQ (-1)] 3] λq' hq'=>?_;refine iJ (i:=7) (j:=1) dc rfl rfl (λw0 w' hok=>fP (cap:=[pQ b1,pQ b7,pQ b4]) (chk:=kJ names last) (fv:=mK names) w' (hok.inJ (i:=7) (j:=1) (c:=.box b7 [iQ (-1)] 3) (d:=.hp h7) rfl rfl) (hok.disj 7 1 _ _ dc rfl rfl) ((hd.to hR7).mono (hok.le2 (i:=7) (j:=1) (m:=0) dc dc rfl rfl rfl)) (λw2 hi2 hle s _=>by
        have hl0:=(hok.le2 (i:=7) (j:=1) (m:=0) dc dc rfl rfl rfl).trans hle;have hl1:=(hok.le2 (i:=7) (j:=1) (m:=2) dc dc rfl rfl rfl).trans hle;have hl4:=(hok.le2 (i:=7) (j:=1) (m:=5) dc dc rfl rfl rfl).trans hle;rw[hnames];exact fX (b1:=b1) (b7:=b7) (b4:=b4) (rb:=rb) (last:=last) (z:=-1) s w2 hi2 (hl1.cell (J3 b1 (cs:=[pQ rb]) _ rfl)) (hl0.cell hds) (hl4.cell (J3 b4 (cs:=[iQ last]) _ rfl)) (hD.mono (j7 _) hl0) hn)) ?_
       rintro _ _ h8 ⟨rfl,rfl,hR8⟩;have hT:iR names last rr out.length=((P2 r7 (kJ names last)).1,(XO names r7,X)):=by
        unfold iR;dsimp only;rw[hN];dsimp only;rw[<-e7]
       have hlt:=xU names last hRend hio out.length;have hcn:=qT names last hio hcnt;rw[hT] at hlt hcn;dsimp only at hlt hcn;obtain⟨at_,hat⟩ :∃x,x=XO names r7:=⟨_,rfl⟩
       have hat2:wA (-1) (mK names) r7=at_:=hat.symm;rw[<-hat] at hT;rw[hat2];obtain⟨r9,hr9⟩ :∃x,x=(P2 r7 (kJ names last)).1:=⟨_,rfl⟩
       rw[<-hr9] at hR8 hT hlt hcn;apply hq';refine nQ [.hp c0,.hp h8,.box b1 [pQ rb] 151,.box b2 [zs,zl] 41,.box b3 [sv A.2,oo.v] 41,.box b4 [iQ last] 3,.hp oo.h,.box b7 [iQ at_] 3] λq' hq'=>?_;apply hq';refine nQ [.hp c0,.hp h8,.box b1 [pQ rb] 151,.box b2 [zs,zl] 41,.box b3 [sv A.2,oo.v] 41,.box b4 [iQ at_] 3,.hp oo.h,.box b7 [iQ at_] 3] λq' hq'=>?_;intro b8;refine gF (f:=U0) (o:=oo) (L:=out) cQ (e:=80) rfl (i:=6) rfl hO (at_,X) (j:=8) rfl rfl rfl rfl om λo9 hO9=>?_;apply hq';refine⟨(r9,at_,out++[(at_,X)],h8,o9),⟨hR8,hO9,?_,?_⟩,hlt,v6.mk (pj [0,1,2,3,4,5,6]) rfl rfl⟩;focus
        skip
       rotate_left
       ·dsimp only;rw[d6];exact hcn
      rotate_left
      focus
       have hN:nY rr out.length=(U.1,X):=by
        unfold nY;dsimp only;rw[<-e3,<-hU,hX2];rw[if_neg s0',if_neg (λc=>c.2.elim s2 s3)]
       refine nQ [.hp c0,.hp h5,.box b1 [pQ rb] 151,.box b2 [zs,zl] 41,.box b3 [sv A.2,oo.v] 41,.box b4 [iQ last] 3,.hp oo.h] λq' hq'=>?_;refine lQ 0 hd.hB ?_;refine l6 (i:=1) rfl (λw0 w' hok=>m6 w' (hok.mem 1 _ rfl) (hok.kle rfl rfl hd.hk) hR5) ?_;rintro _ h6 _ ⟨rfl,hR6⟩;have hR6:G9 k h6 b (x8 (U.1) [42]):=hR6;obtain⟨r6,e6⟩ :∃x,x=x8 (U.1) [42]:=⟨_,rfl⟩
       rw[<-e6] at hR6;apply hq';refine o7 λq' hq'=>?_;intro b7;apply hq';refine nQ [.hp c0,.hp h6,.box b1 [pQ rb] 151,.box b2 [zs,zl] 41,.box b3 [sv A.2,oo.v] 41,.box b4 [iQ last] 3,.hp oo.h,.box b7 [iQ (-1)] 3] λq' hq'=>?_;refine iJ (i:=7) (j:=1) dc rfl rfl (λw0 w' hok=>fP (cap:=[pQ b1,pQ b7,pQ b4]) (chk:=kJ names last) (fv:=mK names) w' (hok.inJ (i:=7) (j:=1) (c:=.box b7 [iQ (-1)] 3) (d:=.hp h6) rfl rfl) (hok.disj 7 1 _ _ dc rfl rfl) ((hd.to hR6).mono (hok.le2 (i:=7) (j:=1) (m:=0) dc dc rfl rfl rfl)) (λw2 hi2 hle s _=>by
        have hl0:=(hok.le2 (i:=7) (j:=1) (m:=0) dc dc rfl rfl rfl).trans hle;have hl1:=(hok.le2 (i:=7) (j:=1) (m:=2) dc dc rfl rfl rfl).trans hle;have hl4:=(hok.le2 (i:=7) (j:=1) (m:=5) dc dc rfl rfl rfl).trans hle;rw[hnames];exact fX (b1:=b1) (b7:=b7) (b4:=b4) (rb:=rb) (last:=last) (z:=-1) s w2 hi2 (hl1.cell (J3 b1 (cs:=[pQ rb]) _ rfl)) (hl0.cell hds) (hl4.cell (J3 b4 (cs:=[iQ last]) _ rfl)) (hD.mono (j7 _) hl0) hn)) ?_
       rintro _ _ h7 ⟨rfl,rfl,hR7⟩;have hT:iR names last rr out.length=((P2 r6 (kJ names last)).1,(XO names r6,X)):=by
        unfold iR;dsimp only;rw[hN];dsimp only;rw[<-e6]
       have hlt:=xU names last hRend hio out.length;have hcn:=qT names last hio hcnt;rw[hT] at hlt hcn;dsimp only at hlt hcn;obtain⟨at_,hat⟩ :∃x,x=XO names r6:=⟨_,rfl⟩
       have hat2:wA (-1) (mK names) r6=at_:=hat.symm;rw[<-hat] at hT;rw[hat2];obtain⟨r9,hr9⟩ :∃x,x=(P2 r6 (kJ names last)).1:=⟨_,rfl⟩
       rw[<-hr9] at hR7 hT hlt hcn;apply hq';refine nQ [.hp c0,.hp h7,.box b1 [pQ rb] 151,.box b2 [zs,zl] 41,.box b3 [sv A.2,oo.v] 41,.box b4 [iQ last] 3,.hp oo.h,.box b7 [iQ at_] 3] λq' hq'=>?_;apply hq';refine nQ [.hp c0,.hp h7,.box b1 [pQ rb] 151,.box b2 [zs,zl] 41,.box b3 [sv A.2,oo.v] 41,.box b4 [iQ at_] 3,.hp oo.h,.box b7 [iQ at_] 3] λq' hq'=>?_;intro b8;refine gF (f:=U0) (o:=oo) (L:=out) cQ (e:=80) rfl (i:=6) rfl hO (at_,X) (j:=8) rfl rfl rfl rfl om λo9 hO9=>?_;apply hq';refine⟨(r9,at_,out++[(at_,X)],h7,o9),⟨hR7,hO9,?_,?_⟩,hlt,v6.mk (pj [0,1,2,3,4,5,6]) rfl rfl⟩;focus
        skip
       rotate_left
       ·dsimp only;rw[d6];exact hcn
      all_goals
       cases f with
       | zero=>exact absurd hf (by have:=UE hRend hio;omega)
       | succ f=>
        refine⟨f,by dsimp only;omega,?_⟩;dsimp only;rw[<-htr];show _=iP names (f+1) rr last out
        conv=>rhs;unfold iP
        rw[if_pos hio,hT]
    rotate_left
    focus
     apply hq';refine dQ rfl ?_;have hN:nY rr out.length=(U.1,X):=by
      unfold nY;dsimp only;rw[<-e3,<-hU,hX2];rw[if_neg s0',if_neg (λc=>by rw[s1] at c;cases c.1)]
     refine nQ [.hp c0,.hp h5,.box b1 [pQ rb] 151,.box b2 [zs,zl] 41,.box b3 [sv A.2,oo.v] 41,.box b4 [iQ last] 3,.hp oo.h] λq' hq'=>?_;refine lQ 0 hd.hB ?_;refine l6 (i:=1) rfl (λw0 w' hok=>m6 w' (hok.mem 1 _ rfl) (hok.kle rfl rfl hd.hk) hR5) ?_;rintro _ h6 _ ⟨rfl,hR6⟩;have hR6:G9 k h6 b (x8 (U.1) [42]):=hR6;obtain⟨r6,e6⟩ :∃x,x=x8 (U.1) [42]:=⟨_,rfl⟩
     rw[<-e6] at hR6;apply hq';refine o7 λq' hq'=>?_;intro b7;apply hq';refine nQ [.hp c0,.hp h6,.box b1 [pQ rb] 151,.box b2 [zs,zl] 41,.box b3 [sv A.2,oo.v] 41,.box b4 [iQ last] 3,.hp oo.h,.box b7 [iQ (-1)] 3] λq' hq'=>?_;refine iJ (i:=7) (j:=1) dc rfl rfl (λw0 w' hok=>fP (cap:=[pQ b1,pQ b7,pQ b4]) (chk:=kJ names last) (fv:=mK names) w' (hok.inJ (i:=7) (j:=1) (c:=.box b7 [iQ (-1)] 3) (d:=.hp h6) rfl rfl) (hok.disj 7 1 _ _ dc rfl rfl) ((hd.to hR6).mono (hok.le2 (i:=7) (j:=1) (m:=0) dc dc rfl rfl rfl)) (λw2 hi2 hle s _=>by
      have hl0:=(hok.le2 (i:=7) (j:=1) (m:=0) dc dc rfl rfl rfl).trans hle;have hl1:=(hok.le2 (i:=7) (j:=1) (m:=2) dc dc rfl rfl rfl).trans hle;have hl4:=(hok.le2 (i:=7) (j:=1) (m:=5) dc dc rfl rfl rfl).trans hle;rw[hnames];exact fX (b1:=b1) (b7:=b7) (b4:=b4) (rb:=rb) (last:=last) (z:=-1) s w2 hi2 (hl1.cell (J3 b1 (cs:=[pQ rb]) _ rfl)) (hl0.cell hds) (hl4.cell (J3 b4 (cs:=[iQ last]) _ rfl)) (hD.mono (j7 _) hl0) hn)) ?_
     rintro _ _ h7 ⟨rfl,rfl,hR7⟩;have hT:iR names last rr out.length=((P2 r6 (kJ names last)).1,(XO names r6,X)):=by
      unfold iR;dsimp only;rw[hN];dsimp only;rw[<-e6]
     have hlt:=xU names last hRend hio out.length;have hcn:=qT names last hio hcnt;rw[hT] at hlt hcn;dsimp only at hlt hcn;obtain⟨at_,hat⟩ :∃x,x=XO names r6:=⟨_,rfl⟩
     have hat2:wA (-1) (mK names) r6=at_:=hat.symm;rw[<-hat] at hT;rw[hat2];obtain⟨r9,hr9⟩ :∃x,x=(P2 r6 (kJ names last)).1:=⟨_,rfl⟩
     rw[<-hr9] at hR7 hT hlt hcn;apply hq';refine nQ [.hp c0,.hp h7,.box b1 [pQ rb] 151,.box b2 [zs,zl] 41,.box b3 [sv A.2,oo.v] 41,.box b4 [iQ last] 3,.hp oo.h,.box b7 [iQ at_] 3] λq' hq'=>?_;apply hq';refine nQ [.hp c0,.hp h7,.box b1 [pQ rb] 151,.box b2 [zs,zl] 41,.box b3 [sv A.2,oo.v] 41,.box b4 [iQ at_] 3,.hp oo.h,.box b7 [iQ at_] 3] λq' hq'=>?_;intro b8;refine gF (f:=U0) (o:=oo) (L:=out) cQ (e:=80) rfl (i:=6) rfl hO (at_,X) (j:=8) rfl rfl rfl rfl om λo9 hO9=>?_;apply hq';refine⟨(r9,at_,out++[(at_,X)],h7,o9),⟨hR7,hO9,?_,?_⟩,hlt,v6.mk (pj [0,1,2,3,4,5,6]) rfl rfl⟩;focus
      skip
     rotate_left
     ·dsimp only;rw[d6];exact hcn
    all_goals
     cases f with
     | zero=>exact absurd hf (by have:=UE hRend hio;omega)
     | succ f=>
      refine⟨f,by dsimp only;omega,?_⟩;dsimp only;rw[<-htr];show _=iP names (f+1) rr last out
      conv=>rhs;unfold iP
      rw[if_pos hio,hT]
end Go.Proofs.YtpjhmeicbjkcdaaGreatDoor
namespace Go.Proofs.YtpjhmeicbjkcdaaGreatDoor
open Go Go.RowKit Go.Dw
set_option maxHeartbeats 4000000 in
set_option maxRecDepth 10000 in
theorem sY {k h:Hp} {rb b:Nat} {r:RS} {a:Option Addr} {n c:Nat} {L:List kY} {ad:Option Addr} {nd cd:Nat} {DD:List S1} (w:World) (hin:h.In w) (hd:DR ((Hp.whole w).minus h) k h rb b r) (hL:Sl kM 3 ((Hp.whole w).minus h) a n c L) (hn:L.length < 1000000)
  (hds:((Hp.whole w).minus h).cell? ⟨rb,1,none⟩=some (.slice ad nd cd)) (hD:Sl (B0 O1) 4 ((Hp.whole w).minus h) ad nd cd DD) (hdn:DD.length < 1000000) :
  j6 Tryz.prog 83 #[pQ rb,.slice a n c] w (O6 w h λv h' cs=>∃o,cs = [.hp o.h]/\(v=.agg #[sv (wN (L.map λx:kY=>x.1) (DD.map λx:S1=>x.1) r).2.1,sv (wN (L.map λx:kY=>x.1) (DD.map λx:S1=>x.1) r).2.2.1,o.v]/\w8 U0 80 2 o (wN (L.map λx:kY=>x.1) (DD.map λx:S1=>x.1) r).2.2.2/\G9 k h' b (wN (L.map λx:kY=>x.1) (DD.map λx:S1=>x.1) r).1)):=by
 have hlen:=hL.len;refine enterMZ (cx 65) [pQ rb,.slice a n c] hin [.cell 4 96] Tryz.func83 ?_;obtain⟨c0,hc0⟩ :∃c0,c0=(Hp.whole w).minus h:=⟨_,rfl⟩
 rw[<-hc0] at hd hL hds hD ⊢;obtain⟨names,hnames⟩ :∃l,l=L.map λx:kY=>x.1:=⟨_,rfl⟩
 rw[<-hnames];have hnl:n=names.length:=by rw[hnames,l7];exact hlen
 obtain⟨dims,hdims⟩ :∃l,l=DD.map λx:S1=>x.1:=⟨_,rfl⟩
 rw[<-hdims];intro b3 b4;refine o7 λq' hq'=>?_;apply hq';refine nQ [.hp c0,.hp h,.box b3 [.slice a n c] 27,.box b4 [zs,zs,zl] 96] λq' hq'=>?_;refine l6 (i:=1) rfl (λw0 w' hok=>N9 (n:=names.length) (m:=64) (by rw[hnl]) rfl w' (hok.mem 1 _ rfl) (hd.mono (hok.le01 rfl rfl))) ?_;rintro _ h1 _ ⟨rfl,hR1⟩;have hR1:G9 k h1 b (J2 (r) names.length 64):=hR1;apply hq';refine nQ [.hp c0,.hp h1,.box b3 [.slice a n c] 27,.box b4 [zs,zs,zl] 96] λq' hq'=>?_;refine lQ 0 hd.hB ?_;refine l6 (i:=1) rfl (λw0 w' hok=>m6 w' (hok.mem 1 _ rfl) (hok.kle rfl rfl hd.hk) hR1) ?_;rintro _ h2 _ ⟨rfl,hR2⟩;have hR2:G9 k h2 b (x8 (J2 (r) names.length 64) qP):=hR2;obtain⟨r2,e2⟩ :∃x,x=x8 (J2 (r) names.length 64) qP:=⟨_,rfl⟩
 rw[<-e2] at hR2;apply hq';refine nQ [.hp c0,.hp h2,.box b3 [.slice a n c] 27,.box b4 [zs,zs,zl] 96] λq' hq'=>?_;refine call (λw' hm=>V7 _ _ _ w') ?_;rintro _ _ ⟨b5,b6,rfl,rfl⟩;refine l6 (i:=1) rfl (λw0 w' hok=>P8 (cap:=[pQ b5,pQ b6]) (chk:=dY names) w' (hok.mem 1 _ rfl) ((hd.to hR2).mono (hok.le01 rfl rfl)) (λw1 hi1 s _=>T5 (cap:=[pQ b3]) s w1 om (by rw[<-hnl];exact hi1.whole.cell (hok.bx1 (j:=4) (n:=0) rfl rfl dc rfl)) (hi1.whole.cell (hok.bx1 (j:=5) (n:=0) rfl rfl dc rfl)) (λw2 hi2 i hi=>by
  have hle:c0.le (Hp.whole w2):=((hok.le01 rfl rfl).trans hi1.whole).trans hi2.whole;subst hnames;exact IU (L:=L) i w2 ((hi1.whole.trans hi2.whole).cell (hok.bx1 (j:=2) (n:=0) rfl rfl dc rfl)) (hL.mono S5 hle) hi))) ?_
 rintro _ h3 _ ⟨rfl,rfl,hR3⟩;obtain⟨A,hA⟩ :∃x,x=P2 (r2) (dY names):=⟨_,rfl⟩
 rw[<-hA] at hR3 ⊢;intro b7;apply hq';refine nQ [.hp c0,.hp h3,.box b3 [.slice a n c] 27,.box b4 [zs,zs,zl] 96,.box b5 [iQ n] 3,.box b6 [.func (.func 170) #[] #[pQ b3]] 110,.box b7 [sv A.2,zs,zl] 96] λq' hq'=>?_;refine lQ 0 hd.hB ?_;refine l6 (i:=1) rfl (λw0 w' hok=>m6 w' (hok.mem 1 _ rfl) (hok.kle rfl rfl hd.hk) hR3) ?_;rintro _ h4 _ ⟨rfl,hR4⟩;have hR4:G9 k h4 b (x8 (A.1) [58]):=hR4;obtain⟨r4,e4⟩ :∃x,x=x8 (A.1) [58]:=⟨_,rfl⟩
 rw[<-e4] at hR4;apply hq';refine nQ [.hp c0,.hp h4,.box b3 [.slice a n c] 27,.box b4 [zs,zs,zl] 96,.box b5 [iQ n] 3,.box b6 [.func (.func 170) #[] #[pQ b3]] 110,.box b7 [sv A.2,zs,zl] 96] λq' hq'=>?_;refine l6 (i:=1) rfl (λw0 w' hok=>mL w' (hok.mem 1 _ rfl) ((hd.to hR4).mono (hok.le01 rfl rfl)) ((hok.le01 rfl rfl).cell hds) (hD.mono (j7 _) (hok.le01 rfl rfl)) hdn) ?_;rintro _ h5 _ ⟨o,rfl,rfl,hO,hR5⟩;rw[<-hdims] at hR5 hO;obtain⟨F,hF⟩ :∃x,x=sA dims (r4):=⟨_,rfl⟩
 have hF2:sA (DD.map λx:S1=>x.1) r4=F:=by rw[hF,hdims]
 rw[<-hF] at hR5 hO;rw[hF2];apply hq';refine nQ [.hp c0,.hp h5,.box b3 [.slice a n c] 27,.box b4 [zs,zs,zl] 96,.box b5 [iQ n] 3,.box b6 [.func (.func 170) #[] #[pQ b3]] 110,.box b7 [sv A.2,sv F.2.1,o.v] 96,.hp o.h] λq' hq'=>?_;refine lQ 0 hd.hB ?_;refine l6 (i:=1) rfl (λw0 w' hok=>m6 w' (hok.mem 1 _ rfl) (hok.kle rfl rfl hd.hk) hR5) ?_;rintro _ h6 _ ⟨rfl,hR6⟩;have hR6:G9 k h6 b (x8 (F.1) [60,61]):=hR6;obtain⟨r6,e6⟩ :∃x,x=x8 (F.1) [60,61]:=⟨_,rfl⟩
 rw[<-e6] at hR6;apply hq';refine nQ [.hp c0,.hp h6,.box b3 [.slice a n c] 27,.box b4 [zs,zs,zl] 96,.box b5 [iQ n] 3,.box b6 [.func (.func 170) #[] #[pQ b3]] 110,.box b7 [sv A.2,sv F.2.1,o.v] 96,.hp o.h] λq' hq'=>?_;refine lQ 0 hd.hB ?_;refine k7 _ (λw' hm=>S7 w' (hm 1 _ rfl) (hd.hk.trans (hm 0 _ rfl).whole) hR6) ?_;obtain⟨⟨K,T,ln,co⟩,hP⟩ :∃p,p=C7 r6:=⟨_,rfl⟩
 rw[<-hP];intro b8;apply hq';refine nQ [.hp c0,.hp h6,.box b3 [.slice a n c] 27,.box b4 [zs,zs,zl] 96,.box b5 [iQ n] 3,.box b6 [.func (.func 170) #[] #[pQ b3]] 110,.box b7 [sv A.2,sv F.2.1,o.v] 96,.hp o.h,.box b8 [iQ K,sv T,iQ ln,iQ co] 211] λq' hq'=>?_;have eF :∀R9,R9=(if (C7 r6).1≠2\/(C7 r6).2.1≠[48] then y7 r6 14 else r6)->wN names dims r=(x8 (E5 R9) [59],(A.2,F.2)):=by
  rintro _ rfl;unfold wN;dsimp only;rw[<-e2,<-hA,<-e4,<-hF,<-e6]
 refine d8 (λs1=>?_) λs1=>?_
 ·apply hq';refine RW rfl ?_;refine nQ [.hp c0,.hp h6,.box b3 [.slice a n c] 27,.box b4 [zs,zs,zl] 96,.box b5 [iQ n] 3,.box b6 [.func (.func 170) #[] #[pQ b3]] 110,.box b7 [sv A.2,sv F.2.1,o.v] 96,.hp o.h,.box b8 [iQ K,sv T,iQ ln,iQ co] 211] λq' hq'=>?_;refine lQ 0 hd.hB ?_;refine l6 (i:=1) rfl (λw0 w' hok=>G8 w' (hok.mem 1 _ rfl) (hok.kle rfl rfl hd.hk) hR6) ?_;rintro _ h7 _ ⟨rfl,hR7⟩;have hR7:G9 k h7 b (y7 (r6) 14):=hR7;apply hq';refine nQ [.hp c0,.hp h7,.box b3 [.slice a n c] 27,.box b4 [zs,zs,zl] 96,.box b5 [iQ n] 3,.box b6 [.func (.func 170) #[] #[pQ b3]] 110,.box b7 [sv A.2,sv F.2.1,o.v] 96,.hp o.h,.box b8 [iQ K,sv T,iQ ln,iQ co] 211] λq' hq'=>?_;refine lQ 0 hd.hB ?_;refine l6 (i:=1) rfl (λw0 w' hok=>cO w' (hok.mem 1 _ rfl) (hok.kle rfl rfl hd.hk) hR7) ?_;rintro _ h8 _ ⟨rfl,rfl,hR8⟩;have hR8:G9 k h8 b (E5 (y7 (r6) 14)):=hR8;apply hq';refine nQ [.hp c0,.hp h8,.box b3 [.slice a n c] 27,.box b4 [zs,zs,zl] 96,.box b5 [iQ n] 3,.box b6 [.func (.func 170) #[] #[pQ b3]] 110,.box b7 [sv A.2,sv F.2.1,o.v] 96,.hp o.h,.box b8 [iQ K,sv T,iQ ln,iQ co] 211] λq' hq'=>?_;refine lQ 0 hd.hB ?_;refine l6 (i:=1) rfl (λw0 w' hok=>m6 w' (hok.mem 1 _ rfl) (hok.kle rfl rfl hd.hk) hR8) ?_;rintro _ h9 _ ⟨rfl,hR9⟩;have hR9:G9 k h9 b (x8 (E5 (y7 (r6) 14)) [59]):=hR9;apply hq';rw[eF (y7 (r6) 14) (by rw[<-hP,if_pos (.inl s1)])];exact⟨h9,[.hp o.h],⟨o,rfl,rfl,hO,hR9⟩,pk [0,1,7]⟩
 ·refine cG (b:=[48]) ?_;apply hq';refine d8 (λs2=>?_) λs2=>?_
  ·refine nQ [.hp c0,.hp h6,.box b3 [.slice a n c] 27,.box b4 [zs,zs,zl] 96,.box b5 [iQ n] 3,.box b6 [.func (.func 170) #[] #[pQ b3]] 110,.box b7 [sv A.2,sv F.2.1,o.v] 96,.hp o.h,.box b8 [iQ K,sv T,iQ ln,iQ co] 211] λq' hq'=>?_;refine lQ 0 hd.hB ?_;refine l6 (i:=1) rfl (λw0 w' hok=>G8 w' (hok.mem 1 _ rfl) (hok.kle rfl rfl hd.hk) hR6) ?_;rintro _ h7 _ ⟨rfl,hR7⟩;have hR7:G9 k h7 b (y7 (r6) 14):=hR7;apply hq';refine nQ [.hp c0,.hp h7,.box b3 [.slice a n c] 27,.box b4 [zs,zs,zl] 96,.box b5 [iQ n] 3,.box b6 [.func (.func 170) #[] #[pQ b3]] 110,.box b7 [sv A.2,sv F.2.1,o.v] 96,.hp o.h,.box b8 [iQ K,sv T,iQ ln,iQ co] 211] λq' hq'=>?_;refine lQ 0 hd.hB ?_;refine l6 (i:=1) rfl (λw0 w' hok=>cO w' (hok.mem 1 _ rfl) (hok.kle rfl rfl hd.hk) hR7) ?_;rintro _ h8 _ ⟨rfl,rfl,hR8⟩;have hR8:G9 k h8 b (E5 (y7 (r6) 14)):=hR8;apply hq';refine nQ [.hp c0,.hp h8,.box b3 [.slice a n c] 27,.box b4 [zs,zs,zl] 96,.box b5 [iQ n] 3,.box b6 [.func (.func 170) #[] #[pQ b3]] 110,.box b7 [sv A.2,sv F.2.1,o.v] 96,.hp o.h,.box b8 [iQ K,sv T,iQ ln,iQ co] 211] λq' hq'=>?_;refine lQ 0 hd.hB ?_;refine l6 (i:=1) rfl (λw0 w' hok=>m6 w' (hok.mem 1 _ rfl) (hok.kle rfl rfl hd.hk) hR8) ?_;rintro _ h9 _ ⟨rfl,hR9⟩;have hR9:G9 k h9 b (x8 (E5 (y7 (r6) 14)) [59]):=hR9;apply hq';rw[eF (y7 (r6) 14) (by rw[<-hP,if_pos (.inr s2)])];exact⟨h9,[.hp o.h],⟨o,rfl,rfl,hO,hR9⟩,pk [0,1,7]⟩
  ·refine nQ [.hp c0,.hp h6,.box b3 [.slice a n c] 27,.box b4 [zs,zs,zl] 96,.box b5 [iQ n] 3,.box b6 [.func (.func 170) #[] #[pQ b3]] 110,.box b7 [sv A.2,sv F.2.1,o.v] 96,.hp o.h,.box b8 [iQ K,sv T,iQ ln,iQ co] 211] λq' hq'=>?_;refine lQ 0 hd.hB ?_;refine l6 (i:=1) rfl (λw0 w' hok=>cO w' (hok.mem 1 _ rfl) (hok.kle rfl rfl hd.hk) hR6) ?_;rintro _ h7 _ ⟨rfl,rfl,hR7⟩;have hR7:G9 k h7 b (E5 (r6)):=hR7;apply hq';refine nQ [.hp c0,.hp h7,.box b3 [.slice a n c] 27,.box b4 [zs,zs,zl] 96,.box b5 [iQ n] 3,.box b6 [.func (.func 170) #[] #[pQ b3]] 110,.box b7 [sv A.2,sv F.2.1,o.v] 96,.hp o.h,.box b8 [iQ K,sv T,iQ ln,iQ co] 211] λq' hq'=>?_;refine lQ 0 hd.hB ?_;refine l6 (i:=1) rfl (λw0 w' hok=>m6 w' (hok.mem 1 _ rfl) (hok.kle rfl rfl hd.hk) hR7) ?_;rintro _ h8 _ ⟨rfl,hR8⟩;have hR8:G9 k h8 b (x8 (E5 (r6)) [59]):=hR8;apply hq';rw[eF (r6) (by rw[<-hP,if_neg (λc=>c.elim s1 s2)])];exact⟨h8,[.hp o.h],⟨o,rfl,rfl,hO,hR8⟩,pk [0,1,7]⟩
end Go.Proofs.YtpjhmeicbjkcdaaGreatDoor
namespace Go.Proofs.YtpjhmeicbjkcdaaGreatDoor
open Go Go.RowKit Go.Dw
set_option maxHeartbeats 4000000 in
set_option maxRecDepth 10000 in
theorem mE {α:Type} {tk:RS->RS×α} {cells:List α->List Value} {k h:Hp} {rb b bx T g:Nat} {r:RS} {n:Nat} {cap:List Value} (w:World) (hin:((Ch.box bx (cells []) T).h.join h).In w) (hdj:(Ch.box bx (cells []) T).h.dj h) (hd:DR ((Hp.whole w).minus ((Ch.box bx (cells []) T).h.join h)) k h rb b r) (hn:n < 1000000)
  (hc :∀w' (out:List α) (r':RS) (h':Hp),out.length < n->((Ch.box bx (cells out) T).h.join h').In w'->(Ch.box bx (cells out) T).h.dj h'->((Hp.whole w).minus ((Ch.box bx (cells []) T).h.join h)).le ((Hp.whole w').minus ((Ch.box bx (cells out) T).h.join h'))->G9 k h' b r'->
   j6 Tryz.prog g (iQ out.length::cap).toArray w' (O6 w' ((Ch.box bx (cells out) T).h.join h') λ_ h2 cs=>∃ys,cs = [.box bx ys T]/\(ys=cells (out++[(tk r').2])/\G9 k h2 b (tk r').1))) :
  j6 Tryz.prog 160 #[pQ rb,iQ n,.func (.func g) #[] cap.toArray] w (O6 w ((Ch.box bx (cells []) T).h.join h) λ_ h' cs=>∃ys,cs = [.box bx ys T]/\(ys=cells (mD tk n r).2/\G9 k h' b (mD tk n r).1)):=by
 have ok0:=Ok.startB hin hdj;refine enterMSZ (cx 32) [pQ rb,iQ n,.func (.func g) #[] cap.toArray] ok0 [] Tryz.func160 ?_;obtain⟨c0,hc0⟩ :∃c0,c0=(Hp.whole w).minus ((Ch.box bx (cells []) T).h.join h):=⟨_,rfl⟩
 rw[<-hc0] at hd hc ⊢;refine lQ 0 hd.hB ?_;refine l6 (i:=1) rfl (λw0 w' hok=>m6 w' (hok.mem 1 _ rfl) (hok.kle rfl rfl hd.hk) hd.hR) ?_;rintro _ h1 _ ⟨rfl,hR1⟩;obtain⟨r1,e1⟩ :∃x,x=x8 r [40]:=⟨_,rfl⟩
 have hR1:G9 k h1 b r1:=by rw[e1];exact hR1
 have hil :∀i,(bY tk i r1).2.length=i:=by
  intro i;induction i with
  | zero=>rfl
  | succ i ih=>show ((bY tk i r1).2++[_]).length=_;rw[d6,ih];rfl
 refine u6.mk (Nat×Hp) (λg'=>[(0,.v (pQ rb)),(2,.v (.func (.func g) #[] cap.toArray)),(12,.v (iQ n)),(13,.v (iQ g'.1))]) (λg'=>[.hp c0,.hp g'.2,.box bx (cells (bY tk g'.1 r1).2) T])
  (λg'=>g'.1<=n/\G9 k g'.2 b (bY tk g'.1 r1).1) (λg'=>n - g'.1) (0,h1) ⟨f8 _,hR1⟩ (v6.mk (λ_ _ h=>h) rfl rfl) ?_
 rintro⟨i,hh⟩ ⟨hi,hRi⟩;dsimp only at hi hRi ⊢;refine d8 (λg1=>?_) λg1=>?_
 ·have hin1:i < n:=om
  have key :∀h2,G9 k h2 b (if 0 < i then x8 (bY tk i r1).1 [44] else (bY tk i r1).1)->∀w0 w',Ok w0 [.hp c0,.hp h2,.box bx (cells (bY tk i r1).2) T] w'->
    j6 Tryz.prog g (iQ i::cap).toArray w' (O6 w' ((Ch.box bx (cells (bY tk i r1).2) T).h.join h2) λ_ h3 cs=>∃ys,cs = [.box bx ys T]/\(ys=cells (bY tk (i+1) r1).2/\G9 k h3 b (bY tk (i+1) r1).1)):=by
   intro h2 hR2 w0 w' hok;have:=hc w' (bY tk i r1).2 _ h2 (by rw[hil];exact hin1) (hok.inJ (i:=2) (j:=1) (c:=.box bx (cells (bY tk i r1).2) T) (d:=.hp h2) rfl rfl) (hok.disj 2 1 _ _ dc rfl rfl) (hok.le2 (i:=2) (j:=1) (m:=0) dc dc rfl rfl rfl) hR2;rw[hil] at this;exact this
  refine d8 (λg2=>?_) λg2=>?_;focus
   refine lQ 0 hd.hB ?_;refine l6 (i:=1) rfl (λw0 w' hok=>m6 w' (hok.mem 1 _ rfl) (hok.kle rfl rfl hd.hk) hRi) ?_;rintro _ h2 _ ⟨rfl,hR2⟩;refine X9 [.hp c0,.hp h2,.box bx (cells (bY tk i r1).2) T] rfl ?_;refine mM ?_;refine iJ (i:=2) (j:=1) dc rfl rfl (λw0 w' hok=>key h2 (by rw[if_pos om];exact hR2) w0 w' hok) ?_
  rotate_left
  focus
   refine X9 [.hp c0,.hp hh,.box bx (cells (bY tk i r1).2) T] rfl ?_;refine mM ?_;refine iJ (i:=2) (j:=1) dc rfl rfl (λw0 w' hok=>key hh (by rw[if_neg om];exact hRi) w0 w' hok) ?_
  all_goals
   rintro _ _ h3 ⟨rfl,hR3⟩;refine nwo ?_;exact⟨(i+1,h3),⟨hin1,hR3⟩,by dsimp only;omega,v6.mk (λ_ _ h=>h) rfl rfl⟩
 ·have e:i=n:=om
  subst e;refine lQ 0 hd.hB ?_;refine l6 (i:=1) rfl (λw0 w' hok=>m6 w' (hok.mem 1 _ rfl) (hok.kle rfl rfl hd.hk) hRi) ?_;rintro _ h2 _ ⟨rfl,hR2⟩;have eL:mD tk i r=(x8 (bY tk i r1).1 [41],(bY tk i r1).2):=by unfold mD;rw[<-e1]
  rw[eL];exact⟨h2,[.box bx (cells (bY tk i r1).2) T],⟨_,rfl,rfl,hR2⟩,pk [0,1,2]⟩
end Go.Proofs.YtpjhmeicbjkcdaaGreatDoor
namespace Go.Dw
open Go Go.RowKit
theorem CQ {X:R5} {s:List Ch} (hX:X.Good) {T e len:Nat} {te ti:TI} (ht:I2 X.tt T=some ti) (hk:ti.k=.ar len e) (hte:I2 X.tt e=some te) (h1:te.size=1) {b off:Nat} {k:IntKind} {x:Int} (m:Nat) (hx:x=m) (hm:m < len) {q:TV->Prop}
  (hq:q (.v (.pointer (some ⟨b,0+(off+m),none⟩)))):B7 X.P s (Instr.indexAt T (.pointer (some ⟨b,off,none⟩)) (.int k x)) q:=
 EU hX ht hk hte m hx (Nat.ble_eq_true_of_le hm) (by rw[h1,E3,<-y8 (off+m)];exact hq)
end Go.Dw
namespace Go.Proofs.YtpjhmeicbjkcdaaGreatDoor
open Go Go.RowKit Go.Dw
def rK {α:Type} (f:α->Value) (z:Value) (n:Nat) (out:List α):List Value:=out.map f++p7 (n - out.length) z
theorem iW {α:Type} (f:α->Value) (z:Value) {n:Nat} {out:List α} (h:out.length<=n):(rK f z n out).length=n:=by
 unfold rK;rw[d6,l7,O9];omega
theorem yP {α:Type} (f:α->Value) (z:Value) {n:Nat} {out:List α} (x:α) (h:out.length < n):(rK f z n out).set out.length (f x)=rK f z n (out++[x]):=by
 unfold rK;obtain⟨m,hm⟩ :∃m,n - out.length=m+1:=⟨n - out.length - 1,om⟩
 rw[hm,qF,JF _ _ (by rw[l7];exact k8 _),l7,bS,List.set_cons_zero,E9,o6,d6];have:n - (out.length+[x].length)=m:=by simp only[d7,d9];omega
 rw[this];rfl
theorem GC {α:Type} (a b c:List α) (i:Nat) (x:α) (h:i < b.length):(a++(b++c)).set (a.length+i) x=a++(b.set i x++c):=by
 rw[JF _ _ (aO _ _),BS,List.set_append_left _ _ h]
section
variable {k h:Hp} {rb b b1 bx:Nat} {r:RS} {xs:List Value}
theorem KS (i:Nat) (w:World) (hin:((Ch.box bx xs 122).h.join h).In w) (hdj:(Ch.box bx xs 122).h.dj h) (hb1:((Hp.whole w).minus ((Ch.box bx xs 122).h.join h)).cell? ⟨b1,0,none⟩=some (pQ rb)) (hd:DR ((Hp.whole w).minus ((Ch.box bx xs 122).h.join h)) k h rb b r) (hi:i < 3) (hx:xs.length=3) :
  j6 Tryz.prog 161 #[iQ i,pQ b1,pQ bx] w (O6 w ((Ch.box bx xs 122).h.join h) λ_ h2 cs=>∃ys,cs = [.box bx ys 122]/\(ys=xs.set (i) (iQ (Z1 r (-4096) 4096).2)/\G9 k h2 b (Z1 r (-4096) 4096).1)):=by
 have ok0:=Ok.startB hin hdj;refine enterMSZ (cx 11) [iQ i,pQ b1,pQ bx] ok0 [] Tryz.func161 ?_;obtain⟨c0,hc0⟩ :∃c0,c0=(Hp.whole w).minus ((Ch.box bx xs 122).h.join h):=⟨_,rfl⟩
 rw[<-hc0] at hb1 hd ⊢;refine lQ 0 hb1 ?_;refine lQ 0 hd.hB ?_;refine l6 (i:=1) rfl (λw0 w' hok=>tK w' (hok.mem 1 _ rfl) (hok.kle rfl rfl hd.hk) hd.hR) ?_;rintro _ h2 _ ⟨rfl,rfl,hR2⟩;refine CQ cQ (T:=122) (e:=3) (len:=3) rfl rfl rfl rfl i rfl hi ?_;refine fI cQ (i:=2) (j:=0+i) rfl rfl rfl om rfl rfl ?_;have ei:0+i=i:=om
 rw[ei];exact⟨h2,[.box bx (xs.set (i) (iQ (Z1 r (-4096) 4096).2)) 122],⟨_,rfl,rfl,hR2⟩,pk [0,1,2]⟩
theorem RG (i:Nat) (w:World) (hin:((Ch.box bx xs 93).h.join h).In w) (hdj:(Ch.box bx xs 93).h.dj h) (hb1:((Hp.whole w).minus ((Ch.box bx xs 93).h.join h)).cell? ⟨b1,0,none⟩=some (pQ rb)) (hd:DR ((Hp.whole w).minus ((Ch.box bx xs 93).h.join h)) k h rb b r) (hi:i < 4) (hx:xs.length=9) :
  j6 Tryz.prog 165 #[iQ i,pQ b1,pQ bx] w (O6 w ((Ch.box bx xs 93).h.join h) λ_ h2 cs=>∃ys,cs = [.box bx ys 93]/\(ys=xs.set (2+i) (iQ (Z1 r (-12) 12).2)/\G9 k h2 b (Z1 r (-12) 12).1)):=by
 have ok0:=Ok.startB hin hdj;refine enterMSZ (cx 13) [iQ i,pQ b1,pQ bx] ok0 [] Tryz.func165 ?_;obtain⟨c0,hc0⟩ :∃c0,c0=(Hp.whole w).minus ((Ch.box bx xs 93).h.join h):=⟨_,rfl⟩
 rw[<-hc0] at hb1 hd ⊢;refine lQ 0 hb1 ?_;refine lQ 0 hd.hB ?_;refine l6 (i:=1) rfl (λw0 w' hok=>tK w' (hok.mem 1 _ rfl) (hok.kle rfl rfl hd.hk) hd.hR) ?_;rintro _ h2 _ ⟨rfl,rfl,hR2⟩;refine CQ cQ (T:=87) (e:=3) (len:=4) rfl rfl rfl rfl i rfl hi ?_;refine fI cQ (i:=2) (j:=0+2+0+i) rfl rfl rfl om rfl rfl ?_;have ei:0+2+0+i=2+i:=om
 rw[ei];exact⟨h2,[.box bx (xs.set (2+i) (iQ (Z1 r (-12) 12).2)) 93],⟨_,rfl,rfl,hR2⟩,pk [0,1,2]⟩
theorem RF (i:Nat) (w:World) (hin:((Ch.box bx xs 93).h.join h).In w) (hdj:(Ch.box bx xs 93).h.dj h) (hb1:((Hp.whole w).minus ((Ch.box bx xs 93).h.join h)).cell? ⟨b1,0,none⟩=some (pQ rb)) (hd:DR ((Hp.whole w).minus ((Ch.box bx xs 93).h.join h)) k h rb b r) (hi:i < 3) (hx:xs.length=9) :
  j6 Tryz.prog 166 #[iQ i,pQ b1,pQ bx] w (O6 w ((Ch.box bx xs 93).h.join h) λ_ h2 cs=>∃ys,cs = [.box bx ys 93]/\(ys=xs.set (6+i) (sv (R6 r).2)/\G9 k h2 b (R6 r).1)):=by
 have ok0:=Ok.startB hin hdj;refine enterMSZ (cx 10) [iQ i,pQ b1,pQ bx] ok0 [] Tryz.func166 ?_;obtain⟨c0,hc0⟩ :∃c0,c0=(Hp.whole w).minus ((Ch.box bx xs 93).h.join h):=⟨_,rfl⟩
 rw[<-hc0] at hb1 hd ⊢;refine lQ 0 hb1 ?_;refine l6 (i:=1) rfl (λw0 w' hok=>W5 w' (hok.mem 1 _ rfl) (hd.mono (hok.le01 rfl rfl))) ?_;rintro _ h2 _ ⟨rfl,rfl,hR2⟩;refine CQ cQ (T:=89) (e:=38) (len:=3) rfl rfl rfl rfl i rfl hi ?_;refine fI cQ (i:=2) (j:=0+2+4+i) rfl rfl rfl om rfl rfl ?_;have ei:0+2+4+i=6+i:=om
 rw[ei];exact⟨h2,[.box bx (xs.set (6+i) (sv (R6 r).2)) 93],⟨_,rfl,rfl,hR2⟩,pk [0,1,2]⟩
end
end Go.Proofs.YtpjhmeicbjkcdaaGreatDoor
namespace Go.Proofs.YtpjhmeicbjkcdaaGreatDoor
open Go Go.RowKit Go.Dw
theorem LQ {b:Nat} {s:e8} (p:W3) (a:Option Addr) (n c:Nat) (w:World) (hc:(Hp.whole w).cell? ⟨b,0,none⟩=some (sv s)):j6 Tryz.prog 164 #[.agg #[sv p.1,iQ p.2.1,.slice a n c],pQ b] w (v7 w (.bool (decide (p.1=s)))):=by
 refine enterZ (cx 8) [.agg #[sv p.1,iQ p.2.1,.slice a n c],pQ b] [.tmp 3] Tryz.func164 ?_;intro b2;refine lQ 0 hc ?_;refine W8 ?_;exact⟨[],⟨rfl,rfl⟩,pk [0]⟩
theorem YQ (P:List W3) (s:e8):(P.any λp:W3=>decide (p.1=s))=decide (s∈P.map λp:W3=>p.1):=by
 induction P with
 | nil=>rfl
 | cons y r ih=>
  rw[Nc,ih,<-Bool.decide_or,decide_eq_decide,N7,A8];exact⟨λh=>h.imp_left Eq.symm,λh=>h.imp_left Eq.symm⟩
theorem RD {b3:Nat} {a:Option Addr} {n c:Nat} {P:List W3} (s:e8) (w:World) (hc:(Hp.whole w).cell? ⟨b3,0,none⟩=some (.slice a n c)) (hP:Sl bN 3 (Hp.whole w) a n c P) (hn:P.length < 1000000) :
  j6 Tryz.prog 163 #[sv s,pQ b3] w (v7 w (iQ (TB (P.map λp:W3=>p.1) s))):=by
 have hpl:=hP.len;refine enterZ (cx 9) [sv s,pQ b3] [.tmp 3] Tryz.func163 ?_;intro b2;refine lQ 0 hc ?_;refine k7 _ (λw' hm=>cB 164 (pQ b2) (λp:W3=>decide (p.1=s)) w' (hP.mono I9 (hm 0 _ rfl).whole) om (λw2 hi2 p _ cs _ hcs=>by
  obtain⟨a3,n3,c3,rfl⟩:=hcs;exact LQ p a3 n3 c3 w2 ((hi2.le (hm 1 _ rfl).whole).whole.cell (bP b2 _ _)))) ?_
 rw[YQ];unfold TB;refine s8 (λg1=>?_) λg1=>?_
 ·rw[if_neg (by simpa using g1)];exact⟨[],⟨rfl,rfl⟩,pk [0]⟩
 ·rw[if_pos (by simpa using g1)];exact⟨[],⟨rfl,rfl⟩,pk [0]⟩
end Go.Proofs.YtpjhmeicbjkcdaaGreatDoor
namespace Go.Proofs.YtpjhmeicbjkcdaaGreatDoor
open Go Go.RowKit Go.Dw
theorem HO {α:Type} (tk:RS->RS×α) :∀n r,(bY tk n r).2.length=n
 | 0,_=>rfl
 | n+1,r=>by show ((bY tk n r).2++[_]).length=_;rw[d6,HO tk n r];rfl
theorem zE {α:Type} (tk:RS->RS×α) (n:Nat) (r:RS):(mD tk n r).2.length=n:=HO tk n _
abbrev vI (x:Int):Value:=iQ x
abbrev vS (x:e8):Value:=sv x
def kK (A B:e8) (C:List Int) (D:List e8):List Value:=[vS A,vS B]++(rK vI (vI 0) 4 C++rK vS (vS []) 3 D)
theorem HU {A B:e8} {C:List Int} {D:List e8} (h1:C.length<=4) (h2:D.length<=3):(kK A B C D).length=9:=by
 unfold kK;rw[d6,d6,iW _ _ h1,iW _ _ h2];rfl
theorem RE {A B:e8} {C:List Int} {D:List e8} (x:Int) (h:C.length < 4):(kK A B C D).set (2+C.length) (vI x)=kK A B (C++[x]) D:=by
 unfold kK;rw[<-yP vI (vI 0) x h];exact GC [vS A,vS B] _ _ C.length (vI x) (by rw[iW _ _ (kA h)];exact h)
theorem LT {A B:e8} {C:List Int} {D:List e8} (x:e8) (hC:C.length=4) (h:D.length < 3):(kK A B C D).set (6+D.length) (vS x)=kK A B C (D++[x]):=by
 unfold kK;rw[<-yP vS (vS []) x h];have e:=GC ([vS A,vS B]++rK vI (vI 0) 4 C) (rK vS (vS []) 3 D) [] D.length (vS x) (by rw[iW _ _ (kA h)];exact h);rw[p8,p8,d6,iW _ _ (Nat.le_of_eq hC),o6,o6] at e;exact e
theorem VV {A B:e8} {C:List Int} {D:List e8} (hC:C.length=4) (hD:D.length=3):kK A B C D=dM (A,B,(C.getD 0 0,C.getD 1 0,C.getD 2 0,C.getD 3 0),(D.getD 0 [],D.getD 1 [],D.getD 2 [])):=by
 match C,hC with
 | [a,b,c,d],_=>
  match D,hD with
  | [x,y,z],_=>rfl
set_option maxHeartbeats 4000000 in
set_option maxRecDepth 10000 in
theorem wK {k h:Hp} {rb b:Nat} {r:RS} {a ap:Option Addr} {n c np cp:Nat} {L:List mX} {P:List W3} (w:World) (hin:h.In w) (hd:DR ((Hp.whole w).minus h) k h rb b r) (hL:Sl (B0 dM) 9 ((Hp.whole w).minus h) a n c L) (hn:L.length < 1000000)
  (hP:Sl bN 3 ((Hp.whole w).minus h) ap np cp P) (hpn:P.length < 1000000) :
  j6 Tryz.prog 81 #[pQ rb,.agg #[.slice ap np cp,.slice a n c]] w (SL w k h b (.agg (dM (BD (P.map λp:W3=>p.1) (L.map λx:mX=>x.1) r).2).toArray) (BD (P.map λp:W3=>p.1) (L.map λx:mX=>x.1) r).1):=by
 have hlen:=hL.len;refine enterMZ (cx 56) [pQ rb,.agg #[.slice ap np cp,.slice a n c]] hin [.cell 4 93] Tryz.func81 ?_;obtain⟨c0,hc0⟩ :∃c0,c0=(Hp.whole w).minus h:=⟨_,rfl⟩
 rw[<-hc0] at hd hL hP ⊢;obtain⟨names,hnames⟩ :∃l,l=L.map λx:mX=>x.1:=⟨_,rfl⟩
 rw[<-hnames];have hnl:n=names.length:=by rw[hnames,l7];exact hlen
 obtain⟨parts,hparts⟩ :∃l,l=P.map λp:W3=>p.1:=⟨_,rfl⟩
 rw[<-hparts];intro b2 b3 b4;intro b5;refine o7 λq' hq'=>?_;apply hq';refine nQ [.hp c0,.hp h,.box b2 [pQ rb] 151,.box b3 [.slice ap np cp,.slice a n c] 25,.box b4 [zs,zs,iQ 0,iQ 0,iQ 0,iQ 0,zs,zs,zs] 93,.box b5 [.slice a n c] 23] λq' hq'=>?_;refine l6 (i:=1) rfl (λw0 w' hok=>N9 (n:=names.length) (m:=12) (by rw[hnl]) rfl w' (hok.mem 1 _ rfl) (hd.mono (hok.le01 rfl rfl))) ?_;rintro _ h1 _ ⟨rfl,hR1⟩;have hR1:G9 k h1 b (J2 (r) names.length 12):=hR1;apply hq';refine nQ [.hp c0,.hp h1,.box b2 [pQ rb] 151,.box b3 [.slice ap np cp,.slice a n c] 25,.box b4 [zs,zs,iQ 0,iQ 0,iQ 0,iQ 0,zs,zs,zs] 93,.box b5 [.slice a n c] 23] λq' hq'=>?_;refine lQ 0 hd.hB ?_;refine l6 (i:=1) rfl (λw0 w' hok=>m6 w' (hok.mem 1 _ rfl) (hok.kle rfl rfl hd.hk) hR1) ?_;rintro _ h2 _ ⟨rfl,hR2⟩;have hR2:G9 k h2 b (x8 (J2 (r) names.length 12) vD):=hR2;obtain⟨r2,e2⟩ :∃x,x=x8 (J2 (r) names.length 12) vD:=⟨_,rfl⟩
 rw[<-e2] at hR2;apply hq';obtain⟨A,hA⟩ :∃x,x=P2 (r2) (dY names):=⟨_,rfl⟩
 refine s6.cut (Hp×Nat) (λ_=>[(2,.bx 2 0),(3,.bx 3 0),(4,.bx 4 0),(5,.bx 5 0),(6,.bx 6 0)]) (λg=>[.hp c0,.hp g.1,.box b2 [pQ rb] 151,.box b3 [.slice ap np cp,.slice a n c] 25,.box b4 [zs,zs,iQ 0,iQ 0,iQ 0,iQ 0,zs,zs,zs] 93,.box b5 [.slice a n c] 23,.box g.2 [sv A.2,zs,iQ 0,iQ 0,iQ 0,iQ 0,zs,zs,zs] 93]) (λg=>G9 k g.1 b A.1) (s6.by_order0 cQ (.take 0 <| .take 1 <| .take 2 <| .take 3 <| .two 4 (.two 5 (.take 6 <| .run 7 <| .run 8 <| .done) 7 (.run 5 <| .take 6 <| .run 8 <| .done)) 7 (.run 4 <| .run 5 <| .take 6 <| .run 8 <| .done)) kr (K9 _ 1) ?_) ?_
 ·refine⟨?_,?_⟩
  ·refine call (λw' hm=>V7 _ _ _ w') ?_;rintro _ _ ⟨b7,b8,rfl,rfl⟩;refine⟨sK,?_⟩;refine⟨?_,?_⟩
   ·refine l6 (i:=1) rfl (λw0 w' hok=>P8 (cap:=[pQ b7,pQ b8]) (chk:=dY names) w' (hok.mem 1 _ rfl) ((hd.to hR2).mono (hok.le01 rfl rfl)) (λw1 hi1 s _=>T5 (cap:=[pQ b5]) s w1 om (by rw[<-hnl];exact hi1.whole.cell (hok.bx1 (j:=6) (n:=0) rfl rfl dc rfl)) (hi1.whole.cell (hok.bx1 (j:=7) (n:=0) rfl rfl dc rfl)) (λw2 hi2 i hi=>by
     have hle:c0.le (Hp.whole w2):=((hok.le01 rfl rfl).trans hi1.whole).trans hi2.whole;subst hnames;exact mJ (L:=L) i w2 ((hi1.whole.trans hi2.whole).cell (hok.bx1 (j:=5) (n:=0) rfl rfl dc rfl)) (hL.mono (j7 _) hle) hi))) ?_
    rintro _ h9 _ ⟨rfl,rfl,hR9⟩;rw[<-hA] at hR9 ⊢;refine⟨sK,?_⟩;intro b9;refine⟨sK,?_⟩;exact⟨(h9,b9),hR9,v6.mk (pj [0,1,2,3,4,5,8]) rfl rfl⟩
   ·intro b9;refine⟨sK,?_⟩;refine l6 (i:=1) rfl (λw0 w' hok=>P8 (cap:=[pQ b7,pQ b8]) (chk:=dY names) w' (hok.mem 1 _ rfl) ((hd.to hR2).mono (hok.le01 rfl rfl)) (λw1 hi1 s _=>T5 (cap:=[pQ b5]) s w1 om (by rw[<-hnl];exact hi1.whole.cell (hok.bx1 (j:=6) (n:=0) rfl rfl dc rfl)) (hi1.whole.cell (hok.bx1 (j:=7) (n:=0) rfl rfl dc rfl)) (λw2 hi2 i hi=>by
     have hle:c0.le (Hp.whole w2):=((hok.le01 rfl rfl).trans hi1.whole).trans hi2.whole;subst hnames;exact mJ (L:=L) i w2 ((hi1.whole.trans hi2.whole).cell (hok.bx1 (j:=5) (n:=0) rfl rfl dc rfl)) (hL.mono (j7 _) hle) hi))) ?_
    rintro _ h9 _ ⟨rfl,rfl,hR9⟩;rw[<-hA] at hR9 ⊢;refine⟨sK,?_⟩;exact⟨(h9,b9),hR9,v6.mk (pj [0,1,2,3,4,5,8]) rfl rfl⟩
  ·intro b9;refine⟨sK,?_⟩;refine call (λw' hm=>V7 _ _ _ w') ?_;rintro _ _ ⟨b7,b8,rfl,rfl⟩;refine⟨sK,?_⟩;refine l6 (i:=1) rfl (λw0 w' hok=>P8 (cap:=[pQ b7,pQ b8]) (chk:=dY names) w' (hok.mem 1 _ rfl) ((hd.to hR2).mono (hok.le01 rfl rfl)) (λw1 hi1 s _=>T5 (cap:=[pQ b5]) s w1 om (by rw[<-hnl];exact hi1.whole.cell (hok.bx1 (j:=7) (n:=0) rfl rfl dc rfl)) (hi1.whole.cell (hok.bx1 (j:=8) (n:=0) rfl rfl dc rfl)) (λw2 hi2 i hi=>by
    have hle:c0.le (Hp.whole w2):=((hok.le01 rfl rfl).trans hi1.whole).trans hi2.whole;subst hnames;exact mJ (L:=L) i w2 ((hi1.whole.trans hi2.whole).cell (hok.bx1 (j:=5) (n:=0) rfl rfl dc rfl)) (hL.mono (j7 _) hle) hi))) ?_
   rintro _ h9 _ ⟨rfl,rfl,hR9⟩;rw[<-hA] at hR9 ⊢;refine⟨sK,?_⟩;exact⟨(h9,b9),hR9,v6.mk (pj [0,1,2,3,4,5,6]) rfl rfl⟩
 rintro⟨h9,b6⟩ hR9 _;dsimp only at hR9 ⊢;refine nQ [.hp c0,.hp h9,.box b2 [pQ rb] 151,.box b3 [.slice ap np cp,.slice a n c] 25,.box b4 [zs,zs,iQ 0,iQ 0,iQ 0,iQ 0,zs,zs,zs] 93,.box b5 [.slice a n c] 23,.box b6 [sv A.2,zs,iQ 0,iQ 0,iQ 0,iQ 0,zs,zs,zs] 93] λq' hq'=>?_;refine lQ 0 hd.hB ?_;refine l6 (i:=1) rfl (λw0 w' hok=>m6 w' (hok.mem 1 _ rfl) (hok.kle rfl rfl hd.hk) hR9) ?_;rintro _ h10 _ ⟨rfl,hR10⟩;have hR10:G9 k h10 b (x8 (A.1) Jk):=hR10;obtain⟨r10,e10⟩ :∃x,x=x8 (A.1) Jk:=⟨_,rfl⟩
 rw[<-e10] at hR10;apply hq';refine nQ [.hp c0,.hp h10,.box b2 [pQ rb] 151,.box b3 [.slice ap np cp,.slice a n c] 25,.box b4 [zs,zs,iQ 0,iQ 0,iQ 0,iQ 0,zs,zs,zs] 93,.box b5 [.slice a n c] 23,.box b6 [sv A.2,zs,iQ 0,iQ 0,iQ 0,iQ 0,zs,zs,zs] 93] λq' hq'=>?_;refine l6 (i:=1) rfl (λw0 w' hok=>P8 (cap:=[pQ b3]) (chk:=TB parts) w' (hok.mem 1 _ rfl) ((hd.to hR10).mono (hok.le01 rfl rfl)) (λw1 hi1 s _=>by
  rw[hparts];exact RD s w1 (hi1.whole.cell (hok.bx1 (j:=3) (n:=0) rfl rfl dc rfl)) (hP.mono I9 ((hok.le01 rfl rfl).trans hi1.whole)) hpn)) ?_
 rintro _ h11 _ ⟨rfl,rfl,hR11⟩;obtain⟨B,hB⟩ :∃x,x=P2 (r10) (TB parts):=⟨_,rfl⟩
 rw[<-hB] at hR11 ⊢;apply hq';refine nQ [.hp c0,.hp h11,.box b2 [pQ rb] 151,.box b3 [.slice ap np cp,.slice a n c] 25,.box b4 [zs,zs,iQ 0,iQ 0,iQ 0,iQ 0,zs,zs,zs] 93,.box b5 [.slice a n c] 23,.box b6 (kK A.2 B.2 [] []) 93] λq' hq'=>?_;refine lQ 0 hd.hB ?_;refine l6 (i:=1) rfl (λw0 w' hok=>m6 w' (hok.mem 1 _ rfl) (hok.kle rfl rfl hd.hk) hR11) ?_;rintro _ h12 _ ⟨rfl,hR12⟩;have hR12:G9 k h12 b (x8 (B.1) SX):=hR12;obtain⟨r12,e12⟩ :∃x,x=x8 (B.1) SX:=⟨_,rfl⟩
 rw[<-e12] at hR12;apply hq';refine nQ [.hp c0,.hp h12,.box b2 [pQ rb] 151,.box b3 [.slice ap np cp,.slice a n c] 25,.box b4 [zs,zs,iQ 0,iQ 0,iQ 0,iQ 0,zs,zs,zs] 93,.box b5 [.slice a n c] 23,.box b6 (kK A.2 B.2 [] []) 93] λq' hq'=>?_;refine iJ (i:=6) (j:=1) dc rfl rfl (λw0 w' hok=>mE (tk:=λr=>Z1 r (-12) 12) (cells:=λo=>kK A.2 B.2 o []) (n:=4) (cap:=[pQ b2,pQ b6]) w' (hok.inJ (i:=6) (j:=1) (c:=.box b6 (kK A.2 B.2 [] []) 93) (d:=.hp h12) rfl rfl) (hok.disj 6 1 _ _ dc rfl rfl) ((hd.to hR12).mono (hok.le2 (i:=6) (j:=1) (m:=0) dc dc rfl rfl rfl)) dc (λw1 out r' h' ho hi1 hd1 hle hR'=>by
  have hl0:=(hok.le2 (i:=6) (j:=1) (m:=0) dc dc rfl rfl rfl).trans hle;have hl2:=(hok.le2 (i:=6) (j:=1) (m:=2) dc dc rfl rfl rfl).trans hle;have:=RG (b1:=b2) out.length w1 hi1 hd1 (hl2.cell (J3 b2 (cs:=[pQ rb]) _ rfl)) ((hd.to hR').mono hl0) ho (HU (kA ho) (f8 _));rw[RE _ ho] at this;exact this)) ?_
 rintro _ _ h13 ⟨rfl,hR13⟩;obtain⟨C,hC⟩ :∃x,x=mD (λr=>Z1 r (-12) 12) 4 (r12):=⟨_,rfl⟩
 have lC:C.2.length=4:=by rw[hC];exact zE _ _ _
 rw[<-hC] at hR13 ⊢;apply hq';refine nQ [.hp c0,.hp h13,.box b2 [pQ rb] 151,.box b3 [.slice ap np cp,.slice a n c] 25,.box b4 [zs,zs,iQ 0,iQ 0,iQ 0,iQ 0,zs,zs,zs] 93,.box b5 [.slice a n c] 23,.box b6 (kK A.2 B.2 C.2 []) 93] λq' hq'=>?_;refine lQ 0 hd.hB ?_;refine l6 (i:=1) rfl (λw0 w' hok=>m6 w' (hok.mem 1 _ rfl) (hok.kle rfl rfl hd.hk) hR13) ?_;rintro _ h14 _ ⟨rfl,hR14⟩;have hR14:G9 k h14 b (x8 (C.1) SY):=hR14;obtain⟨r14,e14⟩ :∃x,x=x8 (C.1) SY:=⟨_,rfl⟩
 rw[<-e14] at hR14;apply hq';refine nQ [.hp c0,.hp h14,.box b2 [pQ rb] 151,.box b3 [.slice ap np cp,.slice a n c] 25,.box b4 [zs,zs,iQ 0,iQ 0,iQ 0,iQ 0,zs,zs,zs] 93,.box b5 [.slice a n c] 23,.box b6 (kK A.2 B.2 C.2 []) 93] λq' hq'=>?_;refine iJ (i:=6) (j:=1) dc rfl rfl (λw0 w' hok=>mE (tk:=R6) (cells:=λo=>kK A.2 B.2 C.2 o) (n:=3) (cap:=[pQ b2,pQ b6]) w' (hok.inJ (i:=6) (j:=1) (c:=.box b6 (kK A.2 B.2 C.2 []) 93) (d:=.hp h14) rfl rfl) (hok.disj 6 1 _ _ dc rfl rfl) ((hd.to hR14).mono (hok.le2 (i:=6) (j:=1) (m:=0) dc dc rfl rfl rfl)) dc (λw1 out r' h' ho hi1 hd1 hle hR'=>by
  have hl0:=(hok.le2 (i:=6) (j:=1) (m:=0) dc dc rfl rfl rfl).trans hle;have hl2:=(hok.le2 (i:=6) (j:=1) (m:=2) dc dc rfl rfl rfl).trans hle;have:=RF (b1:=b2) out.length w1 hi1 hd1 (hl2.cell (J3 b2 (cs:=[pQ rb]) _ rfl)) ((hd.to hR').mono hl0) ho (HU (Nat.le_of_eq lC) (kA ho));rw[LT _ lC ho] at this;exact this)) ?_
 rintro _ _ h15 ⟨rfl,hR15⟩;obtain⟨D,hD⟩ :∃x,x=mD (R6) 3 (r14):=⟨_,rfl⟩
 have lD:D.2.length=3:=by rw[hD];exact zE _ _ _
 rw[<-hD] at hR15 ⊢;apply hq';refine nQ [.hp c0,.hp h15,.box b2 [pQ rb] 151,.box b3 [.slice ap np cp,.slice a n c] 25,.box b4 [zs,zs,iQ 0,iQ 0,iQ 0,iQ 0,zs,zs,zs] 93,.box b5 [.slice a n c] 23,.box b6 (kK A.2 B.2 C.2 D.2) 93] λq' hq'=>?_;rw[VV lC lD];have eI:BD parts names r=(x8 D.1 [59],(A.2,B.2,(C.2.getD 0 0,C.2.getD 1 0,C.2.getD 2 0,C.2.getD 3 0),(D.2.getD 0 [],D.2.getD 1 [],D.2.getD 2 []))):=by
  unfold BD;dsimp only;rw[<-e2,<-hA,<-e10,<-hB,<-e12,<-hC,<-e14,<-hD]
 refine lQ 0 hd.hB ?_;refine l6 (i:=1) rfl (λw0 w' hok=>m6 w' (hok.mem 1 _ rfl) (hok.kle rfl rfl hd.hk) hR15) ?_;rintro _ h16 _ ⟨rfl,hR16⟩;have hR16:G9 k h16 b (x8 (D.1) [59]):=hR16;apply hq';rw[eI];exact⟨h16,[],⟨rfl,rfl,hR16⟩,pk [0,1]⟩
end Go.Proofs.YtpjhmeicbjkcdaaGreatDoor
namespace Go.Dw
open Go Go.RowKit
abbrev Gg (sz:Nat):={ l:List Value // l.length=sz/\aB l=true }
def aT {α:Type} (R:uU α) (T sz:Nat) (H:Hp) (o:Os) (L:List α):Prop:=
 ∃C:List (Gg sz),w8 (λc:Gg sz=>c.1) T sz o C/\C.length=L.length/\∀i (h1:i < L.length) (h2:i < C.length),R H L[i] C[i].1
section
variable {α:Type} {R:uU α} {T sz:Nat} {H K:Hp} {o:Os} {L:List α}
theorem aT.nil:aT R T sz H Os.nil []:=⟨[],w8.nil _ _ _,rfl,λ_ h1=>absurd h1 (H5 _)⟩
theorem aT.mono (hR:AQ R) (hl:H.le K):aT R T sz H o L->aT R T sz K o L
 | ⟨C,h1,h2,h3⟩=>⟨C,h1,h2,λi a b=>hR _ _ _ _ hl (h3 i a b)⟩
theorem aT.len:aT R T sz H o L->o.n=L.length
 | ⟨_,h1,h2,_⟩=>h1.len.trans h2
theorem aT.sl (hR:AQ R) (h0:0 < sz) (hl:H.le K) (ho:o.h.le K):aT R T sz H o L->Sl R sz K o.a o.n o.c L
 | ⟨C,h1,h2,h3⟩=>by
  have hs:=h1.sl (λc=>c.2.1) h0;refine⟨hs.len.trans h2,hs.cap,λi hi=>?_⟩;obtain⟨b,off,cs,e1,e2,e3,e4⟩:=hs.cells i (by rw[h2];exact hi);have e3:cs=(C[i]'(by rw[h2];exact hi)).1:=e3;subst e3;exact⟨b,off,_,e1,e2,hR _ _ _ _ hl (h3 i hi _),λj v hj=>ho.cell (e4 j v hj)⟩
end
theorem oL {X:R5} {s:List Ch} {α:Type} {R:uU α} (hX:X.Good) {T e ty:Nat} {te:TI} (hT:bM X T=some (e,te)) {i:Nat} {o:Os} (hi:m8 s i=some (.hp o.h)) {H:Hp} {L:List α}
  (hg:FF s->aT R e te.size H o L) {j b e':Nat} (x:α) (cs:List Value) (hj:m8 s j=some (.box b cs e')) (hf:cs.length=te.size) (h1:aB cs=true)
  (hby:R0 te.bytes 140=true) (hn:L.length < 1000000000000) {q:TV->List Ch->Prop}
  (hx:FF s->R H x cs)
  (hq :∀o',FF s->aT R e te.size H o' (L++[x])->q (.v o'.v) (x9 s i (.hp o'.h))) :
  tH X.P s #[T,T] ty o.v (.bs j 1) q:=by
 by_cases hs:FF s
 ·obtain⟨C,c1,c2,c3⟩:=hg hs;refine gF (f:=λc:Gg te.size=>c.1) hX hT hi c1 ⟨cs,hf,h1⟩ hj hf h1 hby om λo' ho'=>hq o' hs ⟨C++[⟨cs,hf,h1⟩],ho',by simp[c2],λk k1 k2=>?_⟩;by_cases hk:k < L.length
  ·rw[List.getElem_append_left hk,List.getElem_append_left om];exact c3 k hk om
  ·have e1:k=L.length:=by rw[d6] at k1;simp only[d7,d9] at k1;omega
   subst e1;rw[List.getElem_concat_length rfl];have e2:(C++[(⟨cs,hf,h1⟩:Gg te.size)])[L.length]=⟨cs,hf,h1⟩:=List.getElem_concat_length c2.symm _;rw[e2];exact hx hs
 ·exact⟨.slice (some ⟨b,0,none⟩) 1 1,by simp[TV.val,hj],⟨λw0 w hok=>absurd ⟨w0,w,hok⟩ hs⟩⟩
end Go.Dw
namespace Go.Proofs.YtpjhmeicbjkcdaaGreatDoor
open Go Go.RowKit Go.Dw
theorem OE {r:RS} {c m:Nat} (h:m<=c):(J2 r c m).e≠0:=by
 unfold J2;rw[if_pos h];exact bK r dc
section
variable {r:RS} {cnt:Nat}
theorem Db (he:r.e=0->cP r.ts) (h:aA r [40]=true) (cnt:Nat):J5 (PG (J2 r cnt 16)).1 < J5 r:=by
 refine s7 ?_ (pE (c:=cnt) (m:=16) he h);exact ((A7.itm (λr=>A7.int r (-4096) 4096) 3 (x8 (J2 r cnt 16) [40])).trans (A7.exp _ _)).rem
theorem YP (h:aA r [40]=true) (hc:cnt<=16\/(cnt<=17/\r.e≠0)):cnt+1<=16\/(cnt+1<=17/\(PG (J2 r cnt 16)).1.e≠0):=by
 have h0:r.e=0:=(S2 h).1;have hc:cnt<=16:=hc.elim id (λc=>absurd h0 c.2);by_cases h6:cnt=16
 ·exact .inr ⟨om,(A7.ver _).bad (OE om)⟩
 ·exact .inl om
theorem Fh (he:r.e=0->cP r.ts) (h:aA r lG=true) (cnt:Nat):J5 (x8 (celV r cnt).1 [59]) < J5 r:=by
 refine s7 ?_ (pE (c:=cnt) (m:=6) he h);exact ((A7.vrs _ (x8 (J2 r cnt 6) lG) []).trans (A7.exp _ _)).rem
theorem Bf (h:aA r lG=true) (hc:cnt<=6\/(cnt<=7/\r.e≠0)):cnt+1<=6\/(cnt+1<=7/\(x8 (celV r cnt).1 [59]).e≠0):=by
 have h0:r.e=0:=(S2 h).1;have hc:cnt<=6:=hc.elim id (λc=>absurd h0 c.2);by_cases h6:cnt=6
 ·refine .inr ⟨om,?_⟩;have a:A7 (J2 r cnt 6) (x8 (celV r cnt).1 [59]):=((A7.exp _ lG).trans (A7.vrs _ _ [])).trans (A7.exp _ _);exact a.bad (OE om)
 ·exact .inl om
end
theorem Jw {C:List Int} (h:C.length=3):rK vI (vI 0) 3 C=OP (C.getD 0 0,C.getD 1 0,C.getD 2 0):=by
 match C,h with
 | [a,b,c],_=>rfl
set_option maxHeartbeats 4000000 in
set_option maxRecDepth 10000 in
theorem GV {k h:Hp} {rb b:Nat} {r:RS} {a:Option Addr} {n c:Nat} {L:List W3} (w:World) (hin:h.In w) (hd:DR ((Hp.whole w).minus h) k h rb b r) (hL:Sl bN 3 ((Hp.whole w).minus h) a n c L) (hn:L.length < 1000000) :
  j6 Tryz.prog 80 #[pQ rb,.slice a n c] w (O6 w h λv h' cs=>∃o H,cs = [.hp H,.hp o.h]/\(v=.agg #[sv (oB (L.map λx:W3=>x.1) r).2.1,iQ (oB (L.map λx:W3=>x.1) r).2.2.1,o.v]/\aT pN 86 1 H o (oB (L.map λx:W3=>x.1) r).2.2.2/\G9 k h' b (oB (L.map λx:W3=>x.1) r).1)):=by
 have hlen:=hL.len;refine enterMZ (cx 91) [pQ rb,.slice a n c] hin [.cell 4 83] Tryz.func80 ?_;obtain⟨c0,hc0⟩ :∃c0,c0=(Hp.whole w).minus h:=⟨_,rfl⟩
 rw[<-hc0] at hd hL ⊢;obtain⟨names,hnames⟩ :∃l,l=L.map λx:W3=>x.1:=⟨_,rfl⟩
 rw[<-hnames];have hnl:n=names.length:=by rw[hnames,l7];exact hlen
 intro b2 b3 b4;refine o7 λq' hq'=>?_;apply hq';refine nQ [.hp c0,.hp h,.box b2 [pQ rb] 151,.box b3 [.slice a n c] 22,.box b4 [zs,iQ 0,zl] 83] λq' hq'=>?_;refine l6 (i:=1) rfl (λw0 w' hok=>N9 (n:=names.length) (m:=64) (by rw[hnl]) rfl w' (hok.mem 1 _ rfl) (hd.mono (hok.le01 rfl rfl))) ?_;rintro _ h1 _ ⟨rfl,hR1⟩;have hR1:G9 k h1 b (J2 (r) names.length 64):=hR1;apply hq';refine nQ [.hp c0,.hp h1,.box b2 [pQ rb] 151,.box b3 [.slice a n c] 22,.box b4 [zs,iQ 0,zl] 83] λq' hq'=>?_;refine lQ 0 hd.hB ?_;refine l6 (i:=1) rfl (λw0 w' hok=>m6 w' (hok.mem 1 _ rfl) (hok.kle rfl rfl hd.hk) hR1) ?_;rintro _ h2 _ ⟨rfl,hR2⟩;have hR2:G9 k h2 b (x8 (J2 (r) names.length 64) vC):=hR2;obtain⟨r2,e2⟩ :∃x,x=x8 (J2 (r) names.length 64) vC:=⟨_,rfl⟩
 rw[<-e2] at hR2;apply hq';obtain⟨A,hA⟩ :∃x,x=P2 (r2) (dY names):=⟨_,rfl⟩
 refine s6.cut (Hp×Nat) (λ_=>[(2,.bx 2 0),(3,.bx 3 0),(4,.bx 4 0),(5,.bx 5 0)]) (λg=>[.hp c0,.hp g.1,.box b2 [pQ rb] 151,.box b3 [.slice a n c] 22,.box b4 [zs,iQ 0,zl] 83,.box g.2 [sv A.2,iQ 0,zl] 83]) (λg=>G9 k g.1 b A.1) (s6.by_order0 cQ (.take 0 <| .take 1 <| .take 2 <| .take 3 <| .two 4 (.two 5 (.take 6 <| .run 7 <| .run 8 <| .done) 7 (.run 5 <| .take 6 <| .run 8 <| .done)) 7 (.run 4 <| .run 5 <| .take 6 <| .run 8 <| .done)) kr (K9 _ 1) ?_) ?_
 ·refine⟨?_,?_⟩
  ·refine call (λw' hm=>V7 _ _ _ w') ?_;rintro _ _ ⟨b7,b8,rfl,rfl⟩;refine⟨sK,?_⟩;refine⟨?_,?_⟩
   ·refine l6 (i:=1) rfl (λw0 w' hok=>P8 (cap:=[pQ b7,pQ b8]) (chk:=dY names) w' (hok.mem 1 _ rfl) ((hd.to hR2).mono (hok.le01 rfl rfl)) (λw1 hi1 s _=>T5 (cap:=[pQ b3]) s w1 om (by rw[<-hnl];exact hi1.whole.cell (hok.bx1 (j:=5) (n:=0) rfl rfl dc rfl)) (hi1.whole.cell (hok.bx1 (j:=6) (n:=0) rfl rfl dc rfl)) (λw2 hi2 i hi=>by
     have hle:c0.le (Hp.whole w2):=((hok.le01 rfl rfl).trans hi1.whole).trans hi2.whole;subst hnames;exact mA (L:=L) i w2 ((hi1.whole.trans hi2.whole).cell (hok.bx1 (j:=3) (n:=0) rfl rfl dc rfl)) (hL.mono I9 hle) hi))) ?_
    rintro _ h9 _ ⟨rfl,rfl,hR9⟩;rw[<-hA] at hR9 ⊢;refine⟨sK,?_⟩;intro b9;refine⟨sK,?_⟩;exact⟨(h9,b9),hR9,v6.mk (pj [0,1,2,3,4,7]) rfl rfl⟩
   ·intro b9;refine⟨sK,?_⟩;refine l6 (i:=1) rfl (λw0 w' hok=>P8 (cap:=[pQ b7,pQ b8]) (chk:=dY names) w' (hok.mem 1 _ rfl) ((hd.to hR2).mono (hok.le01 rfl rfl)) (λw1 hi1 s _=>T5 (cap:=[pQ b3]) s w1 om (by rw[<-hnl];exact hi1.whole.cell (hok.bx1 (j:=5) (n:=0) rfl rfl dc rfl)) (hi1.whole.cell (hok.bx1 (j:=6) (n:=0) rfl rfl dc rfl)) (λw2 hi2 i hi=>by
     have hle:c0.le (Hp.whole w2):=((hok.le01 rfl rfl).trans hi1.whole).trans hi2.whole;subst hnames;exact mA (L:=L) i w2 ((hi1.whole.trans hi2.whole).cell (hok.bx1 (j:=3) (n:=0) rfl rfl dc rfl)) (hL.mono I9 hle) hi))) ?_
    rintro _ h9 _ ⟨rfl,rfl,hR9⟩;rw[<-hA] at hR9 ⊢;refine⟨sK,?_⟩;exact⟨(h9,b9),hR9,v6.mk (pj [0,1,2,3,4,7]) rfl rfl⟩
  ·intro b9;refine⟨sK,?_⟩;refine call (λw' hm=>V7 _ _ _ w') ?_;rintro _ _ ⟨b7,b8,rfl,rfl⟩;refine⟨sK,?_⟩;refine l6 (i:=1) rfl (λw0 w' hok=>P8 (cap:=[pQ b7,pQ b8]) (chk:=dY names) w' (hok.mem 1 _ rfl) ((hd.to hR2).mono (hok.le01 rfl rfl)) (λw1 hi1 s _=>T5 (cap:=[pQ b3]) s w1 om (by rw[<-hnl];exact hi1.whole.cell (hok.bx1 (j:=6) (n:=0) rfl rfl dc rfl)) (hi1.whole.cell (hok.bx1 (j:=7) (n:=0) rfl rfl dc rfl)) (λw2 hi2 i hi=>by
    have hle:c0.le (Hp.whole w2):=((hok.le01 rfl rfl).trans hi1.whole).trans hi2.whole;subst hnames;exact mA (L:=L) i w2 ((hi1.whole.trans hi2.whole).cell (hok.bx1 (j:=3) (n:=0) rfl rfl dc rfl)) (hL.mono I9 hle) hi))) ?_
   rintro _ h9 _ ⟨rfl,rfl,hR9⟩;rw[<-hA] at hR9 ⊢;refine⟨sK,?_⟩;exact⟨(h9,b9),hR9,v6.mk (pj [0,1,2,3,4,5]) rfl rfl⟩
 rintro⟨h9,b5⟩ hR9 _;dsimp only at hR9 ⊢;refine nQ [.hp c0,.hp h9,.box b2 [pQ rb] 151,.box b3 [.slice a n c] 22,.box b4 [zs,iQ 0,zl] 83,.box b5 [sv A.2,iQ 0,zl] 83] λq' hq'=>?_;refine lQ 0 hd.hB ?_;refine l6 (i:=1) rfl (λw0 w' hok=>m6 w' (hok.mem 1 _ rfl) (hok.kle rfl rfl hd.hk) hR9) ?_;rintro _ h10 _ ⟨rfl,hR10⟩;have hR10:G9 k h10 b (x8 (A.1) SZ):=hR10;obtain⟨r10,e10⟩ :∃x,x=x8 (A.1) SZ:=⟨_,rfl⟩
 rw[<-e10] at hR10;apply hq';refine nQ [.hp c0,.hp h10,.box b2 [pQ rb] 151,.box b3 [.slice a n c] 22,.box b4 [zs,iQ 0,zl] 83,.box b5 [sv A.2,iQ 0,zl] 83] λq' hq'=>?_;refine lQ 0 hd.hB ?_;refine l6 (i:=1) rfl (λw0 w' hok=>tK (lo:=1) (hi:=1048576) w' (hok.mem 1 _ rfl) (hok.kle rfl rfl hd.hk) hR10) ?_;rintro _ h11 _ ⟨rfl,rfl,hR11⟩;have hR11:G9 k h11 b ((Z1 (r10) 1 1048576).1):=hR11;obtain⟨B,hB⟩ :∃x,x=Z1 (r10) 1 1048576:=⟨_,rfl⟩
 rw[<-hB] at hR11 ⊢;apply hq';refine nQ [.hp c0,.hp h11,.box b2 [pQ rb] 151,.box b3 [.slice a n c] 22,.box b4 [zs,iQ 0,zl] 83,.box b5 [sv A.2,iQ B.2,zl] 83] λq' hq'=>?_;refine lQ 0 hd.hB ?_;refine l6 (i:=1) rfl (λw0 w' hok=>m6 w' (hok.mem 1 _ rfl) (hok.kle rfl rfl hd.hk) hR11) ?_;rintro _ h12 _ ⟨rfl,hR12⟩;have hR12:G9 k h12 b (x8 (B.1) [123]):=hR12;obtain⟨r12,e12⟩ :∃x,x=x8 (B.1) [123]:=⟨_,rfl⟩
 rw[<-e12] at hR12;apply hq';obtain⟨tot,htot⟩ :∃x,x=tC (J5 r12) r12 []:=⟨_,rfl⟩
 refine u6.mk (RS×List (List V3)×Hp×Dw.Os×Hp) (λ_=>[(2,.bx 2 0),(3,.bx 3 0),(4,.bx 4 0),(5,.bx 5 0)]) (λg=>[.hp c0,.hp g.2.2.1,.box b2 [pQ rb] 151,.box b3 [.slice a n c] 22,.box b4 [zs,iQ 0,zl] 83,.box b5 [sv A.2,iQ B.2,g.2.2.2.1.v] 83,.hp g.2.2.2.2,.hp g.2.2.2.1.h])
  (λg=>G9 k g.2.2.1 b g.1/\aT pN 86 1 g.2.2.2.2 g.2.2.2.1 g.2.1/\(∃f,J5 g.1<=f/\tC f g.1 g.2.1=tot)/\(g.2.1.length<=6\/(g.2.1.length<=7/\g.1.e≠0))) (λg=>J5 g.1) (r12,[],h12,Dw.Os.nil,Hp.emp)
  ⟨hR12,aT.nil,⟨J5 r12,k8 _,htot.symm⟩,.inl (f8 _)⟩ (v6.mk (λ_ _ h=>h.emp.emp) rfl rfl) ?_
 rintro⟨rr,out,hh,oo,H⟩ ⟨hRr,hG,⟨f,hf,htr⟩,hcnt⟩;dsimp only at hRr hG hf htr hcnt ⊢;have hRend:rr.e=0->cP rr.ts:=by obtain⟨_,_,_,_,_,hE,_⟩:=hRr;exact hE
 refine nQ [.hp c0,.hp hh,.box b2 [pQ rb] 151,.box b3 [.slice a n c] 22,.box b4 [zs,iQ 0,zl] 83,.box b5 [sv A.2,iQ B.2,oo.v] 83,.hp H,.hp oo.h] λq' hq'=>?_;refine lQ 0 hd.hB ?_;refine k7 _ (λw' hm=>S0 w' (hm 1 _ rfl) (hd.hk.trans (hm 0 _ rfl).whole) hRr) ?_;apply hq';refine s8 (λg1=>?_) λg1=>?_
 ·have g1:aA rr lG=true:=g1;refine nQ [.hp c0,.hp hh,.box b2 [pQ rb] 151,.box b3 [.slice a n c] 22,.box b4 [zs,iQ 0,zl] 83,.box b5 [sv A.2,iQ B.2,oo.v] 83,.hp H,.hp oo.h] λq' hq'=>?_;refine l6 (i:=1) rfl (λw0 w' hok=>N9 (n:=out.length) (m:=6) (by rw[hG.len]) rfl w' (hok.mem 1 _ rfl) ((hd.to hRr).mono (hok.le01 rfl rfl))) ?_;rintro _ h21 _ ⟨rfl,hR21⟩;have hR21:G9 k h21 b (J2 (rr) out.length 6):=hR21;apply hq';refine nQ [.hp c0,.hp h21,.box b2 [pQ rb] 151,.box b3 [.slice a n c] 22,.box b4 [zs,iQ 0,zl] 83,.box b5 [sv A.2,iQ B.2,oo.v] 83,.hp H,.hp oo.h] λq' hq'=>?_;refine lQ 0 hd.hB ?_;refine l6 (i:=1) rfl (λw0 w' hok=>m6 w' (hok.mem 1 _ rfl) (hok.kle rfl rfl hd.hk) hR21) ?_;rintro _ h22 _ ⟨rfl,hR22⟩;have hR22:G9 k h22 b (x8 (J2 (rr) out.length 6) lG):=hR22;obtain⟨r22,e22⟩ :∃x,x=x8 (J2 (rr) out.length 6) lG:=⟨_,rfl⟩
  rw[<-e22] at hR22;apply hq';refine o7 λq' hq'=>?_;intro b6;apply hq';obtain⟨tt,htt⟩ :∃x,x=DL (J5 r22) r22 []:=⟨_,rfl⟩
  refine u6.mk (RS×List V3×Hp×Dw.Os) (λ_=>[(2,.bx 2 0),(3,.bx 3 0),(4,.bx 4 0),(5,.bx 5 0),(6,.bx 8 0)]) (λg=>[.hp c0,.hp g.2.2.1,.box b2 [pQ rb] 151,.box b3 [.slice a n c] 22,.box b4 [zs,iQ 0,zl] 83,.box b5 [sv A.2,iQ B.2,oo.v] 83,.hp H,.hp oo.h,.box b6 [g.2.2.2.v] 86,.hp g.2.2.2.h])
   (λg=>G9 k g.2.2.1 b g.1/\w8 OP 122 3 g.2.2.2 g.2.1/\(∃f,J5 g.1<=f/\DL f g.1 g.2.1=tt)/\(g.2.1.length<=16\/(g.2.1.length<=17/\g.1.e≠0))) (λg=>J5 g.1) (r22,[],h22,Dw.Os.nil)
   ⟨hR22,w8.nil _ _ _,⟨J5 r22,k8 _,htt.symm⟩,.inl (f8 _)⟩ (v6.mk (λ_ _ h=>h.emp) rfl rfl) ?_
  rintro⟨rv,vs,hv,oi⟩ ⟨hRv,hO,⟨fv,hfv,htv⟩,hcv⟩;dsimp only at hRv hO hfv htv hcv ⊢;have hVend:rv.e=0->cP rv.ts:=by obtain⟨_,_,_,_,_,hE,_⟩:=hRv;exact hE
  refine nQ [.hp c0,.hp hv,.box b2 [pQ rb] 151,.box b3 [.slice a n c] 22,.box b4 [zs,iQ 0,zl] 83,.box b5 [sv A.2,iQ B.2,oo.v] 83,.hp H,.hp oo.h,.box b6 [oi.v] 86,.hp oi.h] λq' hq'=>?_;refine lQ 0 hd.hB ?_;refine k7 _ (λw' hm=>S0 w' (hm 1 _ rfl) (hd.hk.trans (hm 0 _ rfl).whole) hRv) ?_;apply hq';refine s8 (λg2=>?_) λg2=>?_
  ·refine nQ [.hp c0,.hp hv,.box b2 [pQ rb] 151,.box b3 [.slice a n c] 22,.box b4 [zs,iQ 0,zl] 83,.box b5 [sv A.2,iQ B.2,oo.v] 83,.hp H,.hp oo.h,.box b6 [oi.v] 86,.hp oi.h] λq' hq'=>?_;refine l6 (i:=1) rfl (λw0 w' hok=>N9 (n:=vs.length) (m:=16) (by rw[hO.len]) rfl w' (hok.mem 1 _ rfl) ((hd.to hRv).mono (hok.le01 rfl rfl))) ?_;rintro _ h31 _ ⟨rfl,hR31⟩;have hR31:G9 k h31 b (J2 (rv) vs.length 16):=hR31;obtain⟨r31,e31⟩ :∃x,x=J2 (rv) vs.length 16:=⟨_,rfl⟩
   rw[<-e31] at hR31;apply hq';refine nQ [.hp c0,.hp h31,.box b2 [pQ rb] 151,.box b3 [.slice a n c] 22,.box b4 [zs,iQ 0,zl] 83,.box b5 [sv A.2,iQ B.2,oo.v] 83,.hp H,.hp oo.h,.box b6 [oi.v] 86,.hp oi.h] λq' hq'=>?_;intro b7;apply hq';refine nQ [.hp c0,.hp h31,.box b2 [pQ rb] 151,.box b3 [.slice a n c] 22,.box b4 [zs,iQ 0,zl] 83,.box b5 [sv A.2,iQ B.2,oo.v] 83,.hp H,.hp oo.h,.box b6 [oi.v] 86,.hp oi.h,.box b7 (rK vI (vI 0) 3 []) 122] λq' hq'=>?_;refine iJ (i:=10) (j:=1) dc rfl rfl (λw0 w' hok=>mE (tk:=λr=>Z1 r (-4096) 4096) (cells:=rK vI (vI 0) 3) (n:=3) (cap:=[pQ b2,pQ b7]) w' (hok.inJ (i:=10) (j:=1) (c:=.box b7 (rK vI (vI 0) 3 []) 122) (d:=.hp h31) rfl rfl) (hok.disj 10 1 _ _ dc rfl rfl) ((hd.to hR31).mono (hok.le2 (i:=10) (j:=1) (m:=0) dc dc rfl rfl rfl)) dc (λw1 out r' h' ho hi1 hd1 hle hR'=>by
    have hl0:=(hok.le2 (i:=10) (j:=1) (m:=0) dc dc rfl rfl rfl).trans hle;have hl2:=(hok.le2 (i:=10) (j:=1) (m:=2) dc dc rfl rfl rfl).trans hle;have:=KS (b1:=b2) out.length w1 hi1 hd1 (hl2.cell (J3 b2 (cs:=[pQ rb]) _ rfl)) ((hd.to hR').mono hl0) ho (iW _ _ (kA ho));rw[yP vI (vI 0) _ ho] at this;exact this)) ?_
   rintro _ _ h32 ⟨rfl,hR32⟩;have lV:(mD (λr=>Z1 r (-4096) 4096) 3 r31).2.length=3:=zE _ _ _;obtain⟨V,hV⟩ :∃x,x=PG r31:=⟨_,rfl⟩
   have hV1:(mD (λr=>Z1 r (-4096) 4096) 3 r31).1=V.1:=by rw[hV];rfl
   have hV2:rK vI (vI 0) 3 (mD (λr=>Z1 r (-4096) 4096) 3 r31).2=OP V.2:=by rw[Jw lV,hV];rfl
   have hlt:=Db hVend g2 vs.length;have hcn:=YP g2 hcv;rw[<-e31,<-hV] at hlt hcn;rw[hV1] at hR32;rw[hV2];apply hq';refine nQ [.hp c0,.hp h32,.box b2 [pQ rb] 151,.box b3 [.slice a n c] 22,.box b4 [zs,iQ 0,zl] 83,.box b5 [sv A.2,iQ B.2,oo.v] 83,.hp H,.hp oo.h,.box b6 [oi.v] 86,.hp oi.h,.box b7 (OP V.2) 122] λq' hq'=>?_;intro b8;refine gF (f:=OP) (o:=oi) (L:=vs) cQ (e:=122) rfl (i:=9) rfl hO V.2 (j:=11) rfl rfl rfl rfl om λo9 hO9=>?_;apply hq';refine⟨(V.1,vs++[V.2],h32,o9),⟨hR32,hO9,?_,?_⟩,hlt,v6.mk (pj [0,1,2,3,4,5,6,7,8,9]) rfl rfl⟩
   ·cases fv with
    | zero=>exact absurd hfv (by have:=jO hVend g2;omega)
    | succ fv=>
     refine⟨fv,by dsimp only;omega,?_⟩;dsimp only;rw[<-htv];show _=DL (fv+1) rv vs
     conv=>rhs;unfold DL
     rw[if_pos g2,<-e31,<-hV]
   ·dsimp only;rw[d6];exact hcn
  ·have eT:tt=(rv,vs):=by
    rw[<-htv];cases fv with
    | zero=>rfl
    | succ fv=>unfold DL;rw[if_neg (λc=>by rw[g2] at c;cases c)]
   have eC:celV rr out.length=(rv,vs):=by
    unfold celV;rw[<-e22,<-htt,eT]
   have hlt:=Fh hRend g1 out.length;have hcn:=Bf g1 hcnt;rw[eC] at hlt hcn;dsimp only at hlt hcn;refine nQ [.hp c0,.hp hv,.box b2 [pQ rb] 151,.box b3 [.slice a n c] 22,.box b4 [zs,iQ 0,zl] 83,.box b5 [sv A.2,iQ B.2,oo.v] 83,.hp H,.hp oo.h,.box b6 [oi.v] 86,.hp oi.h] λq' hq'=>?_;refine lQ 0 hd.hB ?_;refine l6 (i:=1) rfl (λw0 w' hok=>m6 w' (hok.mem 1 _ rfl) (hok.kle rfl rfl hd.hk) hRv) ?_;rintro _ h41 _ ⟨rfl,hR41⟩;have hR41:G9 k h41 b (x8 (rv) [59]):=hR41;apply hq';refine nQ [.hp c0,.hp h41,.box b2 [pQ rb] 151,.box b3 [.slice a n c] 22,.box b4 [zs,iQ 0,zl] 83,.box b5 [sv A.2,iQ B.2,oo.v] 83,.hp H,.hp oo.h,.box b6 [oi.v] 86,.hp oi.h] λq' hq'=>?_;intro b9;refine oL (R:=pN) (o:=oo) (L:=out) (H:=H.join oi.h) cQ (e:=86) rfl (i:=7) rfl (λhs=>?_) vs [oi.v] (j:=10) rfl rfl rfl rfl om (λhs=>?_) λo9 _ hG9=>?_
   ·exact hG.mono S6 (Hp.le_join_l _ _)
   ·obtain⟨w0,w',hok⟩:=hs;exact⟨oi.a,oi.n,oi.c,rfl,(w8.sl (f:=OP) (sz:=3) (λ_=>rfl) dc hO).mono (j7 _) (Hp.le_join_r (hok.disj 6 9 _ _ dc rfl rfl))⟩
   apply hq';refine⟨(x8 rv [59],out++[vs],h41,o9,H.join oi.h),⟨hR41,hG9,?_,?_⟩,hlt,v6.mk (λ_ _ h=>(Ok.join (h.pick [0,6,9,1,2,3,4,5,7] rfl rfl)).pick [0,2,3,4,5,6,1,7] rfl rfl) rfl rfl⟩
   ·cases f with
    | zero=>exact absurd hf (by have:=jO hRend g1;omega)
    | succ f=>
     refine⟨f,by dsimp only;omega,?_⟩;dsimp only;rw[<-htr];show _=tC (f+1) rr out
     conv=>rhs;unfold tC
     rw[if_pos g1,eC]
   ·dsimp only;rw[d6];exact hcn
 ·have g1:aA rr lG=false:=g1;have eT:tot=(rr,out):=by
   rw[<-htr];cases f with
   | zero=>rfl
   | succ f=>unfold tC;rw[if_neg (λc=>by rw[g1] at c;cases c)]
  have eP:oB names r=(x8 rr [125],(A.2,B.2,out)):=by
   unfold oB;dsimp only;rw[<-e2,<-hA,<-e10,<-hB,<-e12,<-htot,eT]
  refine nQ [.hp c0,.hp hh,.box b2 [pQ rb] 151,.box b3 [.slice a n c] 22,.box b4 [zs,iQ 0,zl] 83,.box b5 [sv A.2,iQ B.2,oo.v] 83,.hp H,.hp oo.h] λq' hq'=>?_;refine lQ 0 hd.hB ?_;refine l6 (i:=1) rfl (λw0 w' hok=>m6 w' (hok.mem 1 _ rfl) (hok.kle rfl rfl hd.hk) hRr) ?_;rintro _ h51 _ ⟨rfl,hR51⟩;have hR51:G9 k h51 b (x8 (rr) [125]):=hR51;apply hq';rw[eP];exact⟨h51,[.hp H,.hp oo.h],⟨oo,H,rfl,rfl,hG,hR51⟩,pk [0,1,6,7]⟩
end Go.Proofs.YtpjhmeicbjkcdaaGreatDoor
namespace Go.Dw
open Go Go.RowKit
theorem nB {s:List Ch} {c x:Ch} {k:Nat} (h:m8 s k=some x):m8 (s++[c]) k=some x:=by
 have:k < s.length:=by rw[J7] at h;exact (q9.1 h).1
 rw[H3,if_pos this];exact h
theorem BY {s:List Ch} {c x d:Ch} {k:Nat} (h:m8 s k=some x):x9 (s++[c]) k d=x9 s k d++[c]:=by
 have:k < s.length:=by rw[J7] at h;exact (q9.1 h).1
 rw[S9,S9,List.set_append_left _ _ this]
theorem nR {P:Program} {s:List Ch} {i j b f T:Nat} {xs:List Value} {k:Hp} {args:List Value} {R:Value->List Value->Hp->Hp->Prop} {q:TV->List Ch->Prop} (hij:i≠j) (hi:m8 s i=some (.box b xs T)) (hj:m8 s j=some (.hp k))
  (hc :∀w0 w,Ok w0 s w->j6 P f args.toArray w (O6 w ((Ch.box b xs T).h.join k) λv h' cs=>∃ys H,cs = [.box b ys T,.hp H]/\R v ys h' H))
  (hq :∀v ys k' H,R v ys k' H->q (.v v) (x9 (x9 s i (.box b ys T)) j (.hp k')++[.hp H])):Q8 P s f args q:=by
 refine⟨λw0 w hok=>⟨(hc w0 w hok).1,(hc w0 w hok).2.mono λe w' he=>?_⟩⟩;obtain⟨v,k',cs,rfl,h0,ys,H,rfl,hR⟩:=he;have hdj:(Ch.box b ys T).h.dj k':=h0.disj 2 1 _ _ dc rfl rfl;have h1:Ok w [.hp ((Hp.whole w).minus ((Ch.box b xs T).h.join k)),.hp ((Ch.box b ys T).h.join k'),.hp H] w':=Ok.join (d:=.box b ys T) (e:=.hp k') (s:=[.hp H]) (h0.pick [0,2,1,3] rfl rfl);have a1:=hok.exch (c':=.hp ((Ch.box b xs T).h.join k)) (d':=.hp Hp.emp) hij hi hj (λn x hx=>by
  have hx:((Ch.box b xs T).h.join k) n=some x:=hx;unfold Hp.join at hx;split at hx
  ·rename_i y hy;rw[hy];exact .inl hx
  ·exact .inr hx) (λk x hx=>by cases hx) (λk=>.inr rfl)
 have g1:m8 (x9 (x9 s i (.hp ((Ch.box b xs T).h.join k))) j (.hp Hp.emp)) i=some (.hp ((Ch.box b xs T).h.join k)):=by
  rw[F9,if_neg hij.symm,F9,if_pos rfl,hi];rfl
 have a2:=a1.callM g1 h1;have g2:m8 (x9 (x9 (x9 s i (.hp ((Ch.box b xs T).h.join k))) j (.hp Hp.emp)) i (.hp ((Ch.box b ys T).h.join k'))) i=some (.hp ((Ch.box b ys T).h.join k')):=by
  rw[F9,if_pos rfl,g1];rfl
 have g3:m8 (x9 (x9 (x9 s i (.hp ((Ch.box b xs T).h.join k))) j (.hp Hp.emp)) i (.hp ((Ch.box b ys T).h.join k'))) j=some (.hp Hp.emp):=by
  rw[F9,if_neg hij,F9,if_pos rfl,F9,if_neg hij,hj];rfl
 have a3:=a2.exch (c':=.box b ys T) (d':=.hp k') hij (nB g2) (nB g3) (λn x hx=>.inl (Hp.le_join_l _ _ n x hx)) (λn x hx=>.inl (Hp.le_join_r hdj n x hx)) hdj;have g4:m8 (x9 (x9 (x9 (x9 s i (.hp ((Ch.box b xs T).h.join k))) j (.hp Hp.emp)) i (.hp ((Ch.box b ys T).h.join k'))) i (.box b ys T)) j=some (.hp Hp.emp):=by
  rw[F9,if_neg hij];exact g3
 rw[BY g2,BY g4] at a3;have e :∀(a c:Ch) (d e f:Ch),x9 (x9 (x9 (x9 (x9 s i a) j c) i d) i e) j f=x9 (x9 s i e) j f:=by
  intro a c d e f;simp only[S9];refine O8 λn=>?_;simp only[O7,N8];by_cases hj':j=n
  ·subst hj';simp
  ·simp only[hj',if_false];by_cases hi':i=n
   ·subst hi';simp
   ·simp[hi']
 rw[e] at a3;refine⟨v,_,rfl,a3,?_,hq v ys k' H hR⟩;refine ((J6.set hi (c':=.box b ys T) (λb' cs T e=>by cases e;exact⟨_,_,rfl⟩)).trans ?_).trans (J6.app _ _);exact J6.set (i:=j) (c:=.hp k) (by rw[F9,if_neg hij,hj]) (λb' cs T e=>by cases e)
end Go.Dw
namespace Go.Proofs.YtpjhmeicbjkcdaaGreatDoor
open Go Go.RowKit Go.Dw
def UN (D:List S1) (x:Ex):e8×Int:=if HD D≠0 then ([],HD D) else if pL D.length x≠0 then ([],pL D.length x) else xR (E7 (D6 D) 8 x)
theorem Ef {op:Int} (h:1<=op/\op<=5):jP op≠[]:=by
 have:op=1\/op=2\/op=3\/op=4\/op=5:=om
 rcases this with rfl | rfl | rfl | rfl | rfl <;> decide
theorem Aq {n:Int} {nm:Int->e8} :∀{d:Nat} {x:Ex},XY n d x->E7 nm d x≠[]
 | 0,_,h=>h.elim
 | d+1,.mk op f fac args,h=>by
  show (if op=0 then bZ nm f else _)≠[]
  by_cases h0:op=0
  ·rw[if_pos h0];unfold bZ;simp
  ·rw[if_neg h0];intro c;exact Ef (KZ h0 h.1).1 (List.append_eq_nil_iff.1 c).1
set_option maxRecDepth 10000 in
theorem mU {ad:Option Addr} {nd cd e:Nat} {D:List S1} {x:Ex} {cs:List Value} (w:World) (hD:Sl (B0 O1) 4 (Hp.whole w) ad nd cd D) (hx:P5 e (Hp.whole w) x cs) (hs:AS x) (hn:D.length < 1000000) (hdn :∀d∈D,d.1.length < 1000000) (hlen:(E7 (D6 D) 8 x).length < 1000000000) :
  j6 Tryz.prog 19 #[.slice ad nd cd,.agg cs.toArray] w (v7 w (.tuple #[sv (UN D x).1,iQ (UN D x).2])):=by
 match e,hx with
 | e+1,hx=>
 obtain⟨op,f,fac,args⟩:=x;have hx':=hx;obtain⟨a,n,c,a1,n1,c1,rfl,hf,ha⟩:=hx;have hdl:=hD.len;refine enterZ (cx 30) [.slice ad nd cd,.agg #[iQ op,sv f.1,.slice a n c,sv fac,.slice a1 n1 c1]] [.tmp 4,.tmp 5] Tryz.func19 ?_;intro b3;refine k7 _ (λw' hm=>wO w' (hD.mono (j7 _) (hm 0 _ rfl).whole) hn) ?_;unfold UN;refine d8 (λh1=>?_) λh1=>?_
 ·rw[if_pos h1];exact⟨[],⟨rfl,rfl⟩,pk [0]⟩
 rw[if_neg h1];refine k7 _ (λw' hm=>mZ w' om hs (q7 _ _ _ _ _ (hm 0 _ rfl).whole hx')) ?_;rw[<-hdl];refine d8 (λh2=>?_) λh2=>?_
 ·rw[if_pos h2];exact⟨[],⟨rfl,rfl⟩,pk [0]⟩
 rw[if_neg h2];have hg:XY D.length 8 (.mk op f fac args):=xC 8 0 _ (by rw[<-hdl];exact l9.1 h2);have hne:=Aq (nm:=D6 D) hg;intro b22;refine Q8.emp (Ib (i:=2) (j:=3) (c:=0) (d:=8) (o:=Dw.Os.nil) (t:=[]) dc rfl rfl rfl dc dc (.inl rfl) (w8.nil _ _ _) hx' hD hg hs hdn (by rw[d9];omega) (λv fl' o' hfl ho=>?_));rw[N6] at ho;refine Gt (i:=2) (j:=3) dc rfl rfl hfl ho hne λys k'=>?_;exact⟨[],⟨rfl,rfl⟩,pk [0]⟩
end Go.Proofs.YtpjhmeicbjkcdaaGreatDoor
namespace Go.Proofs.YtpjhmeicbjkcdaaGreatDoor
open Go
structure Iv (p:W3):Prop where
 n:H8 p.1=true
 d:1<=p.2.1/\p.2.1<=1048576
 c:p.2.2.length<=6
 v :∀c∈p.2.2,c.length<=16/\∀v∈c,(-4096<=v.1/\v.1<=4096)/\(-4096<=v.2.1/\v.2.1<=4096)/\(-4096<=v.2.2/\v.2.2<=4096)
theorem YB {n m:Int} (h:aH n m=false) : -m<=n/\n<=m:=by
 unfold aH at h;rw[U2,decide_eq_false_iff_not,decide_eq_false_iff_not] at h;omega
theorem Ad {names:List e8} {s:e8} (h:wH names s=0):H8 s=true/\s∉names:=by
 unfold wH at h;split at h
 ·exact absurd h dc
 ·rename_i h1
  split at h
  ·exact absurd h dc
  ·rename_i h2
   exact⟨by cases hh:H8 s with | true=>rfl | false=>exact absurd hh h1,h2⟩
theorem cT {a b:Int} (h:oE a b=0):a=0/\b=0:=by
 unfold oE at h;split at h
 ·rename_i h1;exact absurd h h1
 ·rename_i h1;exact⟨l9.1 h1,h⟩
theorem UP {p:W3} (hn:H8 p.1=true) (h:wF p=0):Iv p:=by
 unfold wF at h;split at h
 ·exact absurd h dc
 ·rename_i h1
  split at h
  ·exact absurd h dc
  ·rename_i h2
   refine⟨hn,om,om,λc hc=>?_⟩;obtain⟨i,hi,rfl⟩:=Q1.1 hc;have:=V8.1 h i hi;rw[i7,i6 hi] at this;have this:IX p.2.2[i]=0:=this;unfold IX at this;split at this
   ·exact absurd this dc
   ·rename_i h3
    split at this
    ·exact absurd this dc
    ·rename_i h4
     refine⟨om,λv hv=>?_⟩;have h5:tQ v=false:=by
      cases hh:tQ v with
      | false=>rfl
      | true=>exact absurd (E6.2 ⟨v,hv,hh⟩) h4
     unfold tQ at h5;rw[U2,U2] at h5;exact⟨YB h5.1,YB h5.2.1,YB h5.2.2⟩
structure Iy (parts:List e8) (x:mX):Prop where
 n:H8 x.1=true
 p:x.2.1∈parts
 t:(-12<=x.2.2.1.1/\x.2.2.1.1<=12)/\(-12<=x.2.2.1.2.1/\x.2.2.1.2.1<=12)/\(-12<=x.2.2.1.2.2.1/\x.2.2.1.2.2.1<=12)/\(-12<=x.2.2.1.2.2.2/\x.2.2.1.2.2.2<=12)
 s:I7 x.2.2.2.1=0/\I7 x.2.2.2.2.1=0/\I7 x.2.2.2.2.2=0
theorem VU {parts:List e8} {x:mX} (hn:H8 x.1=true) (h:wL parts x=0):Iy parts x:=by
 unfold wL at h;split at h
 ·exact absurd h dc
 ·rename_i h1
  split at h
  ·exact absurd h dc
  ·rename_i h2
   have h2:=Bool.not_eq_true _ ▸ h2;rw[U2,U2,U2] at h2;obtain⟨a,b⟩:=cT h;obtain⟨b,c⟩:=cT b;exact⟨hn,l9.1 h1,⟨YB h2.1,YB h2.2.1,YB h2.2.2.1,YB h2.2.2.2⟩,a,b,c⟩
structure Iz (d:S1):Prop where
 n:H8 d.1=true
 r:(-1073741824<=d.2.1/\d.2.1<=1073741824)/\(-1073741824<=d.2.2.1/\d.2.2.1<=1073741824)/\(-1073741824<=d.2.2.2/\d.2.2.2<=1073741824)
 o:d.2.2.1<=d.2.2.2
theorem WV {d:S1} (hn:H8 d.1=true) (h:wM d=0):Iz d:=by
 unfold wM at h;split at h
 ·exact absurd h dc
 ·rename_i h2
  split at h
  ·exact absurd h dc
  ·rename_i h3
   have h2:=Bool.not_eq_true _ ▸ h2;rw[U2,U2] at h2;exact⟨hn,⟨YB h2.1,YB h2.2.1,YB h2.2.2⟩,om⟩
structure Iu (n:Int) (r:kV):Prop where
 nm:H8 r.1=true
 g:pL n r.2.1=0
 l:r.2.2.1 = []\/I7 r.2.2.1=0
 h:r.2.2.2 = []\/I7 r.2.2.2=0
 o:r.2.2.1≠[]->r.2.2.2≠[]->¬ dF r.2.2.2*dG r.2.2.1 < dF r.2.2.1*dG r.2.2.2
theorem UC {n:Int} {r:kV} (hn:H8 r.1=true) (h:wE n r=0):Iu n r:=by
 unfold wE at h;obtain⟨a,b⟩:=cT h;obtain⟨b,c⟩:=cT b;obtain⟨c,d⟩:=cT c;refine⟨hn,a,?_,?_,λh1 h2 h3=>?_⟩
 ·by_cases e:r.2.2.1 = []
  ·exact .inl e
  ·rw[if_neg e] at b;exact .inr b
 ·by_cases e:r.2.2.2 = []
  ·exact .inl e
  ·rw[if_neg e] at c;exact .inr c
 ·rw[if_pos ⟨⟨h1,h2⟩,h3⟩] at d;exact absurd d dc
structure Bo (p:jL):Prop where
 gn:H8 p.nm=true
 gp:p.parts.length<=64/\∀i (h:i < p.parts.length),Iv p.parts[i]/\p.parts[i].1∉(p.parts.take i).map (·.1)
 gi:p.insts.length<=12/\∀i (h:i < p.insts.length),Iy (p.parts.map (·.1)) p.insts[i]/\p.insts[i].1∉(p.insts.take i).map (·.1)
 gd:p.dims.length<=64/\∀i (h:i < p.dims.length),Iz p.dims[i]/\p.dims[i].1∉(p.dims.take i).map (·.1)
 gc:p.cons.length<=64/\∀i (h:i < p.cons.length),(H8 p.cons[i].1=true/\wR p.dims.length p.cons[i].2)/\p.cons[i].1∉(p.cons.take i).map (·.1)
 gr:p.reqs.length<=64/\∀i (h:i < p.reqs.length),Iu p.dims.length p.reqs[i]/\p.reqs[i].1∉(p.reqs.take i).map (·.1)
theorem mG {α:Type} {most:Nat} {l:List α} {nm:α->e8} {f:α->Int} {Q:α->Prop} (hQ :∀x,H8 (nm x)=true->f x=0->Q x) (h:bC most l nm f=0):l.length<=most/\∀i (h:i < l.length),Q l[i]/\nm l[i]∉(l.take i).map nm:=by
 unfold bC at h;split at h
 ·exact absurd h dc
 ·rename_i h1
  refine⟨om,λi hi=>?_⟩;have:=V8.1 h i hi;rw[i6 hi] at this;obtain⟨a,b⟩:=cT this;obtain⟨a,c⟩:=Ad a;exact⟨hQ _ a b,c⟩
theorem GU {p:jL} (h:IW p=0):Bo p:=by
 unfold IW at h;split at h
 ·exact absurd h dc
 ·rename_i h1
  obtain⟨a,h⟩:=cT h;obtain⟨b,h⟩:=cT h;obtain⟨c,h⟩:=cT h;obtain⟨d,e⟩:=cT h;exact⟨by cases hh:H8 p.nm with | true=>rfl | false=>exact absurd hh h1,mG (λx=>UP) a,mG (λx=>VU) b,mG (λx=>WV) c,mG (Q:=λx:kY=>H8 x.1=true/\wR p.dims.length x.2) (λx h1 h2=>⟨h1,ID h2⟩) d,mG (λx=>UC) e⟩
theorem bQ {α:Type} {l:List α} {Q:α->Prop} {R :∀i,i < l.length->Prop} (h :∀i (h:i < l.length),Q l[i]/\R i h) :∀x∈l,Q x:=λx hx=>by
 obtain⟨i,hi,rfl⟩:=Q1.1 hx;exact (h i hi).1
theorem Fd {dims:List S1} (hd :∀d∈dims,H8 d.1=true) {i:Int} (h0:0<=i) (h1:i < dims.length):H8 (dims.getD i.toNat ([],0,0,0)).1=true:=by
 have:i.toNat < dims.length:=om
 rw[i7,i6 this];exact hd _ (j0 this)
end Go.Proofs.YtpjhmeicbjkcdaaGreatDoor
namespace Go.Proofs.YtpjhmeicbjkcdaaGreatDoor
open Go
def O0 (a:Int) (b:Nat):e8:=
 if b / I5 a.natAbs b=1 then zT (a / (I5 a.natAbs b:Nat)) else zT (a / (I5 a.natAbs b:Nat))++47::Lib.decDigits (b / I5 a.natAbs b)
abbrev Q5:=Int×Int×Int×Int×Int
abbrev Q4:=Int×Int×Int×Int
abbrev Q6:=Int×Int×Int×Int×Int×Int
structure YC where
 nm:Nat
 parts:List Q5
 insts:List Q6
 dims:List (Int×Int×Int)
 cons:List Q4
 gaps:List (List Nat)
def u8 (x:Int):Nat:=(x % 256).toNat
def gJ (kind:UInt8) (i how:Nat):e8:=([[],[65],[57],[45]]:List e8).getD (how % 4) []++(kind::UInt8.ofNat (97+i % 26)::([[],[34],[95,49],[92]]:List e8).getD (how / 4 % 4) [])
def TA (x:Q5) (c v:Nat):V3:=(x.2.2.2.1+v,x.2.2.2.2*16,(c:Int) - v)
def vZ (x:Q5) (c:Nat):List V3:=(z8 (u8 x.2.2.1 % 4)).map (TA x c)
def kE (how i:Nat) (x:Q5):W3:=(gJ 113 i (how / 2),1+(u8 x.1:Int),(z8 (u8 x.2.1 % 3)).map (vZ x))
def TQ (how:Nat) (l:List Q5):List W3:=(l.take 3).zipIdx.map λp=>kE how p.2 p.1
def fJ (how:Nat) (parts:List W3) (i:Nat) (x:Q6):mX:=
 (gJ 105 i (how / 4),(parts.getD (u8 x.1 % parts.length) ([],0,[])).1,(x.2.1.tmod 13,x.2.2.1.tmod 13,x.2.2.2.1.tmod 13,x.2.2.2.2.1.tmod 13),(O0 x.2.2.2.2.2 1,O0 (x.2.2.2.2.2+1) 2,O0 (x.2.2.2.2.2+2) 3))
def aJ (how:Nat) (parts:List W3) (l:List Q6):List mX:=if parts = [] then [] else (l.take 3).zipIdx.map λp=>fJ how parts p.2 p.1
def lN (how i:Nat) (x:Int×Int×Int):S1:=(gJ 100 i (how / 8),x.1*1000,min x.2.1 x.2.2,max x.2.1 x.2.2)
def KB (how:Nat) (l:List (Int×Int×Int)):List S1:=(l.take 4).zipIdx.map λp=>lN how p.2 p.1
def q4 (l:Q4) (i:Nat):Int:=match i with | 0=>l.1 | 1=>l.2.1 | 2=>l.2.2.1 | _=>l.2.2.2
def dJ (n:Nat) (l:Q4):gG:=(zT (l.1 - l.2.1),((z8 (min n 4)).filter λi=>decide (q4 l i≠0)).map λi:Nat=>((i:Int),O0 (q4 l i) (1+i)))
def rB (how n i:Nat) (l:Q4):kY:=(gJ 99 i (how / 16),dJ n l)
def Dr (how n:Nat) (l:List Q4):List kY:=(l.take 2).zipIdx.map λp=>rB how n p.2 p.1
def kF (l:List Nat) (i:Nat):Int:=if i < l.length then ((l.getD i 0 % 7:Nat):Int) - 3 else 0
def aE (n:Nat):Nat->List Nat->Ex×List Nat
 | 0,l=>(.mk 0 (dJ n (kF l 0,kF l 1,kF l 2,kF l 3)) [] [],l.drop 1)
 | d+1,l=>
  if l = []\/l.getD 0 0 % 6=0 then (.mk 0 (dJ n (kF l 0,kF l 1,kF l 2,kF l 3)) [] [],l.drop 1)
  else
   let op:=l.getD 0 0 % 6
   let a:=aE n d (l.drop 1)
   if op=2\/op=5\/l.getD 0 0 / 6 % 2=0 then (.mk op ([],[]) (if op=2 then zT ((l.getD 0 0:Int) - 100) else []) [a.1],a.2)
   else (.mk op ([],[]) [] [a.1,(aE n d a.2).1],(aE n d a.2).2)
def kD (how n i:Nat) (l:List Nat):kV:=(gJ 114 i (how / 32),(aE n 3 l).1,if l.length % 2=0 then [45,55,47,50] else [],if l.length % 3=0 then [49,49] else [])
def Dq (how n:Nat) (l:List (List Nat)):List kV:=(l.take 2).zipIdx.map λp=>kD how n p.2 p.1
def G0 (k:YC):jL:=⟨gJ 112 (k.nm % 5) k.nm,TQ k.nm k.parts,aJ k.nm (TQ k.nm k.parts) k.insts,KB k.nm k.dims,Dr k.nm (KB k.nm k.dims).length k.cons,Dq k.nm (KB k.nm k.dims).length k.gaps⟩
def i8 (x:Int):Prop:=-128<=x/\x<=127
structure MQ (k:YC):Prop where
 n:k.nm < 256
 p :∀x∈k.parts,i8 x.1/\i8 x.2.1/\i8 x.2.2.1/\i8 x.2.2.2.1/\i8 x.2.2.2.2
 i :∀x∈k.insts,i8 x.1/\i8 x.2.1/\i8 x.2.2.1/\i8 x.2.2.2.1/\i8 x.2.2.2.2.1/\i8 x.2.2.2.2.2
 d :∀x∈k.dims,i8 x.1/\i8 x.2.1/\i8 x.2.2
 c :∀x∈k.cons,i8 x.1/\i8 x.2.1/\i8 x.2.2.1/\i8 x.2.2.2
 g :∀l∈k.gaps,∀x∈l,x < 256
theorem fQ {kind:UInt8} (hk:kind∈([112,113,105,100,99,114]:e8)) {i:Nat} (hi:i < 26) (how:Nat):H8 (gJ kind i how)=true/\(gJ kind i how).length<=6:=by
 have key :∀kind∈([112,113,105,100,99,114]:e8),∀i:Fin 26,∀a:Fin 4,∀b:Fin 4,H8 (([[],[65],[57],[45]]:List e8).getD a []++(kind::UInt8.ofNat (97+i % 26)::([[],[34],[95,49],[92]]:List e8).getD b []))=true/\
   (([[],[65],[57],[45]]:List e8).getD a []++(kind::UInt8.ofNat (97+i % 26)::([[],[34],[95,49],[92]]:List e8).getD b [])).length<=6:=by decide +kernel
 exact key kind hk ⟨i,hi⟩ ⟨how % 4,C8 _ dc⟩ ⟨how / 4 % 4,C8 _ dc⟩
theorem Ah {kind:UInt8} {i j how:Nat} (hi:i < 26) (hj:j < 26) (h:gJ kind i how=gJ kind j how):i=j:=by
 unfold gJ at h;have h:=(Nb (Nb (List.append_cancel_left h)).2).1;have e:=congrArg UInt8.toNat h;rw[UInt8.toNat_ofNat',UInt8.toNat_ofNat'] at e;omega
theorem uW {α β:Type} (f:Nat->α->β) (l:List α) {i:Nat} (h:i < (l.zipIdx.map λp=>f p.2 p.1).length) :∃h':i < l.length,(l.zipIdx.map λp=>f p.2 p.1)[i]=f i l[i]:=by
 rw[l7,List.length_zipIdx] at h;refine⟨h,?_⟩;rw[eJ,List.getElem_zipIdx];simp
theorem fH {α β:Type} (f:Nat->α->β) (l:List α) (m:Nat):((l.take m).zipIdx.map λp=>f p.2 p.1).length<=m:=by
 rw[l7,List.length_zipIdx,j8];omega
theorem xI {α β:Type} {f:Nat->α->β} {nm:β->e8} {kind:UInt8} {how:Nat} (hf :∀i x,nm (f i x)=gJ kind i how) {l:List α} {m:Nat} (hm:m<=26) {i:Nat} (h:i < ((l.take m).zipIdx.map λp=>f p.2 p.1).length) :
  nm ((l.take m).zipIdx.map λp=>f p.2 p.1)[i]∉(((l.take m).zipIdx.map λp=>f p.2 p.1).take i).map nm:=by
 intro hm';obtain⟨x,hx,e⟩:=G6.1 hm';obtain⟨j,hj,rfl⟩:=Mk.1 hx;have hl:=fH f l m;obtain⟨_,e1⟩:=uW f (l.take m) h;obtain⟨_,e2⟩:=uW f (l.take m) (i:=j) om;rw[e1,e2,hf,hf] at e;have:=Ah om om e;omega
end Go.Proofs.YtpjhmeicbjkcdaaGreatDoor
namespace Go.Proofs.YtpjhmeicbjkcdaaGreatDoor
open Go
theorem Q2 {x:e8} (h:I7 x=0):x.length<=400:=by
 unfold I7 bB at h;split at h
 ·exact absurd h dc
 ·omega
theorem SS {z:Int} (hz:z.natAbs < 9223372036854775808):XT (zT z) (decide (z < 0)) (Lib.decDigits z.natAbs):=by
 refine⟨?_,Bc (Nat.lt_trans hz dc),λh c=>?_⟩
 ·unfold zT;by_cases h:z < 0
  ·rw[if_pos h,decide_eq_true h];rfl
  ·rw[if_neg h,decide_eq_false h];rfl
 ·have h:=of_decide_eq_true h;have:=(cX z.natAbs).2.1;rw[c] at this;have:(0:Nat)=z.natAbs:=this;omega
end Go.Proofs.YtpjhmeicbjkcdaaGreatDoor
namespace Go.Proofs.YtpjhmeicbjkcdaaGreatDoor
open Go
theorem yQ {x:e8} {sg:Bool} {t:e8} (h:XT x sg t) (hl:x.length<=400):I7 x=0:=by
 obtain⟨e,⟨k,⟨_,a,b,ha,h0,rfl,ht⟩,hc⟩,hz⟩:=h;unfold I7;cases sg with
 | false=>
  have e:x=t:=e;subst e;rcases ht with rfl | ⟨rfl,hb,hb0⟩
  ·exact (GL ha h0 hl).2 hc
  ·exact (GK ha hb h0 hb0 hl).2 hc
 | true=>
  have e:x=45::t:=e;subst e;rcases ht with rfl | ⟨rfl,hb,hb0⟩
  ·have hcd:cM t=true:=by unfold bO at hc;rw[if_pos rfl] at hc;exact hc
   obtain⟨p1,p2,p3⟩:=GX ha hcd (hz rfl) (by rw[d7] at hl;omega);have hd:dZ t=true:=by unfold dZ;rw[ha,decide_eq_true (G2.1 h0)];rfl
   unfold bB;rw[QS ha,if_neg om];dsimp only;rw[p3,hd,p1,if_neg dc,if_neg sQ,if_neg dc,if_pos rfl]
  ·rw[IY,k6,k6,k6,decide_eq_true_eq,decide_eq_true_eq] at hc;obtain⟨ca,cb,h1,hg⟩:=hc;have ha48:a≠[48]:=λc=>by
    rw[c,show T8 [48]=0 from rfl,Nat.gcd_zero_left] at hg;omega
   rw[d7,d6,d7] at hl;obtain⟨p1,p2,p3⟩:=GX ha ca ha48 om;have hd:dZ a=true:=by unfold dZ;rw[ha,decide_eq_true (G2.1 h0)];rfl
   have hdb:dZ b=true:=by unfold dZ;rw[hb,decide_eq_true (G2.1 hb0)];rfl
   have hzb:b.all (λc=>decide (c=48))=false:=by
    cases hh:b.all λc=>decide (c=48) with
    | false=>rfl
    | true=>have:=(IR hb).2 hh;omega
   have hpb:W9 b=0:=(rJ hb hb0 om).2 cb;have hda:T8 (T0 (45::a))=T8 a:=by rw[p3]
   unfold bB;rw[JX ha,if_neg (by rw[d7,d6,d7];omega)];dsimp only;rw[p3,hd,hdb,hzb,p1,hpb,if_neg dc,if_neg dc,if_neg dc,if_neg dc,if_neg];intro c;rcases c with c | c | c
   ·exact c rfl
   ·omega
   ·exact c hg
theorem IT (n:Nat):cM (Lib.decDigits n)=true:=by
 obtain⟨d1,d2,d3,d4,d5⟩:=cX n;unfold cM;rw[decide_eq_true d3,F6];rcases w6 n with h | h
 ·rw[h,Lib.decDigits_one dc];decide
 ·rw[decide_eq_false (d4 h)];simp
theorem xH {n k:Nat} (hk:0 < k) (h:n < 10 ^ k):(Lib.decDigits n).length<=k:=(cX n).2.2.2.2 k hk h
theorem tN {z:Int} {k:Nat} (hk:0 < k) (h:z.natAbs < 10 ^ k):(zT z).length<=k+1:=by
 have:=xH hk h;unfold zT;split
 ·rw[d7];omega
 ·omega
theorem VB {z:Int} (hz:z.natAbs < 1000000000000):I7 (zT z)=0:=yQ (SS om) (by have:=tN (z:=z) (k:=12) dc hz;omega)
theorem YF {z:Int} (h:zT z = [48]):z=0:=by
 unfold zT at h;split at h
 ·exact absurd (Nb h).1 dc
 ·have:=(cX z.natAbs).2.1;rw[h] at this;have:(0:Nat)=z.natAbs:=this;omega
theorem rZ {a:Int} {b:Nat} (hb:0 < b) (hb2:b < 10) (ha:a.natAbs < 10000):I7 (O0 a b)=0/\(a≠0->O0 a b≠[48])/\(O0 a b).length<=8:=by
 obtain⟨g,hg⟩ :∃g,g=I5 a.natAbs b:=⟨_,rfl⟩
 have hg0:0 < g:=by rw[hg];exact gM _ hb
 have hga:g∣a.natAbs:=by rw[hg];exact BR _ _
 have hgb:g∣b:=by rw[hg];exact Nat.gcd_dvd_right _ _
 have hn:(a / (g:Int)).natAbs=a.natAbs / g:=by
  obtain⟨c,hc⟩:=hga;rw[hc,Ni _ hg0];have h2:a=(g:Int)*c\/a=(g:Int) * -(c:Int):=by
   rcases Int.natAbs_eq a with h | h
   ·left;rw[h,hc];push_cast;rfl
   ·right;rw[h,hc];push_cast;rw[Int.mul_neg]
  rcases h2 with h2 | h2 <;> rw[h2,Nd _ om] <;> omega
 have hlt:(a / (g:Int)).natAbs < 10000:=by
  rw[hn];exact s7 (D7 _ _) ha
 have hz0:a≠0->a / (g:Int)≠0:=λh0 c=>by
  rw[c] at hn;have h1:a.natAbs / g=0:=hn.symm;have:=Nat.div_eq_zero_iff.1 h1;have h3:=SQ om hga;omega
 have hl:=tN (z:=a / (g:Int)) (k:=4) dc hlt;unfold O0;rw[<-hg];by_cases h1:b / g=1
 ·rw[if_pos h1];exact⟨VB om,λh0 c=>hz0 h0 (YF c),om⟩
 ·rw[if_neg h1];have hbg:1 < b / g:=by
   have:0 < b / g:=Nat.div_pos (SQ hb hgb) hg0;omega
  have hbl:b / g < 10:=s7 (D7 _ _) hb2;obtain⟨d1,d2,d3,d4,d5⟩:=cX (a / (g:Int)).natAbs;obtain⟨b1,b2,b3,b4,b5⟩:=cX (b / g);have hdl:=xH (n:=b / g) (k:=1) dc om;have hnl:=xH (n:=(a / (g:Int)).natAbs) (k:=4) dc om;have hcop:I5 (a / (g:Int)).natAbs (b / g)=1:=by
   rw[hn,Nat.gcd_div hga hgb,<-hg,Nat.div_self hg0]
  have hS:XT (zT (a / (g:Int))++47::Lib.decDigits (b / g)) (decide (a / (g:Int) < 0)) (Lib.decDigits (a / (g:Int)).natAbs++47::Lib.decDigits (b / g)):=by
   refine⟨?_,⟨_,⟨by rw[d6,d7];omega,_,_,d1,d3,rfl,.inr ⟨rfl,b1,b3⟩⟩,?_⟩,λ_ c=>?_⟩
   ·rw[<-o6];congr 1
    exact (SS (z:=a / (g:Int)) om).e
   ·rw[IY,IT,IT,d2,b2,decide_eq_true hbg,decide_eq_true hcop];rfl
   ·have:=congrArg F7 c;rw[d6,d7] at this;have e:([48]:e8).length=1:=rfl;omega
  have hll:(zT (a / (g:Int))++47::Lib.decDigits (b / g)).length<=8:=by
   rw[d6,d7];omega
  refine⟨yQ hS om,λ_ c=>?_,hll⟩;have:=congrArg F7 c;rw[d6,d7] at this;have h2:0 < (zT (a / (g:Int))).length:=by
   unfold zT;split
   ·simp
   ·exact d3
  have e:([48]:e8).length=1:=rfl;omega
theorem Cf {l:Q4} {m:Nat} (h:l.1.natAbs < m/\l.2.1.natAbs < m/\l.2.2.1.natAbs < m/\l.2.2.2.natAbs < m) (i:Nat):(q4 l i).natAbs < m:=by
 unfold q4;split
 ·exact h.1
 ·exact h.2.1
 ·exact h.2.2.1
 ·exact h.2.2.2
theorem LK {n:Nat} {l:Q4} (h:l.1.natAbs < 1000/\l.2.1.natAbs < 1000/\l.2.2.1.natAbs < 1000/\l.2.2.2.natAbs < 1000):jD n (dJ n l)=0/\(dJ n l).1.length<=5/\(dJ n l).2.length<=4/\∀t∈(dJ n l).2,t.2.length<=8/\0<=t.1/\t.1 < n:=by
 have hq:=Cf h;have hc:I7 (dJ n l).1=0:=VB om;obtain⟨F,hF⟩ :∃F,F=(z8 (min n 4)).filter λi=>decide (q4 l i≠0):=⟨_,rfl⟩
 have hlin:(dJ n l).2=F.map λi:Nat=>((i:Int),O0 (q4 l i) (1+i)):=by rw[hF];rfl
 have hFl:F.length<=4:=by
  rw[hF];refine v8 (List.length_filter_le _ _) ?_;rw[L9];omega
 have hFm :∀i∈F,i < n/\i < 4/\q4 l i≠0:=λi hi=>by
  rw[hF] at hi;obtain⟨h1,h2⟩:=List.mem_filter.1 hi;have h1:=aP.1 h1;exact⟨om,om,of_decide_eq_true h2⟩
 have hFs:F.Pairwise (· < ·):=by
  rw[hF];exact List.Pairwise.filter _ List.pairwise_lt_range
 refine⟨?_,?_,by rw[hlin,l7];exact hFl,λt ht=>?_⟩
 ·unfold jD;rw[if_neg (λc=>c hc),if_neg (by rw[hlin,l7];omega),V8];intro j hj;rw[hlin,l7] at hj;have hat :∀j (hj:j < F.length),(dJ n l).2.getD j (0,[])=((F[j]:Int),O0 (q4 l F[j]) (1+F[j])):=λj hj=>by
   rw[hlin,i7,G7,i6 hj];rfl
  obtain⟨f1,f2,f3⟩:=hFm F[j] (j0 hj);obtain⟨g1,g2,_⟩:=rZ (a:=q4 l F[j]) (b:=1+F[j]) om om (by have:=hq F[j];omega);unfold lJ;rw[hat j hj];dsimp only;rw[if_neg om,if_neg,if_neg (λc=>c g1),if_neg (g2 f3)];rintro⟨c1,c2⟩;rw[hat (j - 1) om] at c2;have:=List.pairwise_iff_getElem.1 hFs (j - 1) j om hj om;dsimp only at c2;omega
 ·have:=tN (z:=l.1 - l.2.1) (k:=4) dc om;exact this
 ·rw[hlin] at ht;obtain⟨i,hi,rfl⟩:=G6.1 ht;obtain⟨f1,f2,f3⟩:=hFm i hi;obtain⟨_,_,g3⟩:=rZ (a:=q4 l i) (b:=1+i) om om (by have:=hq i;omega);exact⟨g3,by dsimp only;omega,by dsimp only;omega⟩
end Go.Proofs.YtpjhmeicbjkcdaaGreatDoor
namespace Go.Proofs.YtpjhmeicbjkcdaaGreatDoor
open Go
theorem vR (l:List Nat) (i:Nat):(kF l i).natAbs < 1000:=by
 unfold kF;have h:l.getD i 0 % 7 < 7:=C8 _ dc;generalize l.getD i 0 % 7=m at h;split <;> omega
theorem Af (n:Nat) (l:List Nat):jD n (dJ n (kF l 0,kF l 1,kF l 2,kF l 3))=0:=(LK ⟨vR l 0,vR l 1,vR l 2,vR l 3⟩).1
theorem OS {g:Nat->Ex->Int×Nat} {k k1:Nat} {a:Ex} (h:g k a=(0,k1)):Z2 g k [a]=(0,k1):=by
 unfold Z2;rw[h,if_neg (λc=>c rfl)];unfold Z2;rfl
theorem Ao {g:Nat->Ex->Int×Nat} {k k1 k2:Nat} {a b:Ex} (h:g k a=(0,k1)) (h2:g k1 b=(0,k2)):Z2 g k [a,b]=(0,k2):=by
 unfold Z2;rw[h,if_neg (λc=>c rfl)];exact OS h2
theorem Ed (n:Nat) :∀(d:Nat) (l:List Nat) (k e:Nat),d+1<=e->k+2 ^ (d+1)<=65->(∀x∈l,x < 256)->∃k',M9 n e k (aE n d l).1=(0,k')/\k'+1<=k+2 ^ (d+1)/\∀x∈(aE n d l).2,x < 256:=by
 have leaf :∀(l:List Nat) (k e:Nat),1<=e->k < 64->M9 n e k (.mk 0 (dJ n (kF l 0,kF l 1,kF l 2,kF l 3)) [] [])=(0,k+1):=λl k e he hk=>by
  obtain⟨e,rfl⟩ :∃e',e=e'+1:=⟨e - 1,om⟩
  have hn:bH n 0 (dJ n (kF l 0,kF l 1,kF l 2,kF l 3)) [] ([]:List Ex).length=0:=by
   unfold bH;rw[if_neg dc,if_pos rfl,if_neg]
   ·exact Af n l
   ·rintro (c | c)
    ·exact absurd c dc
    ·exact c rfl
  unfold M9;rw[if_neg om,if_neg (λc=>c hn)];unfold Z2;rfl
 intro d;induction d with
 | zero=>
  intro l k e he hk hx;have h2:2 ^ (0+1)=2:=rfl;rw[h2] at hk;refine⟨k+1,leaf l k e he om,by rw[h2];omega,λx hm=>hx x (E8 hm)⟩
 | succ d ih=>
  intro l k e he hk hx;have hp:2 ^ (d+1+1)=2 ^ (d+1)+2 ^ (d+1):=by rw[O3];omega
  have hp1:2<=2 ^ (d+1):=by rw[O3];have:=MU (n:=d) (show 0 < 2 by decide);omega
  rw[hp] at hk;by_cases h0:l = []\/l.getD 0 0 % 6=0
  ·unfold aE;rw[if_pos h0];exact⟨k+1,leaf l k e om om,by rw[hp];omega,λx hm=>hx x (E8 hm)⟩
  ·obtain⟨e,rfl⟩ :∃e',e=e'+1:=⟨e - 1,om⟩
   obtain⟨k1,a1,a2,a3⟩:=ih (l.drop 1) (k+1) e om om (λx hm=>hx x (E8 hm));have hop:1<=((l.getD 0 0 % 6:Nat):Int)/\((l.getD 0 0 % 6:Nat):Int)<=5:=by
    have h1:l.getD 0 0 % 6 < 6:=C8 _ dc;have h2:l.getD 0 0 % 6≠0:=λc=>h0 (.inr c);omega
   have hl0:l.getD 0 0 < 256:=by
    cases l with
    | nil=>exact absurd (.inl rfl) h0
    | cons x l=>exact hx x sQ
   unfold aE;rw[if_neg h0];dsimp only;by_cases h5:l.getD 0 0 % 6=2\/l.getD 0 0 % 6=5\/l.getD 0 0 / 6 % 2=0
   ·rw[if_pos h5];have hn:bH n ((l.getD 0 0 % 6:Nat):Int) ([],[]) (if l.getD 0 0 % 6=2 then zT ((l.getD 0 0:Int) - 100) else []) [(aE n d (l.drop 1)).1].length=0:=by
     unfold bH;rw[if_neg om,if_neg om,if_neg,if_neg]
     ·by_cases h2:l.getD 0 0 % 6=2
      ·rw[if_pos om,if_pos h2];exact VB om
      ·rw[if_neg om]
     ·rintro (c | ⟨_,c⟩)
      ·exact absurd c sQ
      ·exact absurd c sQ
     ·rintro ((c | c) | ⟨c1,c2⟩)
      ·exact c rfl
      ·exact absurd c sQ
      ·rw[if_neg om] at c1;exact c1 rfl
    refine⟨k1,?_,by rw[hp];omega,a3⟩;unfold M9;rw[if_neg om,if_neg (λc=>c hn)];exact OS a1
   ·rw[if_neg h5];obtain⟨k2,b1,b2,b3⟩:=ih (aE n d (l.drop 1)).2 k1 e om om a3;have hn:bH n ((l.getD 0 0 % 6:Nat):Int) ([],[]) [] [(aE n d (l.drop 1)).1,(aE n d (aE n d (l.drop 1)).2).1].length=0:=by
     unfold bH;rw[if_neg om,if_neg om,if_neg,if_neg,if_neg om]
     ·rintro (c | ⟨c,_⟩)
      ·exact absurd c sQ
      ·omega
     ·rintro ((c | c) | ⟨c,_⟩)
      ·exact c rfl
      ·exact absurd c sQ
      ·exact c rfl
    refine⟨k2,?_,by rw[hp];omega,b3⟩;unfold M9;rw[if_neg om,if_neg (λc=>c hn)];exact Ao a1 b1
theorem mF {α:Type} {most:Nat} {l:List α} {nm:α->e8} {f:α->Int} (hl:l.length<=most) (h :∀i (h:i < l.length),H8 (nm l[i])=true/\nm l[i]∉(l.take i).map nm/\f l[i]=0):bC most l nm f=0:=by
 unfold bC;rw[if_neg om,V8];intro i hi;rw[i6 hi];obtain⟨h1,h2,h3⟩:=h i hi;have hn:wH ((l.take i).map nm) (nm l[i])=0:=by
  unfold wH;rw[if_neg (by rw[h1];decide),if_neg h2]
 show oE (wH ((l.take i).map nm) (nm l[i])) (f l[i])=0
 rw[hn,P7,h3]
theorem cZ {n m:Int} (h : -m<=n/\n<=m):aH n m=false:=by
 unfold aH;rw[decide_eq_false om,decide_eq_false om];rfl
theorem TC (x:Int):u8 x < 256:=by unfold u8;omega
theorem UO {how i:Nat} {x:Q5} (h:i8 x.1/\i8 x.2.1/\i8 x.2.2.1/\i8 x.2.2.2.1/\i8 x.2.2.2.2):wF (kE how i x)=0:=by
 obtain⟨h1,h2,h3,h4,h5⟩:=h;unfold i8 at h4 h5;have hu:=TC x.1;have hm:u8 x.2.1 % 3 < 3:=C8 _ dc;have hv:u8 x.2.2.1 % 4 < 4:=C8 _ dc;unfold wF kE;dsimp only;rw[if_neg om,if_neg (by rw[l7,L9];omega),V8];intro j hj;rw[l7,L9] at hj;rw[i7,G7,qH hj];show IX (vZ x j)=0
 unfold IX vZ;rw[if_neg (by rw[l7,L9];omega),if_neg];intro c;obtain⟨v,hv1,hv2⟩:=E6.1 c;obtain⟨w,hw,rfl⟩:=G6.1 hv1;have hw:=aP.1 hw;unfold tQ TA at hv2;dsimp only at hv2;rw[cZ om,cZ om,cZ om] at hv2;exact absurd hv2 dc
theorem wS (x:Int) : -12<=x.tmod 13/\x.tmod 13<=12:=by
 have h1:x.tmod 13 < 13:=Int.tmod_lt_of_pos x dc;have h2 : -13 < x.tmod 13:=by
  have h:=Int.tmod_lt_of_pos (-x) (b:=13) dc;rw[Int.neg_tmod] at h;omega
 omega
theorem VS {how i:Nat} {parts:List W3} (hp:parts≠[]) {x:Q6} (h:i8 x.2.2.2.2.2):wL (parts.map (·.1)) (fJ how parts i x)=0:=by
 unfold i8 at h;have hpl:0 < parts.length:=G2.2 hp;have hm:(fJ how parts i x).2.1∈parts.map (·.1):=by
  have hlt:u8 x.1 % parts.length < parts.length:=C8 _ hpl;show (parts.getD (u8 x.1 % parts.length) ([],0,[])).1∈_
  rw[i7,i6 hlt];exact G6.2 ⟨_,j0 hlt,rfl⟩
 obtain⟨a,_,_⟩:=rZ (a:=x.2.2.2.2.2) (b:=1) dc dc om;obtain⟨b,_,_⟩:=rZ (a:=x.2.2.2.2.2+1) (b:=2) dc dc om;obtain⟨c,_,_⟩:=rZ (a:=x.2.2.2.2.2+2) (b:=3) dc dc om;unfold wL;rw[if_neg (λc=>c hm),if_neg]
 ·show oE (I7 (O0 x.2.2.2.2.2 1)) (oE (I7 (O0 (x.2.2.2.2.2+1) 2)) (I7 (O0 (x.2.2.2.2.2+2) 3)))=0
  rw[a,b,c];rfl
 ·show ¬ (aH (x.2.1.tmod 13) 12 || (aH (x.2.2.1.tmod 13) 12 || (aH (x.2.2.2.1.tmod 13) 12 || aH (x.2.2.2.2.1.tmod 13) 12)))=true
  rw[cZ (wS _),cZ (wS _),cZ (wS _),cZ (wS _)];decide
theorem WT {how i:Nat} {x:Int×Int×Int} (h:i8 x.1/\i8 x.2.1/\i8 x.2.2):wM (lN how i x)=0:=by
 unfold i8 at h;unfold wM lN;dsimp only;rw[cZ om,cZ om,cZ om,if_neg dc,if_neg om]
theorem TZ {how n i:Nat} {l:List Nat} (h :∀x∈l,x < 256):wE n (kD how n i l)=0:=by
 obtain⟨k',h1,_⟩:=Ed n 3 l 0 8 dc dc h;have hg:pL n (kD how n i l).2.1=0:=congrArg Prod.fst h1;have n1:I7 [45,55,47,50]=0:=by decide +kernel
 have n2:I7 [49,49]=0:=by decide +kernel
 unfold wE;rw[hg,P7];unfold kD;dsimp only;have c1 : ¬ (([45,55,47,50]:e8) = []):=dc
 have c2 : ¬ (([49,49]:e8) = []):=dc
 have c3 : ¬ dF [49,49]*dG [45,55,47,50] < dF [45,55,47,50]*dG [49,49]:=by decide +kernel
 by_cases h2:l.length % 2=0 <;> by_cases h3:l.length % 3=0 <;> simp[h2,h3,n1,n2,c3,oE]
theorem ZC {k:YC} (g:MQ k):IW (G0 k)=0:=by
 have hname:H8 (G0 k).nm=true:=(fQ dc (by have:=C8 k.nm (show 0 < 5 by decide);omega) k.nm).1;have hp:bC 64 (G0 k).parts (·.1) wF=0:=mF (v8 (fH (kE k.nm) k.parts 3) dc) λi hi=>by
  have hl:=fH (kE k.nm) k.parts 3;obtain⟨h',e⟩:=uW (kE k.nm) (k.parts.take 3) (i:=i) hi;have hx:=g.p _ (C6 (j0 h'));have e:(G0 k).parts[i]=kE k.nm i (k.parts.take 3)[i]:=e;have hi3:i < 3:=S3 hi hl;rw[e];exact⟨(fQ dc om _).1,by rw[<-e];exact xI (nm:=λx:W3=>x.1) (f:=kE k.nm) (kind:=113) (how:=k.nm / 2) (λ_ _=>rfl) dc hi,UO hx⟩
 have hi:bC 12 (G0 k).insts (·.1) (wL ((G0 k).parts.map (·.1)))=0:=by
  have e:(G0 k).insts=aJ k.nm (G0 k).parts k.insts:=rfl;rw[e];unfold aJ;by_cases hne:(G0 k).parts = []
  ·rw[if_pos hne];rfl
  ·rw[if_neg hne];refine mF (v8 (fH (fJ k.nm (G0 k).parts) k.insts 3) dc) λi hi=>?_;have hl:=fH (fJ k.nm (G0 k).parts) k.insts 3;obtain⟨h',e⟩:=uW (fJ k.nm (G0 k).parts) (k.insts.take 3) (i:=i) hi;have hx:=g.i _ (C6 (j0 h'));have hi3:i < 3:=S3 hi hl;refine⟨?_,xI (nm:=λx:mX=>x.1) (f:=fJ k.nm (G0 k).parts) (kind:=105) (how:=k.nm / 4) (λ_ _=>rfl) dc hi,?_⟩
   ·rw[e];exact (fQ dc om _).1
   ·rw[e];exact VS hne hx.2.2.2.2.2
 have hd:bC 64 (G0 k).dims (·.1) wM=0:=mF (v8 (fH (lN k.nm) k.dims 4) dc) λi hi=>by
  have hl:=fH (lN k.nm) k.dims 4;obtain⟨h',e⟩:=uW (lN k.nm) (k.dims.take 4) (i:=i) hi;have hx:=g.d _ (C6 (j0 h'));have e:(G0 k).dims[i]=lN k.nm i (k.dims.take 4)[i]:=e;have hi3:i < 4:=S3 hi hl;rw[e];exact⟨(fQ dc om _).1,by rw[<-e];exact xI (nm:=λx:S1=>x.1) (f:=lN k.nm) (kind:=100) (how:=k.nm / 8) (λ_ _=>rfl) dc hi,WT hx⟩
 have hc:bC 64 (G0 k).cons (·.1) (λc=>jD (G0 k).dims.length c.2)=0:=mF (v8 (fH (rB k.nm (G0 k).dims.length) k.cons 2) dc) λi hi=>by
  have hl:=fH (rB k.nm (G0 k).dims.length) k.cons 2;obtain⟨h',e⟩:=uW (rB k.nm (G0 k).dims.length) (k.cons.take 2) (i:=i) hi;obtain⟨x1,x2,x3,x4⟩:=g.c _ (C6 (j0 h'));unfold i8 at x1 x2 x3 x4;have e:(G0 k).cons[i]=rB k.nm (G0 k).dims.length i (k.cons.take 2)[i]:=e;have hi3:i < 2:=S3 hi hl;rw[e];exact⟨(fQ dc om _).1,by rw[<-e];exact xI (nm:=λx:kY=>x.1) (f:=rB k.nm (G0 k).dims.length) (kind:=99) (how:=k.nm / 16) (λ_ _=>rfl) dc hi,(LK ⟨om,om,om,om⟩).1⟩
 have hq:bC 64 (G0 k).reqs (·.1) (wE (G0 k).dims.length)=0:=mF (v8 (fH (kD k.nm (G0 k).dims.length) k.gaps 2) dc) λi hi=>by
  have hl:=fH (kD k.nm (G0 k).dims.length) k.gaps 2;obtain⟨h',e⟩:=uW (kD k.nm (G0 k).dims.length) (k.gaps.take 2) (i:=i) hi;have hx:=g.g _ (C6 (j0 h'));have e:(G0 k).reqs[i]=kD k.nm (G0 k).dims.length i (k.gaps.take 2)[i]:=e;have hi3:i < 2:=S3 hi hl;rw[e];exact⟨(fQ dc om _).1,by rw[<-e];exact xI (nm:=λx:kV=>x.1) (f:=kD k.nm (G0 k).dims.length) (kind:=114) (how:=k.nm / 32) (λ_ _=>rfl) dc hi,TZ hx⟩
 unfold IW;rw[if_neg (by rw[hname];decide),hp,hi,hd,hc,hq];rfl
end Go.Proofs.YtpjhmeicbjkcdaaGreatDoor
namespace Go.Proofs.YtpjhmeicbjkcdaaGreatDoor
open Go
theorem sC {α:Type} {g:α->e8} {m:Nat} :∀{l:List α},(∀x∈l,(g x).length<=m)->(l.flatMap g).length<=m*l.length
 | [],_=>f8 _
 | x::l,h=>by
  rw[I6,d6,d7,Nat.mul_succ];have h1:=h x sQ;have h2:=sC (l:=l) λy hy=>h y (by simp[hy]);omega
theorem XG {m:Nat} :∀{L:List e8},(∀x∈L,x.length<=m)->(O5 L).length<=(m+2)*L.length
 | [],_=>f8 _
 | [x],h=>by
  have:=h x sQ;show x.length<=(m+2)*1
  omega
 | x::y::r,h=>by
  have h1:=h x sQ;have h2:=XG (L:=y::r) λz hz=>h z (by simp[hz]);show (x++44::32::O5 (y::r)).length<=(m+2)*((y::r).length+1)
  rw[d6,d7,d7,Nat.mul_succ];omega
theorem Eo {s:e8} {m:Nat} (h:s.length<=m):(P1 s).length<=2*m+2:=by
 unfold P1;split
 ·omega
 ·unfold GO;split
  ·exact f8 _
  ·split
   ·exact f8 _
   ·show (34::(G4 s++[34])).length<=_
    rw[d7,d6,w7];have:=EW s;omega
theorem OI {l:List Int} {m:Nat} (h :∀z∈l,(zT z).length<=m):(dL l).length<=(m+2)*l.length+2:=by
 unfold dL;rw[d7,d6,w7];have:=XG (m:=m) (L:=l.map zT) λx hx=>by
  obtain⟨z,hz,rfl⟩:=G6.1 hx;exact h z hz
 rw[l7] at this;omega
theorem ZY (op:Int):(jP op).length<=5:=by
 unfold jP;repeat' split
 all_goals decide
theorem Cy {α β:Type} {f:Nat->α->β} {l:List α} {m:Nat} {y:β} (h:y∈(l.take m).zipIdx.map λp=>f p.2 p.1) :∃i x,y=f i x/\i < m/\x∈l:=by
 obtain⟨⟨x,i⟩,hp,rfl⟩:=G6.1 h;have:=List.mem_zipIdx hp;obtain⟨_,h2,h3⟩:=this;refine⟨i,x,rfl,?_,?_⟩
 ·rw[j8] at h2;omega
 ·rw[h3];exact C6 (j0 _)
end Go.Proofs.YtpjhmeicbjkcdaaGreatDoor
namespace Go.Proofs.YtpjhmeicbjkcdaaGreatDoor
open Go
theorem bI {s:e8} (h:H8 s=true):(P1 s).length<=82:=Eo (aY h).2.1
theorem IC {n:Int} {nt:Int->e8} {f:gG} (g:wR n f) (hn :∀i:Int,0<=i->i < n->(nt i).length<=82):(bZ nt f).length<=31640:=by
 have h0:=Q2 g.c;unfold bZ;rw[d7,d6,d6,w7];have:=sC (g:=dV nt) (m:=488) (l:=f.2) λt ht=>by
  obtain⟨⟨t1,t2⟩,t3⟩:=g.all t ht;have hx:=hn t.1 t1 t2;have hy:=Q2 t3;unfold dV;rw[d6,d6];have e3:([32,42,32]:e8).length=3:=rfl;have e1:(if t.2.getD 0 0=45 then ([32,45,32]:e8)++t.2.drop 1 else [32,43,32]++t.2).length<=403:=by
   split
   ·rw[d6,k9];have e:([32,45,32]:e8).length=3:=rfl;omega
   ·rw[d6];have e:([32,43,32]:e8).length=3:=rfl;omega
  omega
 have h4:488*f.2.length<=488*64:=B8 488 g.l;omega
theorem IJ {n:Int} {nt:Int->e8} {d:Nat} (ih :∀(k:Nat) (x:Ex),(M9 n d k x).1=0->k<=(M9 n d k x).2/\(M9 n d k x).2<=64/\(E7 nt d x).length+2+32100*k<=32100*(M9 n d k x).2) :
  ∀(L:List Ex) (k:Nat),k<=64->(Z2 (M9 n d) k L).1=0->k<=(Z2 (M9 n d) k L).2/\(Z2 (M9 n d) k L).2<=64/\(O5 (L.map (E7 nt d))).length+32100*k<=32100*(Z2 (M9 n d) k L).2
 | [],k,hk,_=>by
  unfold Z2;exact⟨k8 _,hk,by show 0+32100*k<=32100*k;omega⟩
 | [x],k,hk,he=>by
  unfold Z2 at he ⊢;by_cases h0:(M9 n d k x).1=0
  ·rw[if_neg (λc=>c h0)] at he ⊢;unfold Z2 at he ⊢;obtain⟨h1,h2,h3⟩:=ih k x h0;exact⟨h1,h2,by show (E7 nt d x).length+32100*k<=32100*(M9 n d k x).2;omega⟩
  ·rw[if_pos h0] at he;exact absurd he h0
 | x::y::r,k,hk,he=>by
  unfold Z2 at he ⊢;by_cases h0:(M9 n d k x).1=0
  ·rw[if_neg (λc=>c h0)] at he ⊢;obtain⟨h1,h2,h3⟩:=ih k x h0;obtain⟨g1,g2,g3⟩:=IJ ih (y::r) (M9 n d k x).2 h2 he;refine⟨om,g2,?_⟩;show (E7 nt d x++44::32::O5 ((y::r).map (E7 nt d))).length+32100*k<=_
   rw[d6,d7,d7];omega
  ·rw[if_pos h0] at he;exact absurd he h0
theorem IK {n:Int} {nt:Int->e8} (hn :∀i:Int,0<=i->i < n->(nt i).length<=82) :∀(d k:Nat) (x:Ex),(M9 n d k x).1=0->k<=(M9 n d k x).2/\(M9 n d k x).2<=64/\(E7 nt d x).length+2+32100*k<=32100*(M9 n d k x).2
 | 0,k,x,he=>by
  unfold M9 at he;exact absurd he (show ¬ (15:Int)=0 by decide)
 | d+1,k,.mk op f fac args,he=>by
  unfold M9 at he ⊢;split at he
  ·exact absurd he (show ¬ (6:Int)=0 by decide)
  ·rename_i hk
   split at he
   ·rename_i h2;exact absurd he h2
   ·rename_i h2
    have h2:=l9.1 h2;rw[if_neg hk,if_neg (λc=>c h2)];obtain⟨e1,e2,e3⟩:=IJ (IK hn d) args (k+1) om he;refine⟨om,e2,?_⟩;by_cases h0:op=0
    ·subst h0;obtain⟨gf,rfl,rfl⟩:=yS h2;have e:E7 nt (d+1) (.mk 0 f [] [])=bZ nt f:=if_pos rfl;rw[e];have:=IC gf hn;omega
    ·obtain⟨ho,_,hfa,hfn,_,_⟩:=KZ h0 h2;have e:E7 nt (d+1) (.mk op f fac args)=jP op++((if op=2 then 32::(fac++[32]) else [])++(40::(O5 (args.map (E7 nt d))++[41]))):=if_neg h0;rw[e,d6,d6,d7,d6,w7];have how:=ZY op;have hf:(if op=2 then (32::(fac++[32]):e8) else []).length<=402:=by
      split
      ·rename_i h5
       have:=Q2 (hfn h5);rw[d7,d6,w7];omega
      ·exact f8 _
     omega
theorem WA {n:Int} {nt:Int->e8} (hn :∀i:Int,0<=i->i < n->(nt i).length<=82) {x:Ex} (h:pL n x=0):(E7 nt 8 x).length<=2054400:=by
 obtain⟨_,h2,h3⟩:=IK hn 8 0 x h;omega
theorem z7 {z:Int} (h:z.natAbs < 10000000000):(zT z).length<=11:=tN (k:=10) dc h
def QG (p:jL):e8:=[112,114,111,100,117,99,116,32]++(P1 p.nm++([59,10]++(p.parts.flatMap oA++p.insts.flatMap oH)))
theorem GS {p:jL} (g:Bo p):(QG p).length<=400000:=by
 have h1:=sC (g:=oA) (m:=5000) (l:=p.parts) λx hx=>by
  have gx:=bQ g.gp.2 x hx;have hn:=bI gx.n;have hz:=z7 (z:=x.2.1) (by have:=gx.d;omega);have:=sC (g:=tD) (m:=776) (l:=x.2.2) λc hc=>by
   obtain⟨c1,c2⟩:=gx.v c hc;have:=sC (g:=tP) (m:=48) (l:=c) λv hv=>by
    obtain⟨v1,v2,v3⟩:=c2 v hv;unfold tP;rw[d7];have:=OI (m:=11) (l:=[v.1,v.2.1,v.2.2]) λz hz=>by
     simp only[A8,Q0,or_false] at hz;rcases hz with rfl | rfl | rfl <;> exact z7 om
    have e:[v.1,v.2.1,v.2.2].length=3:=rfl;rw[e] at this;omega
   unfold tD;rw[d6,d6];have e1:([32,32,99,101,108,108]:e8).length=6:=rfl;have e2:([59,10]:e8).length=2:=rfl;have h4:48*c.length<=48*16:=B8 48 c1;omega
  have h4:776*x.2.2.length<=776*6:=B8 776 gx.c;unfold oA;simp only[d6,d7,d9];omega
 have h2:=sC (g:=oH) (m:=1600) (l:=p.insts) λx hx=>by
  have gx:=bQ g.gi.2 x hx;have hn:=bI gx.n;have hp:H8 x.2.1=true:=by
   obtain⟨y,hy,e⟩:=G6.1 gx.p;rw[<-e];exact (bQ g.gp.2 y hy).n
  have hpn:=bI hp;obtain⟨t1,t2,t3,t4⟩:=gx.t;have:=OI (m:=11) (l:=[x.2.2.1.1,x.2.2.1.2.1,x.2.2.1.2.2.1,x.2.2.1.2.2.2]) λz hz=>by
   simp only[A8,Q0,or_false] at hz;rcases hz with rfl | rfl | rfl | rfl <;> exact z7 om
  have e:[x.2.2.1.1,x.2.2.1.2.1,x.2.2.1.2.2.1,x.2.2.1.2.2.2].length=4:=rfl;rw[e] at this;have s1:=Q2 gx.s.1;have s2:=Q2 gx.s.2.1;have s3:=Q2 gx.s.2.2;unfold oH;simp only[d6,d7,d9];omega
 have hn:=bI g.gn;have l1:=g.gp.1;have l2:=g.gi.1;unfold QG;simp only[d6,d7,d9];omega
theorem NV (p:jL):QH p=QG p++(p.dims.flatMap sW++(p.cons.flatMap (sZ p.dims)++p.reqs.flatMap (lW p.dims))):=by
 unfold QH QG;simp only[o6]
theorem UR {p:jL} (g:Bo p):(QH p).length<=200000000:=by
 have h0:=GS g;have hd :∀d∈p.dims,H8 d.1=true:=λd h=>(bQ g.gd.2 d h).n;have hnm :∀i:Int,0<=i->i < p.dims.length->(D6 p.dims i).length<=82:=λi i0 i1=>bI (Fd hd i0 i1);have h1:=sC (g:=sW) (m:=200) (l:=p.dims) λx hx=>by
  have gx:=bQ g.gd.2 x hx;have hn:=bI gx.n;obtain⟨a,b,c⟩:=gx.r;have z1:=z7 (z:=x.2.1) om;have z2:=z7 (z:=x.2.2.1) om;have z3:=z7 (z:=x.2.2.2) om;unfold sW;simp only[d6,d7,d9];omega
 have hc:=bQ (Q:=λx:kY=>H8 x.1=true/\wR p.dims.length x.2) g.gc.2;have h2:=sC (g:=sZ p.dims) (m:=32000) (l:=p.cons) λx hx=>by
  obtain⟨c1,c2⟩:=hc x hx;have hn:=bI c1;have hf:=IC c2 hnm;unfold sZ;simp only[d6,d7,d9];omega
 have h3:=sC (g:=lW p.dims) (m:=2060000) (l:=p.reqs) λx hx=>by
  have gx:=bQ g.gr.2 x hx;have hn:=bI gx.nm;have hg:=WA hnm gx.g;have e1:(if x.2.2.1 = [] then ([]:e8) else [32,102,114,111,109,32]++x.2.2.1).length<=410:=by
   split
   ·decide
   ·rename_i c
    have:=Q2 (gx.l.resolve_left c);rw[d6];have e:([32,102,114,111,109,32]:e8).length=6:=rfl;omega
  have e2:(if x.2.2.2 = [] then ([]:e8) else [32,116,111,32]++x.2.2.2).length<=410:=by
   split
   ·decide
   ·rename_i c
    have:=Q2 (gx.h.resolve_left c);rw[d6];have e:([32,116,111,32]:e8).length=4:=rfl;omega
  unfold lW;rw[d6,d6,d6,d6,d6,d6];have e3:([114,101,113,117,105,114,101,32]:e8).length=8:=rfl;have e4:([58,32]:e8).length=2:=rfl;have e5:([59,10]:e8).length=2:=rfl;omega
 have l1:=g.gd.1;have l2:=g.gc.1;have l3:=g.gr.1;rw[NV,d6,d6,d6];omega
end Go.Proofs.YtpjhmeicbjkcdaaGreatDoor
namespace Go.Proofs.YtpjhmeicbjkcdaaGreatDoor
open Go Go.RowKit Go.Dw
theorem QV {body:(Dw.Ex->Tm->List Ch->Prop)->Tm->List Ch->Prop} {Q:Dw.Ex->Tm->List Ch->Prop} {t:Tm} {s:List Ch} (h:FF s->u6 body Q t s):u6 body Q t s:=by
 by_cases hs:FF s
 ·exact h hs
 ·exact u6.mkS Unit (λ_=>t) (λ_=>s) (λ_=>True) (λ_=>0) () trivial (λn w0 w a hok _=>absurd ⟨w0,w,hok⟩ hs) (λg _ hsat=>absurd hsat hs)
section
variable {s:List Ch} {i b:Nat} {h:Hp} {dv:Value} {t:e8} {q:TV->List Ch->Prop}
theorem Ck {c k bb T m off:Nat} {H:Hp} {cs:List Value} {L:List Int} (hi:m8 s i=some (.hp h)) (hI:kW h b dv t) (hc:m8 s c=some (.hp H)) (hci:c≠i) (hk:m8 s k=some (.box bb cs T)) (hki:k≠i)
  (hcs :∀x (hx:x < L.length),cs[off+x]?=some (iQ L[x])) (hm:m=L.length) (hP:dT H) (h0:0 < L.length) (hn:L.length < 1000) (hz :∀z∈L,LV z) (hlen:t.length+(dL L).length < 1000000)
  (hq :∀v h',kW h' b dv (t++dL L)->q v (x9 s i (.hp h'))):Q8 Tryz.prog s 59 [pQ b,.slice (some ⟨bb,off,none⟩) m m] q:=by
 subst hm;refine l6 (i:=i) hi (λw0 w hok=>RB w (hok.mem i _ hi) hI (Sl.mono (j7 _) (Hp.le_minus (hok.mem k _ hk).whole (hok.disj k i _ _ hki hk hi)) (KA (f:=Gf) (off:=off) (λ_=>rfl) (λkk hkk jj v hv=>?_))) (hP.mono (Hp.le_minus (hok.mem c _ hc).whole (hok.disj c i _ _ hci hc hi))) h0 hn hz hlen) ?_
 ·match jj,hv with
  | 0,hv=>
   have hv:some (Value.int .i64 L[kk])=some v:=hv;rw[E3,G3,<-hv];exact hcs kk hkk
 ·rintro v h' _ ⟨rfl,hI2⟩;rw[p8];exact hq _ _ hI2
theorem Ia {c:Nat} {H:Hp} {ad a:Option Addr} {nd cd n c':Nat} {D:List S1} {f:gG} (hi:m8 s i=some (.hp h)) (hI:kW h b (.slice ad nd cd) t) (hc:m8 s c=some (.hp H)) (hci:c≠i)
  (hL:Sl (B0 U0) 2 H a n c' f.2) (hD:Sl (B0 O1) 4 H ad nd cd D) (hn:f.2.length < 1000000) (hdn :∀d∈D,d.1.length < 1000000) (hix :∀x∈f.2,0<=x.1/\x.1 < D.length) (hlen:t.length+(bZ (D6 D) f).length < 1000000000)
  (hq :∀v h',kW h' b (.slice ad nd cd) (t++bZ (D6 D) f)->q v (x9 s i (.hp h'))):Q8 Tryz.prog s 60 [pQ b,.agg #[sv f.1,.slice a n c']] q:=by
 refine l6 (i:=i) hi (λw0 w hok=>CR (fc:=f.1) (L:=f.2) w (hok.mem i _ hi) hI (hL.mono (j7 _) (Hp.le_minus (hok.mem c _ hc).whole (hok.disj c i _ _ hci hc hi))) (hD.mono (j7 _) (Hp.le_minus (hok.mem c _ hc).whole (hok.disj c i _ _ hci hc hi))) hn hdn hix hlen) ?_;rintro v h' _ ⟨rfl,hI2⟩;rw[p8];exact hq _ _ hI2
theorem Ic {c d e:Nat} {H:Hp} {ad:Option Addr} {nd cd:Nat} {D:List S1} {x:Ex} {xs:List Value} (hi:m8 s i=some (.hp h)) (hI:kW h b (.slice ad nd cd) t) (hc:m8 s c=some (.hp H)) (hci:c≠i)
  (hx:P5 e H x xs) (hD:Sl (B0 O1) 4 H ad nd cd D) (hg:XY D.length d x) (hs:AS x) (hdn :∀d∈D,d.1.length < 1000000) (hlen:t.length+(E7 (D6 D) d x).length < 1000000000)
  (hq :∀v h',kW h' b (.slice ad nd cd) (t++E7 (D6 D) d x)->q v (x9 s i (.hp h'))):Q8 Tryz.prog s 61 [pQ b,.agg xs.toArray] q:=by
 refine l6 (i:=i) hi (λw0 w hok=>CT hdn d e _ t x xs w (hok.mem i _ hi) hI hg hs (q7 e _ _ _ _ (Hp.le_minus (hok.mem c _ hc).whole (hok.disj c i _ _ hci hc hi)) hx) (hD.mono (j7 _) (Hp.le_minus (hok.mem c _ hc).whole (hok.disj c i _ _ hci hc hi))) hlen) ?_;rintro v h' _ ⟨rfl,hI2⟩;rw[p8];exact hq _ _ hI2
end
theorem nJ {z:Int} (h:z.natAbs < 9000000000000000000):LV z:=by unfold LV;omega
theorem EX {x:e8} (h:decide (x≠[])=false):x = []:=j9 λc=>by rw[decide_eq_true c] at h;cases h
theorem EP {x:e8} (h:decide (x≠[])=true) : ¬ x = []:=of_decide_eq_true h
set_option maxRecDepth 10000 in
set_option maxHeartbeats 4000000 in
theorem MT {d:Nat} {p:jL} {cs:List Value} (w:World) (hp:qB d (Hp.whole w) p cs) (hs:SJ p) (hT:dT (Hp.whole w)) :
  j6 Tryz.prog 13 #[.agg cs.toArray] w (v7 w (.tuple #[sv (ZV p).1,iQ (ZV p).2])):=by
 have hp':=hp;obtain⟨a1,n1,c1,a2,n2,c2,a3,n3,c3,a4,n4,c4,a5,n5,c5,rfl,h1,h2,h3,h4,h5⟩:=hp.ex;have hl1:=h1.len;have hl2:=h2.len;have hl3:=h3.len;have hl4:=h4.len;have hl5:=h5.len;refine enterZ (cx 205) [.agg #[sv p.nm,.slice a1 n1 c1,.slice a2 n2 c2,.slice a3 n3 c3,.slice a4 n4 c4,.slice a5 n5 c5]] [.tmp 2,.tmp 3] Tryz.func13 ?_;obtain⟨c0,hc0⟩ :∃c0,c0=Hp.whole w:=⟨_,rfl⟩
 rw[<-hc0] at h1 h2 h3 h4 h5 hT hp' ⊢;intro b1;refine k7 _ (λw' hm=>NA w' (hp'.mono (hm 0 _ rfl).whole) hs) ?_;unfold ZV;refine d8 (λg1=>?_) λg1=>?_
 ·rw[if_pos g1];exact⟨[],⟨rfl,rfl⟩,pk [0]⟩
 rw[if_neg g1];have g:Bo p:=GU (l9.1 g1);have hdn :∀d∈p.dims,d.1.length < 1000000:=λd hd=>by have:=(aY (bQ g.gd.2 d hd).n).2.1;omega
 have q1:=g.gp.1;have q2:=g.gi.1;have q3:=g.gd.1;have q4:=g.gc.1;have q5:=g.gr.1;have hpre:=GS g;have hall:=UR g;have hpe:=NV p;intro b29;refine k7 _ (λw' hm=>Z0 p.nm hs.nm w') ?_;intro b34;have hnm:=bI g.gn;refine Hd (i:=2) (k:=3) (fl:=.pointer none) (L:=[[112,114,111,100,117,99,116,32],P1 p.nm,[59,10]]) rfl rfl dc (.inl rfl) rfl sQ (by simp only[w5,y6,d6,d7,d9];omega) λv fl0 o0 hfl0 ho0=>?_;obtain⟨hd0,hhd⟩ :∃x,x=([[112,114,111,100,117,99,116,32],P1 p.nm,[59,10]]:List e8).flatten:=⟨_,rfl⟩
 rw[<-hhd] at ho0;have hP:QG p=hd0++(p.parts.flatMap oA++p.insts.flatMap oH):=by rw[hhd];unfold QG;simp
 rw[hP] at hpre hpe;have hpl:=congrArg F7 hpe;simp only[d6] at hpre hpl;refine QV λhsat=>?_;have hdj0:(Ch.box b29 [fl0,o0.v,.slice a3 n3 c3] 118).h.dj o0.h:=by
  obtain⟨w0,w1,hok⟩:=hsat;exact hok.disj 2 4 _ _ dc rfl rfl
 refine u6.mk (Nat×Hp) (λg=>[(1,.bx 2 0),(5,.v (pQ b29)),(38,.v (.slice a1 n1 c1)),(39,.v (iQ n1)),(40,.v (iQ g.1))]) (λg=>[.hp c0,.hp g.2,.box b1 [sv p.nm,.slice a1 n1 c1,.slice a2 n2 c2,.slice a3 n3 c3,.slice a4 n4 c4,.slice a5 n5 c5] 30])
  (λg=>g.1<=n1/\kW g.2 b29 (.slice a3 n3 c3) (hd0++(p.parts.take g.1).flatMap oA)) (λg=>n1 - g.1) (0,(Ch.box b29 [fl0,o0.v,.slice a3 n3 c3] 118).h.join o0.h) ⟨f8 _,fl0,o0,rfl,hdj0,hfl0,by simpa using ho0⟩ (v6.mk (λ_ _ h=>Ok.join (c:=.hp c0) (d:=.box b29 [fl0,o0.v,.slice a3 n3 c3] 118) (e:=.hp o0.h) (s:=[.box b1 [sv p.nm,.slice a1 n1 c1,.slice a2 n2 c2,.slice a3 n3 c3,.slice a4 n4 c4,.slice a5 n5 c5] 30]) (h.pick [0,2,4,1] rfl rfl)) rfl rfl) ?_
 rintro⟨k,h⟩ ⟨hk,hI⟩;dsimp only at hk hI ⊢;refine d8 (λg2=>?_) λg2=>?_
 ·have hkl:k < p.parts.length:=om
  obtain⟨⟨nm,dens,cells⟩,hx⟩ :∃x,x=p.parts[k]:=⟨_,rfl⟩
  have hxm:(nm,dens,cells)∈p.parts:=by rw[hx];exact j0 hkl
  have gx:=bQ g.gp.2 _ hxm;have hcc:cells.length<=6:=gx.c;have hfle:=sB (g:=oA) hkl;have hft:=cW (g:=oA) hkl;rw[<-hx] at hfle hft;have hxl:(oA (nm,dens,cells)).length=5+((P1 nm).length+(9+((zT dens).length+(3+((cells.flatMap tD).length+2))))):=by unfold oA;simp only[d6,d7,d9]
  refine I1 cQ (e:=83) rfl h1 k rfl hkl λb9 o9 cs hcs hR hcell=>?_;rw[<-hx] at hR;obtain⟨ac,nc,cc,rfl,hcel⟩:=hR;have hcl:=hcel.len;dsimp only at hcl hcel;refine T7 cQ (i:=0) rfl hcell rfl ?_;intro b7;refine s6.by_order0 cQ (.take 0 <| .take 1 <| .take 2 <| .take 4 <| .take 5 <| .run 3 <| .run 6 <| .run 7 <| .run 8 <| .done) kr (K9 _ 1) ?_;refine k7 _ (λw' hm=>Z0 nm (by have:=(aY gx.n).2.1;dsimp only at this;omega) w') ?_;refine⟨sK,?_⟩;refine k7 _ (λw' hm=>fU dens (nJ (by have:=gx.d;dsimp only at this;omega)) w' (hT.mono (hm 0 _ rfl).whole)) ?_;refine⟨sK,?_⟩;intro b51;refine⟨sK,?_⟩;refine aL (i:=1) (j:=4) dc rfl hI (L:=[[112,97,114,116,32],P1 nm,[32,100,101,110,115,105,116,121,32],zT dens,[32,123,10]]) rfl rfl sQ (by simp only[w5,y6,d6,d7,d9];omega) λv h hI=>?_;refine⟨sK,?_⟩;obtain⟨T2,hT2⟩ :∃T2,T2=hd0++(p.parts.take k).flatMap oA++([[112,97,114,116,32],P1 nm,[32,100,101,110,115,105,116,121,32],zT dens,[32,123,10]]:List e8).flatten:=⟨_,rfl⟩
  rw[<-hT2] at hI;have hT2l:T2.length=hd0.length+((p.parts.take k).flatMap oA).length+(5+((P1 nm).length+(9+((zT dens).length+3)))):=by rw[hT2];simp only[w5,y6,d6,d7,d9]
  refine u6.mk (Nat×Hp) (λg=>[(1,.bx 2 0),(5,.v (pQ b29)),(38,.v (.slice a1 n1 c1)),(39,.v (iQ n1)),(40,.v (iQ k)),(54,.v (.slice ac nc cc)),(55,.v (iQ nc)),(56,.v (iQ g.1))]) (λg=>[.hp c0,.hp g.2,.box b1 [sv p.nm,.slice a1 n1 c1,.slice a2 n2 c2,.slice a3 n3 c3,.slice a4 n4 c4,.slice a5 n5 c5] 30])
   (λg=>g.1<=nc/\kW g.2 b29 (.slice a3 n3 c3) (T2++(cells.take g.1).flatMap tD)) (λg=>nc - g.1) (0,h) ⟨f8 _,by simpa using hI⟩ (v6.mk (pj [0,1,2]) rfl rfl) ?_
  rintro⟨j,h⟩ ⟨hj,hI⟩;dsimp only at hj hI ⊢;refine d8 (λg3=>?_) λg3=>?_
  ·have hjl:j < cells.length:=om
   obtain⟨c,hc⟩ :∃c,c=cells[j]:=⟨_,rfl⟩
   have hcm:c∈cells:=by rw[hc];exact j0 hjl
   obtain⟨hc16,hcv⟩:=gx.v c hcm;have hcle:=sB (g:=tD) hjl;have hct:=cW (g:=tD) hjl;rw[<-hc] at hcle hct;have hcl2:(tD c).length=6+((c.flatMap tP).length+2):=by unfold tD;simp only[d6,d7,d9]
   refine I1 cQ (e:=86) rfl hcel j rfl hjl λb9 o9 cs hcs hR hcell=>?_;rw[<-hc] at hR;obtain⟨av,nv,cv,rfl,hver⟩:=hR;have hvl:=hver.len;refine T7 cQ (i:=0) rfl hcell rfl ?_;intro b9' b61;refine aL (i:=1) (j:=4) dc rfl hI (L:=[[32,32,99,101,108,108]]) rfl rfl sQ (by simp only[w5,y6,d6,d7,d9];omega) λv h hI=>?_;obtain⟨T3,hT3⟩ :∃T3,T3=T2++(cells.take j).flatMap tD++([[32,32,99,101,108,108]]:List e8).flatten:=⟨_,rfl⟩
   rw[<-hT3] at hI;have hT3l:T3.length=T2.length+((cells.take j).flatMap tD).length+6:=by rw[hT3];simp only[w5,y6,d6,d7,d9]
   refine u6.mk (Nat×Hp) (λg=>[(1,.bx 2 0),(5,.v (pQ b29)),(38,.v (.slice a1 n1 c1)),(39,.v (iQ n1)),(40,.v (iQ k)),(54,.v (.slice ac nc cc)),(55,.v (iQ nc)),(56,.v (iQ j)),(64,.v (.slice av nv cv)),(65,.v (iQ nv)),(66,.v (iQ g.1))]) (λg=>[.hp c0,.hp g.2,.box b1 [sv p.nm,.slice a1 n1 c1,.slice a2 n2 c2,.slice a3 n3 c3,.slice a4 n4 c4,.slice a5 n5 c5] 30])
    (λg=>g.1<=nv/\kW g.2 b29 (.slice a3 n3 c3) (T3++(c.take g.1).flatMap tP)) (λg=>nv - g.1) (0,h) ⟨f8 _,by simpa using hI⟩ (v6.mk (pj [0,1,2]) rfl rfl) ?_
   rintro⟨m,h⟩ ⟨hm,hI⟩;dsimp only at hm hI ⊢;refine d8 (λg4=>?_) λg4=>?_
   ·have hml:m < c.length:=om
    obtain⟨⟨x,y,z⟩,hv⟩ :∃v,v=c[m]:=⟨_,rfl⟩
    obtain⟨v1,v2,v3⟩:=hcv (x,y,z) (by rw[hv];exact j0 hml);dsimp only at v1 v2 v3;have hvle:=sB (g:=tP) hml;have hvt:=cW (g:=tP) hml;rw[<-hv] at hvle hvt;have hvl2:(tP (x,y,z)).length=(dL [x,y,z]).length+1:=by unfold tP;rw[d7]
    refine I1 cQ (e:=122) rfl hver m rfl hml λb9 o9 cs hcs hR hcell=>?_;rw[<-hv] at hR;have hR:cs = [iQ x,iQ y,iQ z]:=hR;subst hR;refine T7 cQ (i:=0) rfl hcell rfl ?_;intro b11 b71;refine aL (i:=1) (j:=4) dc rfl hI (L:=[[32]]) rfl rfl sQ (by simp only[w5,y6,d6,d7,d9];omega) λv h hI=>?_;refine Je cQ rfl rfl (e:=3) rfl ?_;refine Ck (i:=1) (c:=0) (k:=3) (off:=0) (L:=[x,y,z]) rfl hI rfl dc rfl dc (λx hx=>by
     match x,hx with
     | 0,_=>rfl
     | 1,_=>rfl
     | 2,_=>rfl
     | n+3,hx=>exact absurd hx sQ) rfl hT sQ sQ (λz hz=>by
     simp only[A8,Q0,or_false] at hz;rcases hz with rfl | rfl | rfl <;> exact nJ om) (by simp only[w5,y6,d6,d7,d9];omega) λv h hI=>?_
    refine nwo ?_;refine⟨(m+1,h),⟨by dsimp only;omega,?_⟩,by dsimp only;omega,v6.mk (pj [0,1,2]) rfl rfl⟩;dsimp only;have e:T3++(c.take (m+1)).flatMap tP=T3++(c.take m).flatMap tP++([[32]]:List e8).flatten++dL [x,y,z]:=by rw[hvt];unfold tP;simp
    rw[e];exact hI
   ·have hm2:m=c.length:=om
    subst hm2;rw[p9] at hI;intro b78;refine aL (i:=1) (j:=3) dc rfl hI (L:=[[59,10]]) rfl rfl sQ (by simp only[w5,y6,d6,d7,d9];omega) λv h hI=>?_;refine nwo ?_;refine⟨(j+1,h),⟨by dsimp only;omega,?_⟩,by dsimp only;omega,v6.mk (pj [0,1,2]) rfl rfl⟩;dsimp only;have e:T2++(cells.take (j+1)).flatMap tD=T3++c.flatMap tP++([[59,10]]:List e8).flatten:=by rw[hct,hT3];unfold tD;simp
    rw[e];exact hI
  ·have hj2:j=cells.length:=om
   subst hj2;rw[p9] at hI;intro b82;refine aL (i:=1) (j:=3) dc rfl hI (L:=[[125,10]]) rfl rfl sQ (by simp only[w5,y6,d6,d7,d9];omega) λv h hI=>?_;refine nwo ?_;refine⟨(k+1,h),⟨by dsimp only;omega,?_⟩,by dsimp only;omega,v6.mk (pj [0,1,2]) rfl rfl⟩;dsimp only;have e:hd0++(p.parts.take (k+1)).flatMap oA=T2++cells.flatMap tD++([[125,10]]:List e8).flatten:=by rw[hft,hT2];unfold oA;simp
   rw[e];exact hI
 have hk2:k=p.parts.length:=om
 subst hk2;rw[p9] at hI;clear g2 hk;obtain⟨B1,hB1⟩ :∃x,x=hd0++p.parts.flatMap oA:=⟨_,rfl⟩
 rw[<-hB1] at hI;have lB1:B1.length=hd0.length+(p.parts.flatMap oA).length:=by rw[hB1,d6]
 refine u6.mk (Nat×Hp) (λg=>[(1,.bx 2 0),(5,.v (pQ b29)),(87,.v (.slice a2 n2 c2)),(88,.v (iQ n2)),(89,.v (iQ g.1))]) (λg=>[.hp c0,.hp g.2,.box b1 [sv p.nm,.slice a1 n1 c1,.slice a2 n2 c2,.slice a3 n3 c3,.slice a4 n4 c4,.slice a5 n5 c5] 30])
  (λg=>g.1<=n2/\kW g.2 b29 (.slice a3 n3 c3) (B1++(p.insts.take g.1).flatMap oH)) (λg=>n2 - g.1) (0,h) ⟨f8 _,by simpa using hI⟩ (v6.mk (pj [0,1,2]) rfl rfl) ?_
 rintro⟨k,h⟩ ⟨hk,hI⟩;dsimp only at hk hI ⊢;refine d8 (λg2=>?_) λg2=>?_
 ·have hkl:k < p.insts.length:=om
  obtain⟨⟨nm,pn,⟨t1,t2,t3,t4⟩,⟨s1,s2,s3⟩⟩,hx⟩ :∃x,x=p.insts[k]:=⟨_,rfl⟩
  have hxm:(nm,pn,(t1,t2,t3,t4),(s1,s2,s3))∈p.insts:=by rw[hx];exact j0 hkl
  have gx:=bQ g.gi.2 _ hxm;obtain⟨u1,u2,u3,u4⟩:=gx.t;dsimp only at u1 u2 u3 u4;have hpn:H8 pn=true:=by
   obtain⟨y,hy,e⟩:=G6.1 gx.p;have e:y.1=pn:=e;rw[<-e];exact (bQ g.gp.2 y hy).n
  have hfle:=sB (g:=oH) hkl;have hft:=cW (g:=oH) hkl;rw[<-hx] at hfle hft;have hxl:(oH (nm,pn,(t1,t2,t3,t4),(s1,s2,s3))).length=9+((P1 nm).length+(4+((P1 pn).length+(6+((dL [t1,t2,t3,t4]).length+(8+(s1.length+(2+(s2.length+(2+(s3.length+3))))))))))):=by unfold oH;simp only[d6,d7,d9]
  refine I1 cQ (e:=93) rfl h2 k rfl hkl λb9 o9 cs hcs hR hcell=>?_;rw[<-hx] at hR;have hR:cs = [sv nm,sv pn,iQ t1,iQ t2,iQ t3,iQ t4,sv s1,sv s2,sv s3]:=hR;subst hR;refine T7 cQ (i:=0) rfl hcell rfl ?_;intro b13;obtain⟨T2,hT2⟩ :∃T2,T2=B1++(p.insts.take k).flatMap oH++([[105,110,115,116,97,110,99,101,32],P1 nm,[32,111,102,32],P1 pn,[32,116,117,114,110,32]]:List e8).flatten:=⟨_,rfl⟩
  have hT2l:T2.length=B1.length+((p.insts.take k).flatMap oH).length+(9+((P1 nm).length+(4+((P1 pn).length+6)))):=by rw[hT2];simp only[w5,y6,d6,d7,d9]
  refine s6.cut Hp (λ_=>[(1,.bx 2 0),(5,.v (pQ b29)),(13,.bx 3 0),(87,.v (.slice a2 n2 c2)),(88,.v (iQ n2)),(89,.v (iQ k))]) (λg=>[.hp c0,.hp g,.box b1 [sv p.nm,.slice a1 n1 c1,.slice a2 n2 c2,.slice a3 n3 c3,.slice a4 n4 c4,.slice a5 n5 c5] 30,.box b13 [sv nm,sv pn,iQ t1,iQ t2,iQ t3,iQ t4,sv s1,sv s2,sv s3] 93])
   (λg=>kW g b29 (.slice a3 n3 c3) T2) (s6.by_order0 cQ (.take 0 <| .take 1 <| .take 2 <| .take 4 <| .take 5 <| .run 3 <| .run 6 <| .run 7 <| .run 8 <| .done) kr (K9 _ 1) ?_) ?_
  ·refine k7 _ (λw' hm=>Z0 nm (by have:=(aY gx.n).2.1;dsimp only at this;omega) w') ?_;refine⟨sK,?_⟩;refine k7 _ (λw' hm=>Z0 pn (by have:=(aY hpn).2.1;omega) w') ?_;refine⟨sK,?_⟩;intro b100;refine⟨sK,?_⟩;refine aL (i:=1) (j:=4) dc rfl hI (L:=[[105,110,115,116,97,110,99,101,32],P1 nm,[32,111,102,32],P1 pn,[32,116,117,114,110,32]]) rfl rfl sQ (by simp only[w5,y6,d6,d7,d9];omega) λv h hI=>?_;refine⟨sK,?_⟩;exact⟨h,by rw[hT2];exact hI,v6.mk (pj [0,1,2,3]) rfl rfl⟩
  intro h hI _;have hcs4 :∀x (hx:x < [t1,t2,t3,t4].length),([sv nm,sv pn,iQ t1,iQ t2,iQ t3,iQ t4,sv s1,sv s2,sv s3]:List Value)[2+x]?=some (.int .i64 [t1,t2,t3,t4][x]):=λx hx=>by
   match x,hx with
   | 0,_=>rfl
   | 1,_=>rfl
   | 2,_=>rfl
   | 3,_=>rfl
   | n+4,hx=>exact absurd hx sQ
  have hz4 :∀z∈[t1,t2,t3,t4],LV z:=λz hz=>by
   simp only[A8,Q0,or_false] at hz;rcases hz with rfl | rfl | rfl | rfl <;> exact nJ om
  have hl4':T2.length+(dL [t1,t2,t3,t4]).length < 1000000:=om
  refine o7 λq' hq'=>?_;refine Je cQ rfl rfl (e:=3) rfl ?_;refine Ck (i:=1) (c:=0) (k:=3) (off:=2) (m:=4) (L:=[t1,t2,t3,t4]) rfl hI rfl dc rfl dc hcs4 rfl hT sQ sQ hz4 hl4' λv h hI=>?_;apply hq';refine o7 λq' hq'=>?_;intro b14;apply hq';refine o7 λq' hq'=>?_;intro b117;refine aL (i:=1) (j:=5) dc rfl hI (L:=[[32,115,104,105,102,116,32,40],s1,[44,32],s2,[44,32],s3,[41,59,10]]) rfl rfl sQ (by simp only[w5,y6,d6,d7,d9];omega) λv h hI=>?_;apply hq';refine nwo ?_;refine⟨(k+1,h),⟨by dsimp only;omega,?_⟩,by dsimp only;omega,v6.mk (pj [0,1,2]) rfl rfl⟩;dsimp only;have e:B1++(p.insts.take (k+1)).flatMap oH=T2++dL [t1,t2,t3,t4]++([[32,115,104,105,102,116,32,40],s1,[44,32],s2,[44,32],s3,[41,59,10]]:List e8).flatten:=by rw[hft,hT2];unfold oH;simp
  rw[e];exact hI
 have hk2:k=p.insts.length:=om
 subst hk2;rw[p9] at hI;clear g2 hk;obtain⟨B2,hB2⟩ :∃x,x=B1++p.insts.flatMap oH:=⟨_,rfl⟩
 rw[<-hB2] at hI;have lB2:B2.length=B1.length+(p.insts.flatMap oH).length:=by rw[hB2,d6]
 refine u6.mk (Nat×Hp) (λg=>[(1,.bx 2 0),(5,.v (pQ b29)),(121,.v (.slice a3 n3 c3)),(122,.v (iQ n3)),(123,.v (iQ g.1))]) (λg=>[.hp c0,.hp g.2,.box b1 [sv p.nm,.slice a1 n1 c1,.slice a2 n2 c2,.slice a3 n3 c3,.slice a4 n4 c4,.slice a5 n5 c5] 30])
  (λg=>g.1<=n3/\kW g.2 b29 (.slice a3 n3 c3) (B2++(p.dims.take g.1).flatMap sW)) (λg=>n3 - g.1) (0,h) ⟨f8 _,by simpa using hI⟩ (v6.mk (pj [0,1,2]) rfl rfl) ?_
 rintro⟨k,h⟩ ⟨hk,hI⟩;dsimp only at hk hI ⊢;refine d8 (λg2=>?_) λg2=>?_
 ·have hkl:k < p.dims.length:=om
  obtain⟨⟨nm,z1,z2,z3⟩,hx⟩ :∃x,x=p.dims[k]:=⟨_,rfl⟩
  have hxm:(nm,z1,z2,z3)∈p.dims:=by rw[hx];exact j0 hkl
  have gx:=bQ g.gd.2 _ hxm;obtain⟨u1,u2,u3⟩:=gx.r;dsimp only at u1 u2 u3;have hfle:=sB (g:=sW) hkl;have hft:=cW (g:=sW) hkl;rw[<-hx] at hfle hft;have hxl:(sW (nm,z1,z2,z3)).length=10+((P1 nm).length+(3+((zT z1).length+(2+((zT z2).length+(2+((zT z3).length+3))))))):=by unfold sW;simp only[d6,d7,d9]
  refine I1 cQ (e:=48) rfl h3 k rfl hkl λb9 o9 cs hcs hR hcell=>?_;rw[<-hx] at hR;have hR:cs = [sv nm,iQ z1,iQ z2,iQ z3]:=hR;subst hR;refine T7 cQ (i:=0) rfl hcell rfl ?_;intro b16;refine s6.by_order0 cQ (.take 0 <| .take 1 <| .take 2 <| .take 4 <| .take 5 <| .take 7 <| .take 8 <| .take 10 <| .take 11 <| .run 3 <| .run 6 <| .run 9 <| .run 12 <| .run 13 <| .run 14 <| .done) kr (K9 _ 1) ?_;refine k7 _ (λw' hm=>Z0 nm (by have:=(aY gx.n).2.1;dsimp only at this;omega) w') ?_;refine⟨sK,?_⟩;refine k7 _ (λw' hm=>fU z1 (nJ om) w' (hT.mono (hm 0 _ rfl).whole)) ?_;refine⟨sK,?_⟩;refine k7 _ (λw' hm=>fU z2 (nJ om) w' (hT.mono (hm 0 _ rfl).whole)) ?_;refine⟨sK,?_⟩;refine k7 _ (λw' hm=>fU z3 (nJ om) w' (hT.mono (hm 0 _ rfl).whole)) ?_;refine⟨sK,?_⟩;intro b140;refine⟨sK,?_⟩;refine aL (i:=1) (j:=4) dc rfl hI (L:=[[100,105,109,101,110,115,105,111,110,32],P1 nm,[32,61,32],zT z1,[32,91],zT z2,[44,32],zT z3,[93,59,10]]) rfl rfl sQ (by simp only[w5,y6,d6,d7,d9];omega) λv h hI=>?_;refine⟨sK,?_⟩;refine nwo ?_;refine⟨(k+1,h),⟨by dsimp only;omega,?_⟩,by dsimp only;omega,v6.mk (pj [0,1,2]) rfl rfl⟩;dsimp only;have e:B2++(p.dims.take (k+1)).flatMap sW=B2++(p.dims.take k).flatMap sW++([[100,105,109,101,110,115,105,111,110,32],P1 nm,[32,61,32],zT z1,[32,91],zT z2,[44,32],zT z3,[93,59,10]]:List e8).flatten:=by rw[hft];unfold sW;simp
  rw[e];exact hI
 have hk2:k=p.dims.length:=om
 subst hk2;rw[p9] at hI;clear g2 hk;obtain⟨B3,hB3⟩ :∃x,x=B2++p.dims.flatMap sW:=⟨_,rfl⟩
 rw[<-hB3] at hI;have lB3:B3.length=B2.length+(p.dims.flatMap sW).length:=by rw[hB3,d6]
 have hcon:=bQ (Q:=λx:kY=>H8 x.1=true/\wR p.dims.length x.2) g.gc.2;refine u6.mk (Nat×Hp) (λg=>[(1,.bx 2 0),(5,.v (pQ b29)),(144,.v (.slice a4 n4 c4)),(145,.v (iQ n4)),(146,.v (iQ g.1))]) (λg=>[.hp c0,.hp g.2,.box b1 [sv p.nm,.slice a1 n1 c1,.slice a2 n2 c2,.slice a3 n3 c3,.slice a4 n4 c4,.slice a5 n5 c5] 30])
  (λg=>g.1<=n4/\kW g.2 b29 (.slice a3 n3 c3) (B3++(p.cons.take g.1).flatMap (sZ p.dims))) (λg=>n4 - g.1) (0,h) ⟨f8 _,by simpa using hI⟩ (v6.mk (pj [0,1,2]) rfl rfl) ?_
 rintro⟨k,h⟩ ⟨hk,hI⟩;dsimp only at hk hI ⊢;refine d8 (λg2=>?_) λg2=>?_
 ·have hkl:k < p.cons.length:=om
  obtain⟨⟨nm,f⟩,hx⟩ :∃x,x=p.cons[k]:=⟨_,rfl⟩
  have hxm:(nm,f)∈p.cons:=by rw[hx];exact j0 hkl
  obtain⟨gx,gf⟩:=hcon _ hxm;dsimp only at gx gf;have hfle:=sB (g:=sZ p.dims) hkl;have hft:=cW (g:=sZ p.dims) hkl;rw[<-hx] at hfle hft;have hxl:(sZ p.dims (nm,f)).length=11+((P1 nm).length+(2+((bZ (D6 p.dims) f).length+7))):=by unfold sZ;simp only[d6,d7,d9]
  refine I1 cQ (e:=96) rfl h4 k rfl hkl λb9 o9 cs hcs hR hcell=>?_;rw[<-hx] at hR;obtain⟨af,nf,cf,rfl,hfs⟩:=hR;dsimp only at hfs;refine T7 cQ (i:=0) rfl hcell rfl ?_;intro b18;refine o7 λq' hq'=>?_;apply hq';refine o7 λq' hq'=>?_;refine k7 _ (λw' hm=>Z0 nm (by have:=(aY gx).2.1;omega) w') ?_;intro b154;refine aL (i:=1) (j:=4) dc rfl hI (L:=[[99,111,110,115,116,114,97,105,110,116,32],P1 nm,[58,32]]) rfl rfl sQ (by simp only[w5,y6,d6,d7,d9];omega) λv h hI=>?_;apply hq';refine o7 λq' hq'=>?_;refine Ia (i:=1) (c:=0) (D:=p.dims) (f:=f) rfl hI rfl dc hfs h3 (by have:=gf.l;omega) hdn (λt ht=>(gf.all t ht).1) (by simp only[w5,y6,d6,d7,d9];omega) λv h hI=>?_;apply hq';refine o7 λq' hq'=>?_;intro b161;refine aL (i:=1) (j:=5) dc rfl hI (L:=[[32,60,61,32,48,59,10]]) rfl rfl sQ (by simp only[w5,y6,d6,d7,d9];omega) λv h hI=>?_;apply hq';refine nwo ?_;refine⟨(k+1,h),⟨by dsimp only;omega,?_⟩,by dsimp only;omega,v6.mk (pj [0,1,2]) rfl rfl⟩;dsimp only;have e:B3++(p.cons.take (k+1)).flatMap (sZ p.dims)=B3++(p.cons.take k).flatMap (sZ p.dims)++([[99,111,110,115,116,114,97,105,110,116,32],P1 nm,[58,32]]:List e8).flatten++bZ (D6 p.dims) f++([[32,60,61,32,48,59,10]]:List e8).flatten:=by rw[hft];unfold sZ;simp
  rw[e];exact hI
 have hk2:k=p.cons.length:=om
 subst hk2;rw[p9] at hI;clear g2 hk;obtain⟨B4,hB4⟩ :∃x,x=B3++p.cons.flatMap (sZ p.dims):=⟨_,rfl⟩
 rw[<-hB4] at hI;have lB4:B4.length=B3.length+(p.cons.flatMap (sZ p.dims)).length:=by rw[hB4,d6]
 refine u6.mk (Nat×Hp) (λg=>[(1,.bx 2 0),(5,.v (pQ b29)),(165,.v (.slice a5 n5 c5)),(166,.v (iQ n5)),(167,.v (iQ g.1))]) (λg=>[.hp c0,.hp g.2,.box b1 [sv p.nm,.slice a1 n1 c1,.slice a2 n2 c2,.slice a3 n3 c3,.slice a4 n4 c4,.slice a5 n5 c5] 30])
  (λg=>g.1<=n5/\kW g.2 b29 (.slice a3 n3 c3) (B4++(p.reqs.take g.1).flatMap (lW p.dims))) (λg=>n5 - g.1) (0,h) ⟨f8 _,by simpa using hI⟩ (v6.mk (pj [0,1,2]) rfl rfl) ?_
 rintro⟨k,h⟩ ⟨hk,hI⟩;dsimp only at hk hI ⊢;refine d8 (λg2=>?_) λg2=>?_
 ·have hkl:k < p.reqs.length:=om
  obtain⟨⟨nm,x,lo,hi⟩,hx⟩ :∃x,x=p.reqs[k]:=⟨_,rfl⟩
  have hxm:(nm,x,lo,hi)∈p.reqs:=by rw[hx];exact j0 hkl
  have gx:=bQ g.gr.2 _ hxm;have hsx:=hs.sr _ hxm;have hfle:=sB (g:=lW p.dims) hkl;have hft:=cW (g:=lW p.dims) hkl;rw[<-hx] at hfle hft;obtain⟨LO,hLO⟩ :∃y,y=(if lo = [] then ([]:e8) else [32,102,114,111,109,32]++lo):=⟨_,rfl⟩
  obtain⟨HI,hHI⟩ :∃y,y=(if hi = [] then ([]:e8) else [32,116,111,32]++hi):=⟨_,rfl⟩
  have hrt:lW p.dims (nm,x,lo,hi) = [114,101,113,117,105,114,101,32]++(P1 nm++([58,32]++(E7 (D6 p.dims) 8 x++(LO++(HI++[59,10]))))):=by rw[hLO,hHI];rfl
  have hxl:(lW p.dims (nm,x,lo,hi)).length=8+((P1 nm).length+(2+((E7 (D6 p.dims) 8 x).length+(LO.length+(HI.length+2))))):=by rw[hrt];simp only[d6,d7,d9]
  have hex:XY p.dims.length 8 x:=xC 8 0 _ gx.g;refine I1 cQ (e:=74) rfl h5 k rfl hkl λb9 o9 cs hcs hR hcell=>?_;rw[<-hx] at hR;obtain⟨xs,rfl,hxs⟩:=hR;dsimp only at hxs hcell;match d,hxs with
  | d+1,hxs=>
  obtain⟨op,f,fac,args⟩:=x;have hxs':=hxs;obtain⟨ax,nx,cx,ay,ny,cy,rfl,hf,ha⟩:=hxs;refine T7 cQ (i:=0) rfl hcell rfl ?_;intro b20;refine o7 λq' hq'=>?_;apply hq';refine o7 λq' hq'=>?_;refine k7 _ (λw' hm=>Z0 nm (by have:=(aY gx.nm).2.1;dsimp only at this;omega) w') ?_;intro b175;refine aL (i:=1) (j:=4) dc rfl hI (L:=[[114,101,113,117,105,114,101,32],P1 nm,[58,32]]) rfl rfl sQ (by simp only[w5,y6,d6,d7,d9];omega) λv h hI=>?_;apply hq';refine o7 λq' hq'=>?_;refine Ic (i:=1) (c:=0) (D:=p.dims) (d:=8) (e:=d+1) rfl hI rfl dc hxs' h3 hex hsx.ex hdn (by simp only[w5,y6,d6,d7,d9];omega) λv h hI=>?_;apply hq';obtain⟨T2,hT2⟩ :∃T2,T2=B4++(p.reqs.take k).flatMap (lW p.dims)++([[114,101,113,117,105,114,101,32],P1 nm,[58,32]]:List e8).flatten++E7 (D6 p.dims) 8 (.mk op f fac args):=⟨_,rfl⟩
  rw[<-hT2] at hI;have hT2l:T2.length=B4.length+((p.reqs.take k).flatMap (lW p.dims)).length+(8+((P1 nm).length+2))+(E7 (D6 p.dims) 8 (.mk op f fac args)).length:=by rw[hT2];simp only[w5,y6,d6,d7,d9]
  refine cG (b:=[]) ?_;refine s8 (λg4=>?_) λg4=>?_
  ·have g4 : ¬ lo = []:=EP g4;have hLl:LO.length=6+lo.length:=by rw[hLO,if_neg g4];simp only[d6,d7,d9]
   refine o7 λq' hq'=>?_;intro b187;refine aL (i:=1) (j:=5) dc rfl hI (L:=[[32,102,114,111,109,32],lo]) rfl rfl sQ (by simp only[w5,y6,d6,d7,d9];omega) λv h hI=>?_;apply hq';refine cG (b:=[]) ?_;refine s8 (λg5=>?_) λg5=>?_
   ·have g5 : ¬ hi = []:=EP g5;have hHl:HI.length=4+hi.length:=by rw[hHI,if_neg g5];simp only[d6,d7,d9]
    refine o7 λq' hq'=>?_;intro b195;refine aL (i:=1) (j:=6) dc rfl hI (L:=[[32,116,111,32],hi]) rfl rfl sQ (by simp only[w5,y6,d6,d7,d9];omega) λv h hI=>?_;apply hq';refine o7 λq' hq'=>?_;intro b198;refine aL (i:=1) (j:=7) dc rfl hI (L:=[[59,10]]) rfl rfl sQ (by simp only[w5,y6,d6,d7,d9];omega) λv h hI=>?_;apply hq';refine nwo ?_;refine⟨(k+1,h),⟨by dsimp only;omega,?_⟩,by dsimp only;omega,v6.mk (pj [0,1,2]) rfl rfl⟩;dsimp only;have e:B4++(p.reqs.take (k+1)).flatMap (lW p.dims)=T2++([[32,102,114,111,109,32],lo]:List e8).flatten++([[32,116,111,32],hi]:List e8).flatten++([[59,10]]:List e8).flatten:=by rw[hft,hrt,hT2,hLO,hHI,if_neg g4,if_neg g5];simp
    rw[e];exact hI
   ·have g5:hi = []:=EX g5;have hHl:HI.length=0:=by rw[hHI,if_pos g5];rfl
    refine o7 λq' hq'=>?_;intro b198;refine aL (i:=1) (j:=6) dc rfl hI (L:=[[59,10]]) rfl rfl sQ (by simp only[w5,y6,d6,d7,d9];omega) λv h hI=>?_;apply hq';refine nwo ?_;refine⟨(k+1,h),⟨by dsimp only;omega,?_⟩,by dsimp only;omega,v6.mk (pj [0,1,2]) rfl rfl⟩;dsimp only;have e:B4++(p.reqs.take (k+1)).flatMap (lW p.dims)=T2++([[32,102,114,111,109,32],lo]:List e8).flatten++([[59,10]]:List e8).flatten:=by rw[hft,hrt,hT2,hLO,hHI,if_neg g4,if_pos g5];simp
    rw[e];exact hI
  ·have g4:lo = []:=EX g4;have hLl:LO.length=0:=by rw[hLO,if_pos g4];rfl
   refine cG (b:=[]) ?_;refine s8 (λg5=>?_) λg5=>?_
   ·have g5 : ¬ hi = []:=EP g5;have hHl:HI.length=4+hi.length:=by rw[hHI,if_neg g5];simp only[d6,d7,d9]
    refine o7 λq' hq'=>?_;intro b195;refine aL (i:=1) (j:=5) dc rfl hI (L:=[[32,116,111,32],hi]) rfl rfl sQ (by simp only[w5,y6,d6,d7,d9];omega) λv h hI=>?_;apply hq';refine o7 λq' hq'=>?_;intro b198;refine aL (i:=1) (j:=6) dc rfl hI (L:=[[59,10]]) rfl rfl sQ (by simp only[w5,y6,d6,d7,d9];omega) λv h hI=>?_;apply hq';refine nwo ?_;refine⟨(k+1,h),⟨by dsimp only;omega,?_⟩,by dsimp only;omega,v6.mk (pj [0,1,2]) rfl rfl⟩;dsimp only;have e:B4++(p.reqs.take (k+1)).flatMap (lW p.dims)=T2++([[32,116,111,32],hi]:List e8).flatten++([[59,10]]:List e8).flatten:=by rw[hft,hrt,hT2,hLO,hHI,if_pos g4,if_neg g5];simp
    rw[e];exact hI
   ·have g5:hi = []:=EX g5;have hHl:HI.length=0:=by rw[hHI,if_pos g5];rfl
    refine o7 λq' hq'=>?_;intro b198;refine aL (i:=1) (j:=5) dc rfl hI (L:=[[59,10]]) rfl rfl sQ (by simp only[w5,y6,d6,d7,d9];omega) λv h hI=>?_;apply hq';refine nwo ?_;refine⟨(k+1,h),⟨by dsimp only;omega,?_⟩,by dsimp only;omega,v6.mk (pj [0,1,2]) rfl rfl⟩;dsimp only;have e:B4++(p.reqs.take (k+1)).flatMap (lW p.dims)=T2++([[59,10]]:List e8).flatten:=by rw[hft,hrt,hT2,hLO,hHI,if_pos g4,if_pos g5];simp
    rw[e];exact hI
 have hk2:k=p.reqs.length:=om
 subst hk2;rw[p9] at hI;clear g2 hk;obtain⟨B5,hB5⟩ :∃x,x=B4++p.reqs.flatMap (lW p.dims):=⟨_,rfl⟩
 rw[<-hB5] at hI;have lB5:B5.length=B4.length+(p.reqs.flatMap (lW p.dims)).length:=by rw[hB5,d6]
 have hB5:B5=QH p:=by rw[hB5,hB4,hB3,hB2,hB1,hpe];simp
 rw[hB5] at hI;refine l6 (i:=1) rfl (λw0 w1 hok=>vE w1 (hok.mem 1 _ rfl) hI (by rw[hpe,hhd];simp)) ?_;rintro _ h2 _ ⟨rfl,rfl,_⟩;refine⟨[],⟨?_,rfl⟩,pk [0]⟩;unfold xR;split <;> rfl
end Go.Proofs.YtpjhmeicbjkcdaaGreatDoor
namespace Go.Proofs.YtpjhmeicbjkcdaaGreatDoor
open Go
def Ht:e8:=[112,114,111,100,117,99,116,32,112,59,32,100,105,109,101,110,115,105,111,110,32,97,32,61,32,49,48,32,91,49,44,32,45,49,93,59]
def Gd:e8:=[112,114,111,100,117,99,116,10,34,112,34,59,32,35,32,97,32,112,114,111,100,117,99,116,10,100,105,109,101,110,115,105,111,110,32,49,97,32,61,32,49,32,91,48,44,32,48,93,59]
def Kf:Ex:=.mk 4 ([],[]) [] [.mk 0 ([48],[(0,[49])]) [] [],.mk 0 ([53],[]) [] []]
theorem Ew:((yN Ht).1.ln,(yN Ht).1.co,(yN Ht).1.e)=(1,36,8):=by decide +kernel
theorem Ev:(yN Gd).1.e=14:=by decide +kernel
theorem Eu:ZV ⟨[112],[],[],[],[],[]⟩=([112,114,111,100,117,99,116,32,112,59,10],0):=by decide +kernel
theorem Et:UN [([97],0,0,0)] Kf=([109,97,120,40,91,48,32,43,32,49,32,42,32,97,93,44,32,91,53,93,41],0):=by decide +kernel
end Go.Proofs.YtpjhmeicbjkcdaaGreatDoor
namespace Go.Proofs.YtpjhmeicbjkcdaaGreatDoor
open Go
theorem sF {d:Nat} {r:RS} {k:Nat} (h:(expS d r k).e=0):d≠0/\k < 64/\expS d r k=r/\r.e=0/\(uA (C7 r)=true\/aA r [91]=true):=by
 unfold expS at h ⊢;by_cases h1:uA (C7 r)=false/\aA r [91]=false
 ·rw[if_pos h1] at h;exact absurd h (bK r dc)
 ·rw[if_neg h1] at h ⊢;by_cases h2:d=0
  ·rw[if_pos h2] at h;exact absurd h (bK r dc)
  ·rw[if_neg h2] at h ⊢;unfold J2 at h ⊢;by_cases h3:64<=k
   ·rw[if_pos h3] at h;exact absurd h (bK r dc)
   ·rw[if_neg h3] at h ⊢;refine⟨h2,om,rfl,h,?_⟩;cases a:uA (C7 r) with
    | true=>exact .inl rfl
    | false=>
     cases b:aA r [91] with
     | true=>exact .inr rfl
     | false=>exact absurd ⟨a,b⟩ h1
theorem XP {g:RS->Nat->RS×Nat×Ex} (hg :∀r k,k<=64->k+1<=(g r k).2.1/\(g r k).2.1<=65/\((g r k).1.e=0->(g r k).2.1<=64)) :
  ∀f r k out,k<=65->(r.e=0->k<=64)->k<=(dR g f r k out).2.1/\(dR g f r k out).2.1<=65/\((dR g f r k out).1.e=0->(dR g f r k out).2.1<=64)
 | 0,_,k,_,h1,h2=>⟨k8 k,h1,h2⟩
 | f+1,r,k,out,h1,h2=>by
  unfold dR;split
  ·rename_i h
   obtain⟨a,b,c⟩:=hg (E5 r) k (h2 (S2 h).1);obtain⟨a',b',c'⟩:=XP hg f (g (E5 r) k).1 (g (E5 r) k).2.1 (out++[(g (E5 r) k).2.2]) b c;exact⟨om,b',c'⟩
  ·exact⟨k8 k,h1,h2⟩
theorem uG (names:List e8) :∀d r k,k<=64->k+1<=(R4 names d r k).2.1/\(R4 names d r k).2.1<=65/\((R4 names d r k).1.e=0->(R4 names d r k).2.1<=64)
 | 0,r,k,hk=>⟨k8 _,Nat.succ_le_succ hk,λh=>absurd rfl (sF h).1⟩
 | d+1,r,k,hk=>by
  unfold R4;by_cases h1:(expS (d+1) r k).e≠0
  ·rw[if_pos h1];exact⟨k8 _,Nat.succ_le_succ hk,λh=>absurd h h1⟩
  ·rw[if_neg h1];obtain⟨_,h64,_,_,_⟩:=sF (l9.1 h1);split
   ·exact⟨k8 _,by dsimp only;omega,λ_=>by dsimp only;omega⟩
   ·dsimp only;generalize (if (KW (C7 r).2.1).getD 0=2 then R6 (E5 r) else (E5 r,[]))=p;obtain⟨a1,a2,a3⟩:=uG names d (x8 p.1 [40]) (k+1) om;generalize R4 names d (x8 p.1 [40]) (k+1)=a at a1 a2 a3;split
    ·obtain⟨b1,b2,b3⟩:=XP (uG names d) (J5 a.1) a.1 a.2.1 [a.2.2] a2 a3;exact⟨om,b2,λh=>b3 ((A7.exp _ _).ok h)⟩
    ·exact⟨by dsimp only;omega,a2,λh=>a3 ((A7.exp _ _).ok h)⟩
theorem XQ (names:List e8) (d:Nat) {r:RS} (he:r.e=0->cP r.ts) (h:aA r [44]=true) (k:Nat):J5 (R4 names d (E5 r) k).1 < J5 r:=by
 obtain⟨h0,h5,_⟩:=S2 h;exact s7 (A7.expr names d _ _).rem (EO he h0 om)
theorem nN (names:List e8) (d:Nat) {r:RS} {k:Nat} (h:(expS d r k).e≠0):R4 names d r k=(expS d r k,k+1,Kp):=by
 cases d with
 | zero=>rfl
 | succ d=>unfold R4;rw[if_pos h]
theorem zR (names:List e8) (d:Nat) {r:RS} {k:Nat} (h:(expS (d+1) r k).e=0) (ho:uA (C7 r)=false):R4 names (d+1) r k=((sA names r).1,k+1,.mk 0 (sA names r).2 [] []):=by
 unfold R4;rw[if_neg (λc=>c h),if_pos ho]
end Go.Proofs.YtpjhmeicbjkcdaaGreatDoor
namespace Go.Proofs.YtpjhmeicbjkcdaaGreatDoor
open Go Go.RowKit Go.Dw
theorem HZ (t:e8):kL (bs t) (lE.map Hq)=(KW t).map λz=>Value.int .i64 z:=by
 have e :∀z:Int,(bs (jP z)=bs t)=(t=jP z):=λz=>propext (MJ.trans eq_comm);show kL (bs t) [(bs (jP 1),iQ 1),(bs (jP 2),iQ 2),(bs (jP 3),iQ 3),(bs (jP 4),iQ 4),(bs (jP 5),iQ 5)]=_
 simp only[kL,e];unfold KW;have o1:jP 1 = [97,100,100]:=dc
 have o2:jP 2 = [115,99,97,108,101]:=dc
 have o3:jP 3 = [109,105,110]:=dc
 have o4:jP 4 = [109,97,120]:=dc
 have o5:jP 5 = [97,98,115]:=dc
 rw[o1,o2,o3,o4,o5];split
 ·rfl
 ·split
  ·rfl
  ·split
   ·rfl
   ·split
    ·rfl
    ·split <;> rfl
theorem RM (t:e8):(kL (bs t) (lE.map Hq)).getD (iQ 0)=iQ ((KW t).getD 0):=by
 rw[HZ];cases KW t <;> rfl
theorem RL (t:e8):(kL (bs t) (lE.map Hq)).isSome=(KW t).isSome:=by
 rw[HZ];cases KW t <;> rfl
end Go.Proofs.YtpjhmeicbjkcdaaGreatDoor
namespace Go.Dw
open Go Go.RowKit
theorem Ct {X:R5} {s:List Ch} {α:Type} {R:uU α} (hX:X.Good) {T e ty:Nat} {te:TI} (hT:bM X T=some (e,te)) {H:Hp} {j b e':Nat} (x:α) (cs:List Value) (hj:m8 s j=some (.box b cs e')) (hf:cs.length=te.size) (h1:aB cs=true)
  (hby:R0 te.bytes 140=true) {q:TV->List Ch->Prop} (hx:FF s->R H x cs)
  (hq :∀o',FF s->aT R e te.size H o' [x]->q (.v o'.v) (s++[.hp o'.h])) :
  tH X.P s #[T,T] ty zl (.bs j 1) q:=by
 by_cases hs:FF s
 ·have hset :∀c:Ch,x9 (s++[.hp Hp.emp]) s.length c=s++[c]:=λc=>by rw[S9];simp
  obtain⟨yv,hy,h2⟩:=oL (R:=R) (s:=s++[.hp Hp.emp]) (ty:=ty) hX hT (i:=s.length) (o:=Os.nil) (eQ s _) (H:=H) (L:=[]) (λ_=>aT.nil) x cs (nB hj) hf h1 hby (by show 0 < 1000000000000;decide) (q:=q) (λ_=>hx hs) (λo' _ hg=>by rw[hset];exact hq o' hs hg);refine⟨yv,?_,h2.emp⟩;simp only[TV.val,nB hj] at hy;simp only[TV.val,hj];exact hy
 ·exact⟨.slice (some ⟨b,0,none⟩) 1 1,by simp[TV.val,hj],⟨λw0 w hok=>absurd ⟨w0,w,hok⟩ hs⟩⟩
end Go.Dw
namespace Go.Proofs.YtpjhmeicbjkcdaaGreatDoor
open Go Go.RowKit Go.Dw
abbrev J1 (b kk:Nat) (ad:Option Addr) (nd cd:Nat):List Value:=[pQ b,.slice ad nd cd,iQ kk]
abbrev KJ (rb b kk:Nat) (ad:Option Addr) (nd cd:Nat):Ch:=.box rb (J1 b kk ad nd cd) 155
def Lw (D:List S1) (d:Nat):Prop:=∀(k h:Hp) (rb b:Nat) (r:RS) (kk:Nat) (ad:Option Addr) (nd cd:Nat) (lv:Int) (w:World),lv=9 - d->((KJ rb b kk ad nd cd).h.join h).In w->(KJ rb b kk ad nd cd).h.dj h->k.le ((Hp.whole w).minus ((KJ rb b kk ad nd cd).h.join h))->G9 k h b r->Sl (B0 O1) 4 ((Hp.whole w).minus ((KJ rb b kk ad nd cd).h.join h)) ad nd cd D->kk<=64->
 j6 Tryz.prog 174 #[pQ rb,iQ lv] w (O6 w ((KJ rb b kk ad nd cd).h.join h) λv h' cs=>∃ys H,cs = [.box rb ys 155,.hp H]/\((∃xs,v=.agg xs.toArray/\xs.length=5/\P5 (d+1) H (R4 (D.map λx:S1=>x.1) d r kk).2.2 xs)/\ys=J1 b (R4 (D.map λx:S1=>x.1) d r kk).2.1 ad nd cd/\G9 k h' b (R4 (D.map λx:S1=>x.1) d r kk).1))
set_option maxHeartbeats 4000000 in
set_option maxRecDepth 10000 in
theorem vV {D:List S1} (hDn:D.length < 1000000) (d:Nat) (hd9:d<=9) (ih :∀d',d=d'+1->Lw D d'):Lw D d:=by
 intro k h rb b r kk ad nd cd lv w hlv hin hdj hk hR hD hkk;have ok0:=Ok.startB hin hdj;refine enterMSZ (cx 126) [pQ rb,iQ lv] ok0 [.cell 4 44] Tryz.func174 ?_;obtain⟨c0,hc0⟩ :∃c0,c0=(Hp.whole w).minus ((KJ rb b kk ad nd cd).h.join h):=⟨_,rfl⟩
 rw[<-hc0] at hk hD ⊢;obtain⟨names,hnames⟩ :∃l,l=D.map λx:S1=>x.1:=⟨_,rfl⟩
 rw[<-hnames];intro b4;refine o7 λq' hq'=>?_;apply hq';refine nQ [.hp c0,.hp h,KJ rb b kk ad nd cd,.box b4 [iQ 0,zs,zl,zs,zl] 44] λq' hq'=>?_;refine lR 2 0 ?_;refine k7 _ (λw' hm=>S7 w' (hm 1 _ rfl) (hk.trans (hm 0 _ rfl).whole) hR) ?_;obtain⟨⟨K,T,ln,co⟩,hP⟩ :∃p,p=C7 r:=⟨_,rfl⟩
 rw[<-hP];intro b5;apply hq';refine s6.cut Unit (λ_=>[(0,.v (pQ rb)),(1,.v (iQ lv)),(4,.bx 3 0),(5,.bx 4 0),(6,.v (iQ ((KW T).getD 0))),(7,.v (.bool (KW T).isSome))]) (λ_=>[.hp c0,.hp h,KJ rb b kk ad nd cd,.box b4 [iQ 0,zs,zl,zs,zl] 44,.box b5 [iQ K,sv T,iQ ln,iQ co] 211]) (λ_=>True) (s6.by_order0 cQ (.take 1 <| .take 2 <| .run 0 <| .run 3 <| .take 4 <| .take 5 <| .take 6 <| .take 7 <| .take 8 <| .done) kr (eM _) ?_) ?_
 ·refine call (λw' hm=>xJ w') ?_;rintro _ _ ⟨bw,hw,rfl,rfl,hM⟩;refine⟨sK,?_⟩;refine Es (i:=5) Tryz.underlying203 Tryz.underlying9 (z:=iQ 0) (λw=>by rfl) rfl hM (bs T) ?_;rw[RM,RL];first | exact⟨sK,(),trivial,v6.mk (pj [0,1,2,3,4]) rfl rfl⟩ | exact⟨(),trivial,v6.mk (pj [0,1,2,3,4]) rfl rfl⟩
 intro _ _ _;dsimp only;refine nQ [.hp c0,.hp h,.box rb (J1 b (kk) ad nd cd) 155,.box b4 [iQ 0,zs,zl,zs,zl] 44,.box b5 [iQ K,sv T,iQ ln,iQ co] 211] λq' hq'=>?_;refine s8 (λs1=>?_) λs1=>?_;focus
  apply hq';refine o7 λq' hq'=>?_;refine s8 (λk1=>?_) λk1=>?_;focus
   have no:uA (C7 r)=false:=by rw[<-hP];unfold uA;rw[s1,F6];exact (by simpa using k1:decide (K=1)=false)
   refine lR 2 0 ?_;refine k7 _ (λw' hm=>S0 w' (hm 1 _ rfl) (hk.trans (hm 0 _ rfl).whole) hR) ?_;apply hq';refine s8 (λq1=>?_) λq1=>?_;focus
    skip
   rotate_left
   ·have q1:aA r [91]=true:=by simpa using q1
    refine nQ [.hp c0,.hp h,.box rb (J1 b (kk) ad nd cd) 155,.box b4 [iQ 0,zs,zl,zs,zl] 44,.box b5 [iQ K,sv T,iQ ln,iQ co] 211] λq' hq'=>?_;apply hq';refine d8 (λv1=>?_) λv1=>?_;focus
     refine nQ [.hp c0,.hp h,.box rb (J1 b (kk) ad nd cd) 155,.box b4 [iQ 0,zs,zl,zs,zl] 44,.box b5 [iQ K,sv T,iQ ln,iQ co] 211] λq' hq'=>?_;refine lR 2 0 ?_;refine l6 (i:=1) rfl (λw0 w' hok=>G8 w' (hok.mem 1 _ rfl) (hok.kle rfl rfl hk) hR) ?_;rintro _ h11 _ ⟨rfl,hR11⟩;have hR11:G9 k h11 b (y7 r 15):=hR11;have eS:expS d r kk=y7 r 15:=by unfold expS;rw[if_neg (λc=>by rw[q1] at c;cases c.2),if_pos om]
     apply hq';refine nQ [.hp c0,.hp h11,.box rb (J1 b (kk) ad nd cd) 155,.box b4 [iQ 0,zs,zl,zs,zl] 44,.box b5 [iQ K,sv T,iQ ln,iQ co] 211] λq' hq'=>?_;refine lR 2 2 ?_;refine nwo ?_;refine fI cQ (i:=2) (j:=2) rfl rfl rfl (by show 2 < 3;decide) rfl rfl ?_;apply hq';refine nQ [.hp c0,.hp h11,.box rb (J1 b (kk+1) ad nd cd) 155,.box b4 [iQ 0,zs,zl,zs,zl] 44,.box b5 [iQ K,sv T,iQ ln,iQ co] 211] λq' hq'=>?_;refine k7 _ (λw' hm=>T9 w' (hm 1 _ rfl) hR11 ((hm 2 _ rfl).whole.cell (J3 rb (cs:=J1 b (kk+1) ad nd cd) _ rfl))) ?_;apply hq';refine d8 (λf1=>?_) λf1=>?_;focus
      skip
     rotate_left
     ·exact absurd (bK r dc) f1
    rotate_left
    focus
     refine nQ [.hp c0,.hp h,.box rb (J1 b (kk) ad nd cd) 155,.box b4 [iQ 0,zs,zl,zs,zl] 44,.box b5 [iQ K,sv T,iQ ln,iQ co] 211] λq' hq'=>?_;refine lR 2 2 ?_;refine l6 (i:=1) rfl (λw0 w' hok=>N9 (n:=kk) (m:=64) rfl rfl w' (hok.mem 1 _ rfl) (DR.mk (hk.trans (hok.le01 rfl rfl)) hR (hok.bx1 (j:=2) (n:=0) rfl rfl dc rfl))) ?_;rintro _ h11 _ ⟨rfl,hR11⟩;have hR11:G9 k h11 b (J2 r kk 64):=hR11;have eS:expS d r kk=J2 r kk 64:=by unfold expS;rw[if_neg (λc=>by rw[q1] at c;cases c.2),if_neg om]
     apply hq';refine nQ [.hp c0,.hp h11,.box rb (J1 b (kk) ad nd cd) 155,.box b4 [iQ 0,zs,zl,zs,zl] 44,.box b5 [iQ K,sv T,iQ ln,iQ co] 211] λq' hq'=>?_;refine lR 2 2 ?_;refine nwo ?_;refine fI cQ (i:=2) (j:=2) rfl rfl rfl (by show 2 < 3;decide) rfl rfl ?_;apply hq';refine nQ [.hp c0,.hp h11,.box rb (J1 b (kk+1) ad nd cd) 155,.box b4 [iQ 0,zs,zl,zs,zl] 44,.box b5 [iQ K,sv T,iQ ln,iQ co] 211] λq' hq'=>?_;refine k7 _ (λw' hm=>T9 w' (hm 1 _ rfl) hR11 ((hm 2 _ rfl).whole.cell (J3 rb (cs:=J1 b (kk+1) ad nd cd) _ rfl))) ?_;apply hq';refine d8 (λf1=>?_) λf1=>?_;focus
      skip
     rotate_left
     ·have h0:(expS d r kk).e=0:=by rw[eS];exact l9.1 f1
      obtain⟨hd0,hk64,eR,h00,_⟩:=sF h0;obtain⟨d',rfl⟩ :∃d',d=d'+1:=⟨d - 1,om⟩
      have eL:J2 r kk 64=r:=by rw[<-eS];exact eR
      rw[eL] at hR11;refine nQ [.hp c0,.hp h11,.box rb (J1 b (kk+1) ad nd cd) 155,.box b4 [iQ 0,zs,zl,zs,zl] 44,.box b5 [iQ K,sv T,iQ ln,iQ co] 211] λq' hq'=>?_;apply hq';refine s8 (λt1=>?_) λt1=>?_
      ·refine nQ [.hp c0,.hp h11,.box rb (J1 b (kk+1) ad nd cd) 155,.box b4 [iQ 0,zs,zl,zs,zl] 44,.box b5 [iQ K,sv T,iQ ln,iQ co] 211] λq' hq'=>?_;refine l6 (i:=1) rfl (λw0 w' hok=>mL w' (hok.mem 1 _ rfl) (DR.mk (hk.trans (hok.le01 rfl rfl)) hR11 (hok.bx1 (j:=2) (n:=0) rfl rfl dc rfl)) (hok.bx1 (j:=2) (n:=1) rfl rfl dc rfl) (hD.mono (j7 _) (hok.le01 rfl rfl)) hDn) ?_;rintro _ hF _ ⟨o,rfl,rfl,hO,hRF⟩;rw[<-hnames] at hO hRF ⊢;apply hq';rw[zR names d' h0 no];exact⟨hF,[.box rb (J1 b (kk+1) ad nd cd) 155,.hp o.h],⟨_,_,rfl,⟨_,rfl,rfl,⟨o.a,o.n,o.c,none,0,0,rfl,w8.sl (f:=U0) (sz:=2) (λ_=>rfl) dc hO,Sl.nil _ _ _ _ _⟩⟩,rfl,hRF⟩,pk [0,1,2,5]⟩
      ·exact absurd no (by rw[<-hP];unfold uA;rw[s1];simpa using t1)
    all_goals
     rw[nN names d (r:=r) (k:=kk) (by rw[eS];exact f1),eS];exact⟨h11,[.box rb (J1 b (kk+1) ad nd cd) 155,.hp Hp.emp],⟨_,_,rfl,⟨_,rfl,rfl,⟨none,0,0,none,0,0,rfl,Sl.nil _ _ _ _ _,Sl.nil _ _ _ _ _⟩⟩,rfl,hR11⟩,λw' h=>(h.pick [0,1,2] rfl rfl).emp⟩
  rotate_left
  ·apply hq';refine dQ rfl ?_;have k1:K=1:=by simpa using k1
   have yo:uA (C7 r)=true:=by rw[<-hP];unfold uA;rw[s1,F6];exact decide_eq_true k1
   refine nQ [.hp c0,.hp h,.box rb (J1 b (kk) ad nd cd) 155,.box b4 [iQ 0,zs,zl,zs,zl] 44,.box b5 [iQ K,sv T,iQ ln,iQ co] 211] λq' hq'=>?_;apply hq';refine d8 (λv1=>?_) λv1=>?_;focus
    refine nQ [.hp c0,.hp h,.box rb (J1 b (kk) ad nd cd) 155,.box b4 [iQ 0,zs,zl,zs,zl] 44,.box b5 [iQ K,sv T,iQ ln,iQ co] 211] λq' hq'=>?_;refine lR 2 0 ?_;refine l6 (i:=1) rfl (λw0 w' hok=>G8 w' (hok.mem 1 _ rfl) (hok.kle rfl rfl hk) hR) ?_;rintro _ h11 _ ⟨rfl,hR11⟩;have hR11:G9 k h11 b (y7 r 15):=hR11;have eS:expS d r kk=y7 r 15:=by unfold expS;rw[if_neg (λc=>by rw[yo] at c;cases c.1),if_pos om]
    apply hq';refine nQ [.hp c0,.hp h11,.box rb (J1 b (kk) ad nd cd) 155,.box b4 [iQ 0,zs,zl,zs,zl] 44,.box b5 [iQ K,sv T,iQ ln,iQ co] 211] λq' hq'=>?_;refine lR 2 2 ?_;refine nwo ?_;refine fI cQ (i:=2) (j:=2) rfl rfl rfl (by show 2 < 3;decide) rfl rfl ?_;apply hq';refine nQ [.hp c0,.hp h11,.box rb (J1 b (kk+1) ad nd cd) 155,.box b4 [iQ 0,zs,zl,zs,zl] 44,.box b5 [iQ K,sv T,iQ ln,iQ co] 211] λq' hq'=>?_;refine k7 _ (λw' hm=>T9 w' (hm 1 _ rfl) hR11 ((hm 2 _ rfl).whole.cell (J3 rb (cs:=J1 b (kk+1) ad nd cd) _ rfl))) ?_;apply hq';refine d8 (λf1=>?_) λf1=>?_;focus
     skip
    rotate_left
    ·exact absurd (bK r dc) f1
   rotate_left
   focus
    refine nQ [.hp c0,.hp h,.box rb (J1 b (kk) ad nd cd) 155,.box b4 [iQ 0,zs,zl,zs,zl] 44,.box b5 [iQ K,sv T,iQ ln,iQ co] 211] λq' hq'=>?_;refine lR 2 2 ?_;refine l6 (i:=1) rfl (λw0 w' hok=>N9 (n:=kk) (m:=64) rfl rfl w' (hok.mem 1 _ rfl) (DR.mk (hk.trans (hok.le01 rfl rfl)) hR (hok.bx1 (j:=2) (n:=0) rfl rfl dc rfl))) ?_;rintro _ h11 _ ⟨rfl,hR11⟩;have hR11:G9 k h11 b (J2 r kk 64):=hR11;have eS:expS d r kk=J2 r kk 64:=by unfold expS;rw[if_neg (λc=>by rw[yo] at c;cases c.1),if_neg om]
    apply hq';refine nQ [.hp c0,.hp h11,.box rb (J1 b (kk) ad nd cd) 155,.box b4 [iQ 0,zs,zl,zs,zl] 44,.box b5 [iQ K,sv T,iQ ln,iQ co] 211] λq' hq'=>?_;refine lR 2 2 ?_;refine nwo ?_;refine fI cQ (i:=2) (j:=2) rfl rfl rfl (by show 2 < 3;decide) rfl rfl ?_;apply hq';refine nQ [.hp c0,.hp h11,.box rb (J1 b (kk+1) ad nd cd) 155,.box b4 [iQ 0,zs,zl,zs,zl] 44,.box b5 [iQ K,sv T,iQ ln,iQ co] 211] λq' hq'=>?_;refine k7 _ (λw' hm=>T9 w' (hm 1 _ rfl) hR11 ((hm 2 _ rfl).whole.cell (J3 rb (cs:=J1 b (kk+1) ad nd cd) _ rfl))) ?_;apply hq';refine d8 (λf1=>?_) λf1=>?_;focus
     skip
    rotate_left
    ·have h0:(expS d r kk).e=0:=by rw[eS];exact l9.1 f1
     obtain⟨hd0,hk64,eR,h00,_⟩:=sF h0;obtain⟨d',rfl⟩ :∃d',d=d'+1:=⟨d - 1,om⟩
     have eL:J2 r kk 64=r:=by rw[<-eS];exact eR
     rw[eL] at hR11;obtain⟨op,hop⟩ :∃x,x=(KW T).getD 0:=⟨_,rfl⟩
     rw[<-hop];refine nQ [.hp c0,.hp h11,.box rb (J1 b (kk+1) ad nd cd) 155,.box b4 [iQ 0,zs,zl,zs,zl] 44,.box b5 [iQ K,sv T,iQ ln,iQ co] 211] λq' hq'=>?_;apply hq';refine s8 (λt1=>?_) λt1=>?_
     ·exact absurd k1 (by simpa using t1)
     ·refine nQ [.hp c0,.hp h11,.box rb (J1 b (kk+1) ad nd cd) 155,.box b4 [iQ 0,zs,zl,zs,zl] 44,.box b5 [iQ K,sv T,iQ ln,iQ co] 211] λq' hq'=>?_;refine lR 2 0 ?_;refine l6 (i:=1) rfl (λw0 w' hok=>cO w' (hok.mem 1 _ rfl) (hok.kle rfl rfl hk) hR11) ?_;rintro _ h12 _ ⟨rfl,rfl,hR12⟩;have hR12:G9 k h12 b (E5 r):=hR12;apply hq';refine nQ [.hp c0,.hp h12,.box rb (J1 b (kk+1) ad nd cd) 155,.box b4 [iQ 0,zs,zl,zs,zl] 44,.box b5 [iQ K,sv T,iQ ln,iQ co] 211] λq' hq'=>?_;intro b8;apply hq';refine nQ [.hp c0,.hp h12,.box rb (J1 b (kk+1) ad nd cd) 155,.box b4 [iQ 0,zs,zl,zs,zl] 44,.box b5 [iQ K,sv T,iQ ln,iQ co] 211,.box b8 [iQ op,zs,zl,zs,zl] 44] λq' hq'=>?_;apply hq';obtain⟨p,hp⟩ :∃x,x=(if op=2 then R6 (E5 r) else (E5 r,[])):=⟨_,rfl⟩
      have hp0:=hp;refine d8 (λo2=>?_) λo2=>?_
      ·refine nQ [.hp c0,.hp h12,.box rb (J1 b (kk+1) ad nd cd) 155,.box b4 [iQ 0,zs,zl,zs,zl] 44,.box b5 [iQ K,sv T,iQ ln,iQ co] 211,.box b8 [iQ op,zs,zl,zs,zl] 44] λq' hq'=>?_;refine l6 (i:=1) rfl (λw0 w' hok=>W5 w' (hok.mem 1 _ rfl) (DR.mk (hk.trans (hok.le01 rfl rfl)) hR12 (hok.bx1 (j:=2) (n:=0) rfl rfl dc rfl))) ?_;rintro _ h13 _ ⟨rfl,rfl,hR13⟩;have hR13:G9 k h13 b ((R6 (E5 r)).1):=hR13;rw[if_pos o2] at hp;rw[<-hp] at hR13 ⊢;apply hq';refine nQ [.hp c0,.hp h13,.box rb (J1 b (kk+1) ad nd cd) 155,.box b4 [iQ 0,zs,zl,zs,zl] 44,.box b5 [iQ K,sv T,iQ ln,iQ co] 211,.box b8 [iQ op,zs,zl,sv p.2,zl] 44] λq' hq'=>?_;refine lR 2 0 ?_;refine l6 (i:=1) rfl (λw0 w' hok=>m6 w' (hok.mem 1 _ rfl) (hok.kle rfl rfl hk) hR13) ?_;rintro _ h14 _ ⟨rfl,hR14⟩;have hR14:G9 k h14 b (x8 p.1 [40]):=hR14;apply hq';obtain⟨A,hA⟩ :∃x,x=R4 names d' (x8 p.1 [40]) (kk+1):=⟨_,rfl⟩
       refine s6.cut (Hp×Hp×Dw.Os) (λ_=>[(0,.v (pQ rb)),(1,.v (iQ lv)),(4,.bx 3 0),(6,.v (iQ op)),(8,.bx 5 0)]) (λg=>[.hp c0,.hp g.1,.box rb (J1 b A.2.1 ad nd cd) 155,.box b4 [iQ 0,zs,zl,zs,zl] 44,.box b5 [iQ K,sv T,iQ ln,iQ co] 211,.box b8 [iQ op,zs,zl,sv p.2,g.2.2.v] 44,.hp g.2.1,.hp g.2.2.h]) (λg=>G9 k g.1 b A.1/\aT (P5 (d'+1)) 44 5 g.2.1 g.2.2 [A.2.2]) (s6.by_order0 (s0:=[.hp c0,.hp Hp.emp,.hp Hp.emp,.box b4 [iQ 0,zs,zl,zs,zl] 44,.box b5 [iQ K,sv T,iQ ln,iQ co] 211,.box b8 [iQ op,zs,zl,sv p.2,zl] 44]) cQ (.take 0 <| .take 1 <| .take 2 <| .take 3 <| .take 4 <| .run 5 <| .run 6 <| .run 7 <| .run 8 <| .run 9 <| .done) kr (sK) ?_) ?_
       ·refine nwo ?_;refine nR (i:=2) (j:=1) dc rfl rfl (λw0 w' hok=>ih d' rfl k h14 rb b (x8 p.1 [40]) (kk+1) ad nd cd (lv+1) w' om (hok.inJ (i:=2) (j:=1) (c:=.box rb (J1 b (kk+1) ad nd cd) 155) (d:=.hp h14) rfl rfl) (hok.disj 2 1 _ _ dc rfl rfl) (hk.trans (hok.le2 (i:=2) (j:=1) (m:=0) dc dc rfl rfl rfl)) hR14 (hD.mono (j7 _) (hok.le2 (i:=2) (j:=1) (m:=0) dc dc rfl rfl rfl)) om) ?_;rintro _ _ h9 H9 ⟨⟨xs,rfl,hx5,hE⟩,rfl,hR9⟩;rw[<-hnames,<-hA] at hE hR9 ⊢;have hE2:=hE;obtain⟨X,hX⟩ :∃X,X=A.2.2:=⟨_,rfl⟩
        rw[<-hX] at hE2;obtain⟨op9,f9,fac9,args9⟩:=X;obtain⟨a9,n9,c9,a8,n8,c8,rfl,_,_⟩:=hE2;refine⟨sK,?_⟩;intro b9;refine⟨sK,?_⟩;refine Ct (R:=P5 (d'+1)) (H:=H9) cQ (e:=44) rfl A.2.2 [iQ op9,sv f9.1,.slice a9 n9 c9,sv fac9,.slice a8 n8 c8] (j:=7) rfl rfl rfl rfl (λ_=>hE) λo9 _ hG9=>?_;refine⟨sK,?_⟩;exact⟨(h9,H9,o9),⟨hR9,hG9⟩,v6.mk (pj [0,1,2,3,4,5,6,8]) rfl rfl⟩
       rintro⟨h9,H9,o9⟩ ⟨hR9,hG9⟩ _;dsimp only at hR9 hG9 ⊢;obtain⟨tot,htot⟩ :∃x,x=(if op≠2/\op≠5 then dR (R4 names d') (J5 A.1) A.1 A.2.1 [A.2.2] else (A.1,A.2.1,[A.2.2])):=⟨_,rfl⟩
       have hAk:=uG names d' (x8 p.1 [40]) (kk+1) om;rw[<-hA] at hAk;refine u6.mkS (RS×Nat×List Ex×Hp×Hp×Dw.Os) (λ_=>[(0,.v (pQ rb)),(1,.v (iQ lv)),(4,.bx 3 0),(6,.v (iQ op)),(8,.bx 5 0)]) (λg=>[.hp c0,.hp g.2.2.2.1,.box rb (J1 b g.2.1 ad nd cd) 155,.box b4 [iQ 0,zs,zl,zs,zl] 44,.box b5 [iQ K,sv T,iQ ln,iQ co] 211,.box b8 [iQ op,zs,zl,sv p.2,g.2.2.2.2.2.v] 44,.hp g.2.2.2.2.1,.hp g.2.2.2.2.2.h])
        (λg=>G9 k g.2.2.2.1 b g.1/\aT (P5 (d'+1)) 44 5 g.2.2.2.2.1 g.2.2.2.2.2 g.2.2.1/\(∃f,J5 g.1<=f/\(if op≠2/\op≠5 then dR (R4 names d') f g.1 g.2.1 g.2.2.1 else (g.1,g.2.1,g.2.2.1))=tot)/\g.2.1<=65/\(g.1.e=0->g.2.1<=64)/\g.2.2.1.length<=g.2.1) (λg=>J5 g.1) (A.1,A.2.1,[A.2.2],h9,H9,o9)
        ⟨hR9,hG9,⟨J5 A.1,k8 _,htot.symm⟩,hAk.2.1,hAk.2.2,by have:=hAk.1;simp only[d7,d9];omega⟩ (v6.mk (λ_ _ h=>h) rfl rfl) ?_
       rintro⟨rr,ka,out,hh,H,o⟩ ⟨hRr,hG,⟨f,hf,htr⟩,hka,hke,hlo⟩ hsat;have hHo:H.dj o.h:=by obtain⟨w0,w1,hok⟩:=hsat;exact hok.disj 6 7 _ _ dc rfl rfl
       dsimp only at hRr hG hf htr hka hke hlo ⊢;have hRend:rr.e=0->cP rr.ts:=by obtain⟨_,_,_,_,_,hE,_⟩:=hRr;exact hE
       have hpk:(KW (C7 r).2.1).getD 0=op:=by rw[<-hP,hop]
       have fin_:tot=(rr,ka,out)->R4 names (d'+1) r kk=(x8 rr [41],ka,.mk op ([],[]) p.2 out):=λeT=>by
        unfold R4;rw[if_neg (λc=>c h0),if_neg (by rw[yo];decide)];dsimp only;rw[hpk,<-hp0,<-hA,<-htot,eT]
       refine nQ [.hp c0,.hp hh,.box rb (J1 b (ka) ad nd cd) 155,.box b4 [iQ 0,zs,zl,zs,zl] 44,.box b5 [iQ K,sv T,iQ ln,iQ co] 211,.box b8 [iQ op,zs,zl,sv p.2,o.v] 44,.hp H,.hp o.h] λq' hq'=>?_;refine d8 (λq2=>?_) λq2=>?_
       ·refine d8 (λq5=>?_) λq5=>?_;focus
         refine lR 2 0 ?_;refine l6 (i:=1) rfl (λw0 w' hok=>cN (s:=[44]) w' (hok.mem 1 _ rfl) (hok.kle rfl rfl hk) hRr) ?_;rintro _ h20 _ ⟨rfl,rfl,hR20⟩;apply hq';refine s8 (λg1=>?_) λg1=>?_
         ·have hR20:G9 k h20 b (E5 rr):=by unfold U5 at hR20;rw[if_pos g1] at hR20;exact hR20
          obtain⟨A2,hA2⟩ :∃x,x=R4 names d' (E5 rr) ka:=⟨_,rfl⟩
          have hk2:=uG names d' (E5 rr) ka (hke (S2 g1).1);have hlt:=XQ names d' hRend g1 ka;have hka2:ka<=64:=hke (S2 g1).1;rw[<-hA2] at hk2 hlt;refine s6.cut (Hp×Hp×Dw.Os) (λ_=>[(0,.v (pQ rb)),(1,.v (iQ lv)),(4,.bx 3 0),(6,.v (iQ op)),(8,.bx 5 0)]) (λg=>[.hp c0,.hp g.1,.box rb (J1 b A2.2.1 ad nd cd) 155,.box b4 [iQ 0,zs,zl,zs,zl] 44,.box b5 [iQ K,sv T,iQ ln,iQ co] 211,.box b8 [iQ op,zs,zl,sv p.2,g.2.2.v] 44,.hp g.2.1,.hp g.2.2.h]) (λg=>G9 k g.1 b A2.1/\aT (P5 (d'+1)) 44 5 g.2.1 g.2.2 (out++[A2.2.2])) (s6.by_order0 (s0:=[.hp c0,.hp Hp.emp,.hp Hp.emp,.box b4 [iQ 0,zs,zl,zs,zl] 44,.box b5 [iQ K,sv T,iQ ln,iQ co] 211,.box b8 [iQ op,zs,zl,sv p.2,o.v] 44,.hp H,.hp Hp.emp]) cQ (.take 0 <| .take 1 <| .take 2 <| .take 3 <| .take 4 <| .run 5 <| .run 6 <| .run 7 <| .run 8 <| .run 9 <| .done) kr (sK) ?_) ?_
          ·refine nwo ?_;refine nR (i:=2) (j:=1) dc rfl rfl (λw0 w' hok=>ih d' rfl k h20 rb b (E5 rr) ka ad nd cd (lv+1) w' om (hok.inJ (i:=2) (j:=1) (c:=.box rb (J1 b ka ad nd cd) 155) (d:=.hp h20) rfl rfl) (hok.disj 2 1 _ _ dc rfl rfl) (hk.trans (hok.le2 (i:=2) (j:=1) (m:=0) dc dc rfl rfl rfl)) hR20 (hD.mono (j7 _) (hok.le2 (i:=2) (j:=1) (m:=0) dc dc rfl rfl rfl)) hka2) ?_;rintro _ _ h22 H22 ⟨⟨xs,rfl,hx5,hE⟩,rfl,hR22⟩;rw[<-hnames,<-hA2] at hE hR22 ⊢;have hE2:=hE;obtain⟨X,hX⟩ :∃X,X=A2.2.2:=⟨_,rfl⟩
           rw[<-hX] at hE2;obtain⟨op9,f9,fac9,args9⟩:=X;obtain⟨a9,n9,c9,a8,n8,c8,rfl,_,_⟩:=hE2;refine⟨sK,?_⟩;intro b9;refine⟨sK,?_⟩;refine oL (R:=P5 (d'+1)) (o:=o) (L:=out) (H:=H.join H22) cQ (e:=44) rfl (i:=7) rfl (λ_=>hG.mono (q7 _) (Hp.le_join_l _ _)) A2.2.2 [iQ op9,sv f9.1,.slice a9 n9 c9,sv fac9,.slice a8 n8 c8] (j:=9) rfl rfl rfl rfl om (λhs=>?_) λo23 _ hG23=>?_
           ·obtain⟨w0,w',hok⟩:=hs;exact q7 _ _ _ _ _ (Hp.le_join_r (hok.disj 6 8 _ _ dc rfl rfl)) hE
           refine⟨sK,?_⟩;exact⟨(h22,H.join H22,o23),⟨hR22,hG23⟩,v6.mk (λ_ _ h=>(Ok.join (h.pick [0,6,8,1,2,3,4,5,7] rfl rfl)).pick [0,2,3,4,5,6,1,7] rfl rfl) rfl rfl⟩
          rintro⟨h21,H21,o21⟩ ⟨hR21,hG21⟩ _;dsimp only at hR21 hG21 ⊢;refine⟨(A2.1,A2.2.1,out++[A2.2.2],h21,H21,o21),⟨hR21,hG21,?_,hk2.2.1,hk2.2.2,?_⟩,hlt,v6.mk (λ_ _ h=>h) rfl rfl⟩
          ·cases f with
           | zero=>exact absurd hf (by have:=jO hRend g1;omega)
           | succ f=>
            refine⟨f,by dsimp only;omega,?_⟩;dsimp only;rw[<-htr,if_pos ⟨q2,q5⟩,if_pos ⟨q2,q5⟩];conv=>rhs;unfold dR
            rw[if_pos g1,<-hA2]
          ·have:=hk2.1;simp only[d6,d7,d9];omega
         focus
          have hR20:G9 k h20 b rr:=by unfold U5 at hR20;rw[if_neg (by rw[g1];decide)] at hR20;exact hR20
          have eX:=fin_ (by rw[<-htr,if_pos ⟨q2,q5⟩];cases f with | zero=>rfl | succ f=>(unfold dR;rw[if_neg (by rw[g1];decide)]));refine nQ [.hp c0,.hp h20,.box rb (J1 b (ka) ad nd cd) 155,.box b4 [iQ 0,zs,zl,zs,zl] 44,.box b5 [iQ K,sv T,iQ ln,iQ co] 211,.box b8 [iQ op,zs,zl,sv p.2,o.v] 44,.hp H,.hp o.h] λq' hq'=>?_;refine lR 2 0 ?_;refine l6 (i:=1) rfl (λw0 w' hok=>m6 w' (hok.mem 1 _ rfl) (hok.kle rfl rfl hk) hR20) ?_
        rotate_left
        focus
         apply hq';refine dQ rfl ?_;have eX:=fin_ (by rw[<-htr,if_neg (λc=>q5 c.2)]);refine nQ [.hp c0,.hp hh,.box rb (J1 b (ka) ad nd cd) 155,.box b4 [iQ 0,zs,zl,zs,zl] 44,.box b5 [iQ K,sv T,iQ ln,iQ co] 211,.box b8 [iQ op,zs,zl,sv p.2,o.v] 44,.hp H,.hp o.h] λq' hq'=>?_;refine lR 2 0 ?_;refine l6 (i:=1) rfl (λw0 w' hok=>m6 w' (hok.mem 1 _ rfl) (hok.kle rfl rfl hk) hRr) ?_
        all_goals
         rintro _ h15 _ ⟨rfl,hR15⟩;have hR15:G9 k h15 b (x8 rr [41]):=hR15;apply hq';rw[eX];exact⟨h15,[.box rb (J1 b ka ad nd cd) 155,.hp (H.join o.h)],⟨_,_,rfl,⟨_,rfl,rfl,⟨none,0,0,o.a,o.n,o.c,rfl,Sl.nil _ _ _ _ _,hG.sl (q7 _) (by decide:0 < 5) (Hp.le_join_l _ _) (Hp.le_join_r hHo)⟩⟩,rfl,hR15⟩,λw' h=>(Ok.join (h.pick [0,6,7,1,2] rfl rfl)).pick [0,2,3,1] rfl rfl⟩
       ·apply hq';refine dQ rfl ?_;have eX:=fin_ (by rw[<-htr,if_neg (λc=>q2 c.1)]);refine nQ [.hp c0,.hp hh,.box rb (J1 b (ka) ad nd cd) 155,.box b4 [iQ 0,zs,zl,zs,zl] 44,.box b5 [iQ K,sv T,iQ ln,iQ co] 211,.box b8 [iQ op,zs,zl,sv p.2,o.v] 44,.hp H,.hp o.h] λq' hq'=>?_;refine lR 2 0 ?_;refine l6 (i:=1) rfl (λw0 w' hok=>m6 w' (hok.mem 1 _ rfl) (hok.kle rfl rfl hk) hRr) ?_;rintro _ h15 _ ⟨rfl,hR15⟩;have hR15:G9 k h15 b (x8 rr [41]):=hR15;apply hq';rw[eX];exact⟨h15,[.box rb (J1 b ka ad nd cd) 155,.hp (H.join o.h)],⟨_,_,rfl,⟨_,rfl,rfl,⟨none,0,0,o.a,o.n,o.c,rfl,Sl.nil _ _ _ _ _,hG.sl (q7 _) (by decide:0 < 5) (Hp.le_join_l _ _) (Hp.le_join_r hHo)⟩⟩,rfl,hR15⟩,λw' h=>(Ok.join (h.pick [0,6,7,1,2] rfl rfl)).pick [0,2,3,1] rfl rfl⟩
      ·rw[if_neg o2] at hp;have p1:p.1=E5 r:=by rw[hp]
       have p2:p.2 = []:=by rw[hp]
       rw[<-p1] at hR12;have hb8:(Value.string (bs ([]:e8)))=sv p.2:=by rw[p2]
       refine X9 [.hp c0,.hp h12,.box rb (J1 b (kk+1) ad nd cd) 155,.box b4 [iQ 0,zs,zl,zs,zl] 44,.box b5 [iQ K,sv T,iQ ln,iQ co] 211,.box b8 [iQ op,zs,zl,sv p.2,zl] 44] (by rw[p2]) ?_;refine o7 λq' hq'=>?_;refine lR 2 0 ?_;refine l6 (i:=1) rfl (λw0 w' hok=>m6 w' (hok.mem 1 _ rfl) (hok.kle rfl rfl hk) hR12) ?_;rintro _ h13 _ ⟨rfl,hR13⟩;have hR13:G9 k h13 b (x8 p.1 [40]):=hR13;apply hq';obtain⟨A,hA⟩ :∃x,x=R4 names d' (x8 p.1 [40]) (kk+1):=⟨_,rfl⟩
       refine s6.cut (Hp×Hp×Dw.Os) (λ_=>[(0,.v (pQ rb)),(1,.v (iQ lv)),(4,.bx 3 0),(6,.v (iQ op)),(8,.bx 5 0)]) (λg=>[.hp c0,.hp g.1,.box rb (J1 b A.2.1 ad nd cd) 155,.box b4 [iQ 0,zs,zl,zs,zl] 44,.box b5 [iQ K,sv T,iQ ln,iQ co] 211,.box b8 [iQ op,zs,zl,sv p.2,g.2.2.v] 44,.hp g.2.1,.hp g.2.2.h]) (λg=>G9 k g.1 b A.1/\aT (P5 (d'+1)) 44 5 g.2.1 g.2.2 [A.2.2]) (s6.by_order0 (s0:=[.hp c0,.hp Hp.emp,.hp Hp.emp,.box b4 [iQ 0,zs,zl,zs,zl] 44,.box b5 [iQ K,sv T,iQ ln,iQ co] 211,.box b8 [iQ op,zs,zl,sv p.2,zl] 44]) cQ (.take 0 <| .take 1 <| .take 2 <| .take 3 <| .take 4 <| .run 5 <| .run 6 <| .run 7 <| .run 8 <| .run 9 <| .done) kr (sK) ?_) ?_
       ·refine nwo ?_;refine nR (i:=2) (j:=1) dc rfl rfl (λw0 w' hok=>ih d' rfl k h13 rb b (x8 p.1 [40]) (kk+1) ad nd cd (lv+1) w' om (hok.inJ (i:=2) (j:=1) (c:=.box rb (J1 b (kk+1) ad nd cd) 155) (d:=.hp h13) rfl rfl) (hok.disj 2 1 _ _ dc rfl rfl) (hk.trans (hok.le2 (i:=2) (j:=1) (m:=0) dc dc rfl rfl rfl)) hR13 (hD.mono (j7 _) (hok.le2 (i:=2) (j:=1) (m:=0) dc dc rfl rfl rfl)) om) ?_;rintro _ _ h9 H9 ⟨⟨xs,rfl,hx5,hE⟩,rfl,hR9⟩;rw[<-hnames,<-hA] at hE hR9 ⊢;have hE2:=hE;obtain⟨X,hX⟩ :∃X,X=A.2.2:=⟨_,rfl⟩
        rw[<-hX] at hE2;obtain⟨op9,f9,fac9,args9⟩:=X;obtain⟨a9,n9,c9,a8,n8,c8,rfl,_,_⟩:=hE2;refine⟨sK,?_⟩;intro b9;refine⟨sK,?_⟩;refine Ct (R:=P5 (d'+1)) (H:=H9) cQ (e:=44) rfl A.2.2 [iQ op9,sv f9.1,.slice a9 n9 c9,sv fac9,.slice a8 n8 c8] (j:=7) rfl rfl rfl rfl (λ_=>hE) λo9 _ hG9=>?_;refine⟨sK,?_⟩;exact⟨(h9,H9,o9),⟨hR9,hG9⟩,v6.mk (pj [0,1,2,3,4,5,6,8]) rfl rfl⟩
       rintro⟨h9,H9,o9⟩ ⟨hR9,hG9⟩ _;dsimp only at hR9 hG9 ⊢;obtain⟨tot,htot⟩ :∃x,x=(if op≠2/\op≠5 then dR (R4 names d') (J5 A.1) A.1 A.2.1 [A.2.2] else (A.1,A.2.1,[A.2.2])):=⟨_,rfl⟩
       have hAk:=uG names d' (x8 p.1 [40]) (kk+1) om;rw[<-hA] at hAk;refine u6.mkS (RS×Nat×List Ex×Hp×Hp×Dw.Os) (λ_=>[(0,.v (pQ rb)),(1,.v (iQ lv)),(4,.bx 3 0),(6,.v (iQ op)),(8,.bx 5 0)]) (λg=>[.hp c0,.hp g.2.2.2.1,.box rb (J1 b g.2.1 ad nd cd) 155,.box b4 [iQ 0,zs,zl,zs,zl] 44,.box b5 [iQ K,sv T,iQ ln,iQ co] 211,.box b8 [iQ op,zs,zl,sv p.2,g.2.2.2.2.2.v] 44,.hp g.2.2.2.2.1,.hp g.2.2.2.2.2.h])
        (λg=>G9 k g.2.2.2.1 b g.1/\aT (P5 (d'+1)) 44 5 g.2.2.2.2.1 g.2.2.2.2.2 g.2.2.1/\(∃f,J5 g.1<=f/\(if op≠2/\op≠5 then dR (R4 names d') f g.1 g.2.1 g.2.2.1 else (g.1,g.2.1,g.2.2.1))=tot)/\g.2.1<=65/\(g.1.e=0->g.2.1<=64)/\g.2.2.1.length<=g.2.1) (λg=>J5 g.1) (A.1,A.2.1,[A.2.2],h9,H9,o9)
        ⟨hR9,hG9,⟨J5 A.1,k8 _,htot.symm⟩,hAk.2.1,hAk.2.2,by have:=hAk.1;simp only[d7,d9];omega⟩ (v6.mk (λ_ _ h=>h) rfl rfl) ?_
       rintro⟨rr,ka,out,hh,H,o⟩ ⟨hRr,hG,⟨f,hf,htr⟩,hka,hke,hlo⟩ hsat;have hHo:H.dj o.h:=by obtain⟨w0,w1,hok⟩:=hsat;exact hok.disj 6 7 _ _ dc rfl rfl
       dsimp only at hRr hG hf htr hka hke hlo ⊢;have hRend:rr.e=0->cP rr.ts:=by obtain⟨_,_,_,_,_,hE,_⟩:=hRr;exact hE
       have hpk:(KW (C7 r).2.1).getD 0=op:=by rw[<-hP,hop]
       have fin_:tot=(rr,ka,out)->R4 names (d'+1) r kk=(x8 rr [41],ka,.mk op ([],[]) p.2 out):=λeT=>by
        unfold R4;rw[if_neg (λc=>c h0),if_neg (by rw[yo];decide)];dsimp only;rw[hpk,<-hp0,<-hA,<-htot,eT]
       refine nQ [.hp c0,.hp hh,.box rb (J1 b (ka) ad nd cd) 155,.box b4 [iQ 0,zs,zl,zs,zl] 44,.box b5 [iQ K,sv T,iQ ln,iQ co] 211,.box b8 [iQ op,zs,zl,sv p.2,o.v] 44,.hp H,.hp o.h] λq' hq'=>?_;refine d8 (λq2=>?_) λq2=>?_
       ·refine d8 (λq5=>?_) λq5=>?_;focus
         refine lR 2 0 ?_;refine l6 (i:=1) rfl (λw0 w' hok=>cN (s:=[44]) w' (hok.mem 1 _ rfl) (hok.kle rfl rfl hk) hRr) ?_;rintro _ h20 _ ⟨rfl,rfl,hR20⟩;apply hq';refine s8 (λg1=>?_) λg1=>?_
         ·have hR20:G9 k h20 b (E5 rr):=by unfold U5 at hR20;rw[if_pos g1] at hR20;exact hR20
          obtain⟨A2,hA2⟩ :∃x,x=R4 names d' (E5 rr) ka:=⟨_,rfl⟩
          have hk2:=uG names d' (E5 rr) ka (hke (S2 g1).1);have hlt:=XQ names d' hRend g1 ka;have hka2:ka<=64:=hke (S2 g1).1;rw[<-hA2] at hk2 hlt;refine s6.cut (Hp×Hp×Dw.Os) (λ_=>[(0,.v (pQ rb)),(1,.v (iQ lv)),(4,.bx 3 0),(6,.v (iQ op)),(8,.bx 5 0)]) (λg=>[.hp c0,.hp g.1,.box rb (J1 b A2.2.1 ad nd cd) 155,.box b4 [iQ 0,zs,zl,zs,zl] 44,.box b5 [iQ K,sv T,iQ ln,iQ co] 211,.box b8 [iQ op,zs,zl,sv p.2,g.2.2.v] 44,.hp g.2.1,.hp g.2.2.h]) (λg=>G9 k g.1 b A2.1/\aT (P5 (d'+1)) 44 5 g.2.1 g.2.2 (out++[A2.2.2])) (s6.by_order0 (s0:=[.hp c0,.hp Hp.emp,.hp Hp.emp,.box b4 [iQ 0,zs,zl,zs,zl] 44,.box b5 [iQ K,sv T,iQ ln,iQ co] 211,.box b8 [iQ op,zs,zl,sv p.2,o.v] 44,.hp H,.hp Hp.emp]) cQ (.take 0 <| .take 1 <| .take 2 <| .take 3 <| .take 4 <| .run 5 <| .run 6 <| .run 7 <| .run 8 <| .run 9 <| .done) kr (sK) ?_) ?_
          ·refine nwo ?_;refine nR (i:=2) (j:=1) dc rfl rfl (λw0 w' hok=>ih d' rfl k h20 rb b (E5 rr) ka ad nd cd (lv+1) w' om (hok.inJ (i:=2) (j:=1) (c:=.box rb (J1 b ka ad nd cd) 155) (d:=.hp h20) rfl rfl) (hok.disj 2 1 _ _ dc rfl rfl) (hk.trans (hok.le2 (i:=2) (j:=1) (m:=0) dc dc rfl rfl rfl)) hR20 (hD.mono (j7 _) (hok.le2 (i:=2) (j:=1) (m:=0) dc dc rfl rfl rfl)) hka2) ?_;rintro _ _ h22 H22 ⟨⟨xs,rfl,hx5,hE⟩,rfl,hR22⟩;rw[<-hnames,<-hA2] at hE hR22 ⊢;have hE2:=hE;obtain⟨X,hX⟩ :∃X,X=A2.2.2:=⟨_,rfl⟩
           rw[<-hX] at hE2;obtain⟨op9,f9,fac9,args9⟩:=X;obtain⟨a9,n9,c9,a8,n8,c8,rfl,_,_⟩:=hE2;refine⟨sK,?_⟩;intro b9;refine⟨sK,?_⟩;refine oL (R:=P5 (d'+1)) (o:=o) (L:=out) (H:=H.join H22) cQ (e:=44) rfl (i:=7) rfl (λ_=>hG.mono (q7 _) (Hp.le_join_l _ _)) A2.2.2 [iQ op9,sv f9.1,.slice a9 n9 c9,sv fac9,.slice a8 n8 c8] (j:=9) rfl rfl rfl rfl om (λhs=>?_) λo23 _ hG23=>?_
           ·obtain⟨w0,w',hok⟩:=hs;exact q7 _ _ _ _ _ (Hp.le_join_r (hok.disj 6 8 _ _ dc rfl rfl)) hE
           refine⟨sK,?_⟩;exact⟨(h22,H.join H22,o23),⟨hR22,hG23⟩,v6.mk (λ_ _ h=>(Ok.join (h.pick [0,6,8,1,2,3,4,5,7] rfl rfl)).pick [0,2,3,4,5,6,1,7] rfl rfl) rfl rfl⟩
          rintro⟨h21,H21,o21⟩ ⟨hR21,hG21⟩ _;dsimp only at hR21 hG21 ⊢;refine⟨(A2.1,A2.2.1,out++[A2.2.2],h21,H21,o21),⟨hR21,hG21,?_,hk2.2.1,hk2.2.2,?_⟩,hlt,v6.mk (λ_ _ h=>h) rfl rfl⟩
          ·cases f with
           | zero=>exact absurd hf (by have:=jO hRend g1;omega)
           | succ f=>
            refine⟨f,by dsimp only;omega,?_⟩;dsimp only;rw[<-htr,if_pos ⟨q2,q5⟩,if_pos ⟨q2,q5⟩];conv=>rhs;unfold dR
            rw[if_pos g1,<-hA2]
          ·have:=hk2.1;simp only[d6,d7,d9];omega
         focus
          have hR20:G9 k h20 b rr:=by unfold U5 at hR20;rw[if_neg (by rw[g1];decide)] at hR20;exact hR20
          have eX:=fin_ (by rw[<-htr,if_pos ⟨q2,q5⟩];cases f with | zero=>rfl | succ f=>(unfold dR;rw[if_neg (by rw[g1];decide)]));refine nQ [.hp c0,.hp h20,.box rb (J1 b (ka) ad nd cd) 155,.box b4 [iQ 0,zs,zl,zs,zl] 44,.box b5 [iQ K,sv T,iQ ln,iQ co] 211,.box b8 [iQ op,zs,zl,sv p.2,o.v] 44,.hp H,.hp o.h] λq' hq'=>?_;refine lR 2 0 ?_;refine l6 (i:=1) rfl (λw0 w' hok=>m6 w' (hok.mem 1 _ rfl) (hok.kle rfl rfl hk) hR20) ?_
        rotate_left
        focus
         apply hq';refine dQ rfl ?_;have eX:=fin_ (by rw[<-htr,if_neg (λc=>q5 c.2)]);refine nQ [.hp c0,.hp hh,.box rb (J1 b (ka) ad nd cd) 155,.box b4 [iQ 0,zs,zl,zs,zl] 44,.box b5 [iQ K,sv T,iQ ln,iQ co] 211,.box b8 [iQ op,zs,zl,sv p.2,o.v] 44,.hp H,.hp o.h] λq' hq'=>?_;refine lR 2 0 ?_;refine l6 (i:=1) rfl (λw0 w' hok=>m6 w' (hok.mem 1 _ rfl) (hok.kle rfl rfl hk) hRr) ?_
        all_goals
         rintro _ h14 _ ⟨rfl,hR14⟩;have hR14:G9 k h14 b (x8 rr [41]):=hR14;apply hq';rw[eX];exact⟨h14,[.box rb (J1 b ka ad nd cd) 155,.hp (H.join o.h)],⟨_,_,rfl,⟨_,rfl,rfl,⟨none,0,0,o.a,o.n,o.c,rfl,Sl.nil _ _ _ _ _,hG.sl (q7 _) (by decide:0 < 5) (Hp.le_join_l _ _) (Hp.le_join_r hHo)⟩⟩,rfl,hR14⟩,λw' h=>(Ok.join (h.pick [0,6,7,1,2] rfl rfl)).pick [0,2,3,1] rfl rfl⟩
       ·apply hq';refine dQ rfl ?_;have eX:=fin_ (by rw[<-htr,if_neg (λc=>q2 c.1)]);refine nQ [.hp c0,.hp hh,.box rb (J1 b (ka) ad nd cd) 155,.box b4 [iQ 0,zs,zl,zs,zl] 44,.box b5 [iQ K,sv T,iQ ln,iQ co] 211,.box b8 [iQ op,zs,zl,sv p.2,o.v] 44,.hp H,.hp o.h] λq' hq'=>?_;refine lR 2 0 ?_;refine l6 (i:=1) rfl (λw0 w' hok=>m6 w' (hok.mem 1 _ rfl) (hok.kle rfl rfl hk) hRr) ?_;rintro _ h14 _ ⟨rfl,hR14⟩;have hR14:G9 k h14 b (x8 rr [41]):=hR14;apply hq';rw[eX];exact⟨h14,[.box rb (J1 b ka ad nd cd) 155,.hp (H.join o.h)],⟨_,_,rfl,⟨_,rfl,rfl,⟨none,0,0,o.a,o.n,o.c,rfl,Sl.nil _ _ _ _ _,hG.sl (q7 _) (by decide:0 < 5) (Hp.le_join_l _ _) (Hp.le_join_r hHo)⟩⟩,rfl,hR14⟩,λw' h=>(Ok.join (h.pick [0,6,7,1,2] rfl rfl)).pick [0,2,3,1] rfl rfl⟩
   all_goals
    rw[nN names d (r:=r) (k:=kk) (by rw[eS];exact f1),eS];exact⟨h11,[.box rb (J1 b (kk+1) ad nd cd) 155,.hp Hp.emp],⟨_,_,rfl,⟨_,rfl,rfl,⟨none,0,0,none,0,0,rfl,Sl.nil _ _ _ _ _,Sl.nil _ _ _ _ _⟩⟩,rfl,hR11⟩,λw' h=>(h.pick [0,1,2] rfl rfl).emp⟩
 rotate_left
 focus
  apply hq';have no:uA (C7 r)=false:=by rw[<-hP];unfold uA;rw[s1,U4]
  refine o7 λq' hq'=>?_;refine lR 2 0 ?_;refine k7 _ (λw' hm=>S0 w' (hm 1 _ rfl) (hk.trans (hm 0 _ rfl).whole) hR) ?_;apply hq';refine s8 (λq1=>?_) λq1=>?_;focus
   skip
  rotate_left
  ·have q1:aA r [91]=true:=by simpa using q1
   refine nQ [.hp c0,.hp h,.box rb (J1 b (kk) ad nd cd) 155,.box b4 [iQ 0,zs,zl,zs,zl] 44,.box b5 [iQ K,sv T,iQ ln,iQ co] 211] λq' hq'=>?_;apply hq';refine d8 (λv1=>?_) λv1=>?_;focus
    refine nQ [.hp c0,.hp h,.box rb (J1 b (kk) ad nd cd) 155,.box b4 [iQ 0,zs,zl,zs,zl] 44,.box b5 [iQ K,sv T,iQ ln,iQ co] 211] λq' hq'=>?_;refine lR 2 0 ?_;refine l6 (i:=1) rfl (λw0 w' hok=>G8 w' (hok.mem 1 _ rfl) (hok.kle rfl rfl hk) hR) ?_;rintro _ h11 _ ⟨rfl,hR11⟩;have hR11:G9 k h11 b (y7 r 15):=hR11;have eS:expS d r kk=y7 r 15:=by unfold expS;rw[if_neg (λc=>by rw[q1] at c;cases c.2),if_pos om]
    apply hq';refine nQ [.hp c0,.hp h11,.box rb (J1 b (kk) ad nd cd) 155,.box b4 [iQ 0,zs,zl,zs,zl] 44,.box b5 [iQ K,sv T,iQ ln,iQ co] 211] λq' hq'=>?_;refine lR 2 2 ?_;refine nwo ?_;refine fI cQ (i:=2) (j:=2) rfl rfl rfl (by show 2 < 3;decide) rfl rfl ?_;apply hq';refine nQ [.hp c0,.hp h11,.box rb (J1 b (kk+1) ad nd cd) 155,.box b4 [iQ 0,zs,zl,zs,zl] 44,.box b5 [iQ K,sv T,iQ ln,iQ co] 211] λq' hq'=>?_;refine k7 _ (λw' hm=>T9 w' (hm 1 _ rfl) hR11 ((hm 2 _ rfl).whole.cell (J3 rb (cs:=J1 b (kk+1) ad nd cd) _ rfl))) ?_;apply hq';refine d8 (λf1=>?_) λf1=>?_;focus
     skip
    rotate_left
    ·exact absurd (bK r dc) f1
   rotate_left
   focus
    refine nQ [.hp c0,.hp h,.box rb (J1 b (kk) ad nd cd) 155,.box b4 [iQ 0,zs,zl,zs,zl] 44,.box b5 [iQ K,sv T,iQ ln,iQ co] 211] λq' hq'=>?_;refine lR 2 2 ?_;refine l6 (i:=1) rfl (λw0 w' hok=>N9 (n:=kk) (m:=64) rfl rfl w' (hok.mem 1 _ rfl) (DR.mk (hk.trans (hok.le01 rfl rfl)) hR (hok.bx1 (j:=2) (n:=0) rfl rfl dc rfl))) ?_;rintro _ h11 _ ⟨rfl,hR11⟩;have hR11:G9 k h11 b (J2 r kk 64):=hR11;have eS:expS d r kk=J2 r kk 64:=by unfold expS;rw[if_neg (λc=>by rw[q1] at c;cases c.2),if_neg om]
    apply hq';refine nQ [.hp c0,.hp h11,.box rb (J1 b (kk) ad nd cd) 155,.box b4 [iQ 0,zs,zl,zs,zl] 44,.box b5 [iQ K,sv T,iQ ln,iQ co] 211] λq' hq'=>?_;refine lR 2 2 ?_;refine nwo ?_;refine fI cQ (i:=2) (j:=2) rfl rfl rfl (by show 2 < 3;decide) rfl rfl ?_;apply hq';refine nQ [.hp c0,.hp h11,.box rb (J1 b (kk+1) ad nd cd) 155,.box b4 [iQ 0,zs,zl,zs,zl] 44,.box b5 [iQ K,sv T,iQ ln,iQ co] 211] λq' hq'=>?_;refine k7 _ (λw' hm=>T9 w' (hm 1 _ rfl) hR11 ((hm 2 _ rfl).whole.cell (J3 rb (cs:=J1 b (kk+1) ad nd cd) _ rfl))) ?_;apply hq';refine d8 (λf1=>?_) λf1=>?_;focus
     skip
    rotate_left
    ·have h0:(expS d r kk).e=0:=by rw[eS];exact l9.1 f1
     obtain⟨hd0,hk64,eR,h00,_⟩:=sF h0;obtain⟨d',rfl⟩ :∃d',d=d'+1:=⟨d - 1,om⟩
     have eL:J2 r kk 64=r:=by rw[<-eS];exact eR
     rw[eL] at hR11;refine nQ [.hp c0,.hp h11,.box rb (J1 b (kk+1) ad nd cd) 155,.box b4 [iQ 0,zs,zl,zs,zl] 44,.box b5 [iQ K,sv T,iQ ln,iQ co] 211] λq' hq'=>?_;apply hq';refine RW rfl ?_;refine nQ [.hp c0,.hp h11,.box rb (J1 b (kk+1) ad nd cd) 155,.box b4 [iQ 0,zs,zl,zs,zl] 44,.box b5 [iQ K,sv T,iQ ln,iQ co] 211] λq' hq'=>?_;refine l6 (i:=1) rfl (λw0 w' hok=>mL w' (hok.mem 1 _ rfl) (DR.mk (hk.trans (hok.le01 rfl rfl)) hR11 (hok.bx1 (j:=2) (n:=0) rfl rfl dc rfl)) (hok.bx1 (j:=2) (n:=1) rfl rfl dc rfl) (hD.mono (j7 _) (hok.le01 rfl rfl)) hDn) ?_;rintro _ hF _ ⟨o,rfl,rfl,hO,hRF⟩;rw[<-hnames] at hO hRF ⊢;apply hq';rw[zR names d' h0 no];exact⟨hF,[.box rb (J1 b (kk+1) ad nd cd) 155,.hp o.h],⟨_,_,rfl,⟨_,rfl,rfl,⟨o.a,o.n,o.c,none,0,0,rfl,w8.sl (f:=U0) (sz:=2) (λ_=>rfl) dc hO,Sl.nil _ _ _ _ _⟩⟩,rfl,hRF⟩,pk [0,1,2,5]⟩
   all_goals
    rw[nN names d (r:=r) (k:=kk) (by rw[eS];exact f1),eS];exact⟨h11,[.box rb (J1 b (kk+1) ad nd cd) 155,.hp Hp.emp],⟨_,_,rfl,⟨_,rfl,rfl,⟨none,0,0,none,0,0,rfl,Sl.nil _ _ _ _ _,Sl.nil _ _ _ _ _⟩⟩,rfl,hR11⟩,λw' h=>(h.pick [0,1,2] rfl rfl).emp⟩
 all_goals
  have q1:aA r [91]=false:=by simpa using q1
  refine nQ [.hp c0,.hp h,.box rb (J1 b (kk) ad nd cd) 155,.box b4 [iQ 0,zs,zl,zs,zl] 44,.box b5 [iQ K,sv T,iQ ln,iQ co] 211] λq' hq'=>?_;refine lR 2 0 ?_;refine l6 (i:=1) rfl (λw0 w' hok=>G8 w' (hok.mem 1 _ rfl) (hok.kle rfl rfl hk) hR) ?_;rintro _ h11 _ ⟨rfl,hR11⟩;have hR11:G9 k h11 b (y7 r 14):=hR11;have eS:expS d r kk=y7 r 14:=by unfold expS;rw[if_pos ⟨no,q1⟩]
  apply hq';refine nQ [.hp c0,.hp h11,.box rb (J1 b (kk) ad nd cd) 155,.box b4 [iQ 0,zs,zl,zs,zl] 44,.box b5 [iQ K,sv T,iQ ln,iQ co] 211] λq' hq'=>?_;refine lR 2 2 ?_;refine nwo ?_;refine fI cQ (i:=2) (j:=2) rfl rfl rfl (by show 2 < 3;decide) rfl rfl ?_;apply hq';refine nQ [.hp c0,.hp h11,.box rb (J1 b (kk+1) ad nd cd) 155,.box b4 [iQ 0,zs,zl,zs,zl] 44,.box b5 [iQ K,sv T,iQ ln,iQ co] 211] λq' hq'=>?_;refine k7 _ (λw' hm=>T9 w' (hm 1 _ rfl) hR11 ((hm 2 _ rfl).whole.cell (J3 rb (cs:=J1 b (kk+1) ad nd cd) _ rfl))) ?_;apply hq';refine d8 (λf1=>?_) λf1=>?_
  ·rw[nN names d (r:=r) (k:=kk) (by rw[eS];exact f1),eS];exact⟨h11,[.box rb (J1 b (kk+1) ad nd cd) 155,.hp Hp.emp],⟨_,_,rfl,⟨_,rfl,rfl,⟨none,0,0,none,0,0,rfl,Sl.nil _ _ _ _ _,Sl.nil _ _ _ _ _⟩⟩,rfl,hR11⟩,λw' h=>(h.pick [0,1,2] rfl rfl).emp⟩
  ·exact absurd (bK r dc) f1
end Go.Proofs.YtpjhmeicbjkcdaaGreatDoor
namespace Go.Proofs.YtpjhmeicbjkcdaaGreatDoor
open Go Go.RowKit Go.Dw
theorem vW {D:List S1} (hDn:D.length < 1000000) :∀d,d<=9->Lw D d
 | 0,h=>vV hDn 0 h (λd' e=>by omega)
 | d+1,h=>vV hDn (d+1) h (λd' e=>by
  have:d'=d:=om
  subst this;exact vW hDn d' om)
end Go.Proofs.YtpjhmeicbjkcdaaGreatDoor
namespace Go.Proofs.YtpjhmeicbjkcdaaGreatDoor
open Go
theorem RK {r:RS} (g:Y3 r) (h0:r.e=0):Dl (C7 r):=by
 have hp:=(g.l h0).pos;unfold C7;rw[if_neg (λc=>c h0)];cases e:r.ts with
 | nil=>rw[e] at hp;cases hp
 | cons x l=>exact g.t x (by rw[e];exact bU)
theorem Em {t:e8} (h:VD t) :∃k,Fs t k/\bO t k=true:=by
 obtain⟨hl,a,b,ha,h0,h⟩:=h;rcases h with ⟨rfl,hc⟩ | ⟨rfl,hb,hb0,hc⟩
 ·exact⟨t.length,⟨hl,t,b,ha,h0,rfl,.inl rfl⟩,by unfold bO;rw[if_pos rfl];exact hc⟩
 ·exact⟨a.length,⟨hl,a,b,ha,h0,rfl,.inr ⟨rfl,hb,hb0⟩⟩,hc⟩
theorem nF {r:RS} (g:Y3 r) (h:(R6 r).1.e=0):I7 (R6 r).2=0:=by
 unfold R6 at h ⊢;by_cases hl:400 < (aM r).2.length
 ·rw[if_pos hl] at h;exact absurd h (bK _ dc)
 rw[if_neg hl] at h;dsimp only at h ⊢;unfold aM at h hl ⊢;dsimp only at h hl ⊢;have hs0:(tM r).e=0:=(A7.kind (tM r) 2).ok h;have hk:(C7 (tM r)).1=2:=by
  refine j9 λc=>?_;unfold O4 at h;rw[if_pos c] at h;exact absurd h (bK _ dc)
 have hk2:(O4 (tM r) 2).2=(C7 (tM r)).2.1:=by unfold O4;rw[if_neg (λc=>c hk)]
 have gs:Y3 (tM r):=(((A7.take r [45]).trans (A7.fail _ 3)).ite (A7.take r [45])).good g;have ht:=(RK gs hs0).2 hk;have hne:(C7 (tM r)).2.1≠[]:=by
  obtain⟨_,a,b,_,h0,h⟩:=ht;rcases h with ⟨e,_⟩ | ⟨e,_⟩
  ·rw[e];exact G2.1 h0
  ·rw[e];intro c;cases a <;> cases c
 rw[hk2] at hl ⊢;rw[if_neg hne] at hl ⊢;refine yQ (sg:=aA r [45]) (t:=(C7 (tM r)).2.1) ⟨rfl,Em ht,λhi c=>?_⟩ om;have e:tM r=U5 r [45]:=by
  unfold tM;by_cases hc:aA r [45]=true/\(C7 (U5 r [45])).1=2/\(C7 (U5 r [45])).2.1 = [48]
  ·unfold tM at hs0;rw[if_pos hc] at hs0;exact absurd hs0 (bK _ dc)
  ·rw[if_neg hc]
 rw[e] at hk c;unfold tM at hs0;rw[if_pos ⟨hi,hk,c⟩] at hs0;exact absurd hs0 (bK _ dc)
theorem KH {x:e8} (h:I7 x=0):bB 65536 x=0:=by
 have hl:x.length<=400:=Q2 h;unfold I7 bB at h;unfold bB;rw[if_neg om] at h ⊢;exact h
end Go.Proofs.YtpjhmeicbjkcdaaGreatDoor
