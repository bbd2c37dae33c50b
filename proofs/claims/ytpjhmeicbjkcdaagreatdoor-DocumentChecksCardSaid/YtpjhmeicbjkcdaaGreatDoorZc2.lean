/- Parts of one proof, joined. No condition of its own. -/
import Derived.Test.YtpjhmeicbjkcdaaGreatDoorZb1
import Derived.LaidMore
import Derived.OpenShut
import Derived.Stop.Joined
import Derived.MakeChecks
import Derived.LaidSub
import Derived.Lay
import Derived.LaidOnce
import Derived.ChangeMaps5
import Derived.Test.YtpjhmeicbjkcdaaGreatDoorTie
import Derived.Test.YtpjhmeicbjkcdaaGreatDoorCards
import Derived.JoinedOf
import Derived.KernelRfl
import Derived.Test.YtpjhmeicbjkcdaaGreatDoorVl
open Bool renaming and_eq_true->k6,and_false->uV,false_and->U4,false_or->AV,or_eq_true->U8,true_and->F6,false_ne_true->H0,not_eq_false'->iM,not_eq_true'->Z7,eq_iff_iff->L6,not_not->kC
open Classical renaming not_not->l9,byContradiction->j9
open Int renaming eq_ofNat_of_zero_le->aS
open List renaming getElem?_append_left->Y0,getElem?_append_right->N0,getElem?_eq_some_iff->q9,mem_cons->A8,getElem?_cons_zero->aQ,getElem?_drop->bV,getElem?_eq_getElem->i6,getElem?_map->G7,getElem?_range->qH,getElem?_take_of_lt->Na,length_map->l7,length_range->L9,range->z8,all_eq_true->z6,getElem_mem->j0,mem_iff_getElem->Q1,getD_eq_getElem?_getD->i7,drop_eq_getElem_cons->r5,drop_eq_nil_of_le->H4,length_eq_zero_iff->M0,length_cons->d7,any_eq_false->J8,any_eq_true->E6,append_nil->p8,drop_zero->H6,length_pos_iff->G2,mem_cons_self->bU,take_length->p9,length_append->d6,length_nil->d9,length->F7,length_take->j8,map_append->E9,map_cons->N7,map_nil->Pp,take_append_drop->E4,append_assoc->o6,not_mem_nil->Q0
open Nat renaming add_sub_cancel_left->BS,le_refl->k8,add_zero->G3,mul_one->E3,zero_le->f8,zero_mul->Z4,strongRecOn->gY,not_lt_zero->H5,lt_or_ge->K8,le_succ->Qs,mod_lt->C8,zero_add->y8,add_assoc->nX
open Option renaming bind_eq_some_iff->Nh
open Option.some renaming inj->Y4,injEq->m9
namespace Go.Proofs.YtpjhmeicbjkcdaaGreatDoor
open Go Go.RowKit Go.Dw
theorem Gu {α:Type} {R:uU α} {sz b T:Nat} {x y:α} {c d:List Value} {h:Hp} (hh:(Ch.box b (c++d) T).h.le h) (hc:c.length=sz) (hd:d.length=sz) (hx:R h x c) (hy:R h y d):Sl R sz h (some ⟨b,0,none⟩) 2 2 [x,y]:=by
 refine⟨rfl,k8 _,λi hi=>?_⟩;match i,hi with
 | 0,_=>
  refine⟨b,0,c,rfl,hc,hx,λj v hj=>hh.cell (J3 b T ?_)⟩;have hl:=(q9.1 hj).1;rw[show 0+0*sz+j=j by omega,Y0 hl];exact hj
 | 1,_=>
  refine⟨b,0,d,rfl,hd,hy,λj v hj=>hh.cell (J3 b T ?_)⟩;rw[show 0+1*sz+j=c.length+j by omega,N0 om,BS];exact hj
theorem R7 {d:Nat} {H:Hp} {p:jL} {xs:List Value} (h:qB d H p xs) :∃a1 n1 c1 a2 n2 c2 a3 n3 c3 a4 n4 c4 a5 n5 c5,xs = [sv p.nm,.slice a1 n1 c1,.slice a2 n2 c2,.slice a3 n3 c3,.slice a4 n4 c4,.slice a5 n5 c5]/\n1=p.parts.length/\n2=p.insts.length/\n3=p.dims.length/\n4=p.cons.length/\n5=p.reqs.length:=by
 obtain⟨a1,n1,c1,a2,n2,c2,a3,n3,c3,a4,n4,c4,a5,n5,c5,e,h1,h2,h3,h4,h5⟩:=h.ex;exact⟨a1,n1,c1,a2,n2,c2,a3,n3,c3,a4,n4,c4,a5,n5,c5,e,h1.len,h2.len,h3.len,h4.len,h5.len⟩
theorem US (s:e8) (h:s.length < 1000000):SJ ⟨s,[],[],[],[],[]⟩:=⟨h,sQ,sQ,sQ,sQ,sQ,nofun,nofun,nofun,nofun⟩
theorem Aj (w:World) (hP:dT (Hp.whole w)):j6 Tryz.prog 13 #[.agg #[sv [112],zl,zl,zl,zl,zl]] w (v7 w (.tuple #[sv [112,114,111,100,117,99,116,32,112,59,10],iQ 0])):=by
 have h:=MT (d:=0) (p:=⟨[112],[],[],[],[],[]⟩) (cs:=[sv [112],zl,zl,zl,zl,zl]) w ⟨⟨none,0,0,none,0,0,none,0,0,none,0,0,none,0,0,rfl,Sl.nil _ _ _ _ _,Sl.nil _ _ _ _ _,Sl.nil _ _ _ _ _,Sl.nil _ _ _ _ _,Sl.nil _ _ _ _ _⟩⟩ (US [112] dc) hP;rw[Eu] at h;exact h
theorem Jv:pB Ht=(UT,1,36,8):=by
 have h:=Ew;simp only[Prod.mk.injEq] at h;unfold pB;rw[if_pos (by rw[h.2.2];decide),h.1,h.2.1,h.2.2];rfl
theorem Hf:(pB Gd).1=UT/\(pB Gd).2.2.2=14:=by
 have h:=Ev;unfold pB;rw[if_pos (by rw[h];decide),h];exact⟨rfl,rfl⟩
theorem Ai {b1 b2 b3 T1 T2 T3:Nat} (w:World) (h1:(Ch.box b1 [sv [97],iQ 0,iQ 0,iQ 0] T1).h.In w) (h2:(Ch.box b2 [iQ 0,sv [49]] T2).h.In w)
  (h3:(Ch.box b3 [iQ 0,sv [48],.slice (some ⟨b2,0,none⟩) 1 1,zs,zl,iQ 0,sv [53],zl,zs,zl] T3).h.In w) :
  j6 Tryz.prog 19 #[.slice (some ⟨b1,0,none⟩) 1 1,.agg #[iQ 4,zs,zl,zs,.slice (some ⟨b3,0,none⟩) 2 2]] w (v7 w (.tuple #[sv [109,97,120,40,91,48,32,43,32,49,32,42,32,97,93,44,32,91,53,93,41],iQ 0])):=by
 have hD:Sl (B0 O1) 4 (Hp.whole w) (some ⟨b1,0,none⟩) 1 1 [([97],0,0,0)]:=Sl.box (f:=O1) (sz:=4) (λ_=>rfl) dc h1 [([97],0,0,0)] rfl rfl dc;have hT:Sl (B0 U0) 2 (Hp.whole w) (some ⟨b2,0,none⟩) 1 1 [(0,[49])]:=Sl.box (f:=U0) (sz:=2) (λ_=>rfl) dc h2 [(0,[49])] rfl rfl dc;have hA:Sl (P5 1) 5 (Hp.whole w) (some ⟨b3,0,none⟩) 2 2 [.mk 0 ([48],[(0,[49])]) [] [],.mk 0 ([53],[]) [] []]:=
  Gu (x:=Ex.mk 0 ([48],[(0,[49])]) [] []) (y:=Ex.mk 0 ([53],[]) [] []) (c:=[iQ 0,sv [48],.slice (some ⟨b2,0,none⟩) 1 1,zs,zl]) (d:=[iQ 0,sv [53],zl,zs,zl]) h3.whole rfl rfl
   ⟨_,_,_,none,0,0,rfl,hT,Sl.nil _ _ _ _ _⟩ ⟨none,0,0,none,0,0,rfl,Sl.nil _ _ _ _ _,Sl.nil _ _ _ _ _⟩
 have hx:AS Kf:=.mk ⟨dc,dc,nofun⟩ dc dc (by
  intro y hy;rcases A8.1 hy with rfl | hy
  ·exact .mk ⟨dc,dc,by intro t ht;rcases A8.1 ht with rfl | ht;decide;cases ht⟩ dc dc nofun
  ·rcases A8.1 hy with rfl | hy
   ·exact .mk ⟨dc,dc,nofun⟩ dc dc nofun
   ·cases hy)
 have h:=mU (e:=2) (D:=[([97],0,0,0)]) (x:=Kf) (cs:=[iQ 4,zs,zl,zs,.slice (some ⟨b3,0,none⟩) 2 2]) w hD ⟨none,0,0,_,_,_,rfl,Sl.nil _ _ _ _ _,hA⟩ hx dc (by intro d hd;rcases A8.1 hd with rfl | hd;decide;cases hd) (by decide +kernel);rw[Et] at h;exact h
set_option maxRecDepth 10000 in
theorem rV (w:World) (hT:kU (Hp.whole w)) (hP:dT (Hp.whole w)):j6 Tryz.prog 9 #[] w (v7 w (.bool true)):=by
 have hA:=λ(w':World) (hm:(Hp.whole w).In w')=>AO Ht w' (hT.mono hm.whole);have hB:=λ(w':World) (hm:(Hp.whole w).In w')=>AO Gd w' (hT.mono hm.whole);rw[Jv] at hA;rw[Hf.1,Hf.2] at hB;generalize (pB Gd).2.1=z1 at hB;generalize (pB Gd).2.2.1=z2 at hB;refine enterZ (cx 79) [] [.tmp 0] Tryz.func9 ?_;refine o7 (λ_ kz=>kz _ _ ?_);refine o7 λq' hq'=>?_;refine k7 _ (λw' hm=>Aj w' (hP.mono (hm 0 _ rfl).whole)) ?_;apply hq';refine o7 λq' hq'=>?_;refine call (λw' hm=>hA w' (hm 0 _ rfl)) ?_;rintro _ _ ⟨H1,xs,rfl,rfl,_,hp1⟩;obtain⟨a1,n1,c1,a2,n2,c2,a3,n3,c3,a4,n4,c4,a5,n5,c5,rfl,_⟩:=R7 hp1;intro b3;apply hq';refine o7 λq' hq'=>?_;refine call (λw' hm=>hB w' (hm 0 _ rfl)) ?_;rintro _ _ ⟨H2,ys,rfl,rfl,_,hp2⟩;obtain⟨u1,m1,e1,u2,m2,e2,u3,m3,e3,u4,m4,e4,u5,m5,e5,rfl,_⟩:=R7 hp2;intro b7;apply hq';refine nQ [.hp (Hp.whole w),.hp H1,.box b3 [zs,.slice a1 n1 c1,.slice a2 n2 c2,.slice a3 n3 c3,.slice a4 n4 c4,.slice a5 n5 c5] 30,.hp H2,.box b7 [zs,.slice u1 m1 e1,.slice u2 m2 e2,.slice u3 m3 e3,.slice u4 m4 e4,.slice u5 m5 e5] 30] λq' hq'=>?_;intro b32 b34 b39;refine k7 _ (λw' hm=>Ai (b1:=b32) (b2:=b34) (b3:=b39) w' (hm 5 _ rfl) (hm 6 _ rfl) (hm 7 _ rfl)) ?_;apply hq';show Q7 _ _ _ _ _ _
 (iterate 3 refine w1j λK hK=>?_;apply hK);refine wGYj λK hK=>?_;apply hK;refine wGYj λK hK=>?_;refine W8 (b:=[112,114,111,100,117,99,116,32,112,59,10]) ?_;(iterate 2 apply hK;refine w1j λK hK=>?_);(iterate 2 apply hK;refine wGYj λK hK=>?_);(iterate 2 apply hK;refine w1j λK hK=>?_);(iterate 2 apply hK;refine wGYj λK hK=>?_);(iterate 2 apply hK;refine w1j λK hK=>?_);(iterate 2 apply hK;refine wGYj λK hK=>?_);(iterate 2 apply hK;refine w1j λK hK=>?_);(iterate 2 apply hK;refine wGYj λK hK=>?_);(iterate 2 apply hK;refine w1j λK hK=>?_);(iterate 3 apply hK;refine wGYj λK hK=>?_);refine W8 (b:=[]) ?_;(iterate 2 apply hK;refine w1j λK hK=>?_);(iterate 2 apply hK;refine wGYj λK hK=>?_);(iterate 2 apply hK;refine w1j λK hK=>?_);(iterate 2 apply hK;refine wGYj λK hK=>?_);refine W8 (b:=[109,97,120,40,91,48,32,43,32,49,32,42,32,97,93,44,32,91,53,93,41]) ?_;(iterate 2 apply hK;refine w1j λK hK=>?_);apply hK;refine dA ?_;exact⟨[],⟨rfl,rfl⟩,pk [0]⟩
end Go.Proofs.YtpjhmeicbjkcdaaGreatDoor
namespace Go.Proofs.YtpjhmeicbjkcdaaGreatDoor
open Go Go.RowKit Go.Dw
theorem qA {n1:Bool} {a1 a2:Option Addr} {k1 c1 k2 c2 x:Nat} (w:World) (hM:bT (Hp.whole w) (.slice a1 k1 c1) x) :
  j6 Tryz.prog 144 #[cF n1 a1 k1 c1 false a2 k2 c2] w (v7 w (iQ (if x=0 then 0 else if n1=true then -1 else 1))):=by
 unfold cF;refine enterZ (cx 6) [.agg #[.bool n1,.slice a1 k1 c1,.bool false,.slice a2 k2 c2]] [.tmp 2] Tryz.func144 ?_;intro b1;refine k7 _ (λw' hm=>cD w' (hM.mono (hm 0 _ rfl).whole)) ?_;exact⟨[],⟨rfl,rfl⟩,pk [0]⟩
end Go.Proofs.YtpjhmeicbjkcdaaGreatDoor
namespace Go.Dw
open Go Go.RowKit Go.ChangeShapes Go.WideShapes Go.ChangeAt
section
variable {H:Type} {enc:TypeId×Value->H} {P:Program} {W:World} {sp:Nat->Bool} {held:Bool}
theorem yX {α β:Type} {g:α->Option β} :∀{l:List α} {cs:List β},l.mapM g=some cs->cs.length=l.length/\∀(j:Nat) (v:β),cs[j]?=some v->∃i,l[j]?=some i/\g i=some v
 | [],cs,h=>by
  rw[List.mapM_nil] at h;cases h;exact⟨rfl,λj v h=>by simp at h⟩
 | x::l,cs,h=>by
  simp only[List.mapM_cons,Option.bind_eq_bind,Nh,Option.pure_def,m9] at h;obtain⟨y,hy,ys,hys,rfl⟩:=h;obtain⟨h1,h2⟩:=yX hys;refine⟨by simp[h1],λj v hj=>?_⟩;match j,hj with
  | 0,hj=>cases hj;exact⟨x,rfl,hy⟩
  | j+1,hj=>exact h2 j v hj
theorem V4 {α:Type} [Inhabited α] {R:uU α} {t e:TypeId} {n:Nat} (ht:P.underlying t=some (.slice e)) (hc:P.cellsOf e=n) (hn:0 < n)
  (hf :∀fuel cs (y:DataW H×List MemPlace),DataW.trod enc P W 0 sp held fuel e cs=some y->∃x:α,R (Hp.whole W) x cs)
  {fuel:Nat} {cs:List Value} {y:DataW H×List MemPlace} (h:DataW.trod enc P W 0 sp held fuel t cs=some y) :
  ∃a m c L,cs = [.slice a m c]/\Sl R n (Hp.whole W) a m c L:=by
 rcases DataW.trod_slice ht h with ⟨h0,_⟩ | ⟨a,len,cap,elems,rest,k,_,rfl,_,hb,hl,_,hlen,hel,_,_⟩
 ·exact⟨none,0,0,[],h0,Sl.nil _ _ _ _ _⟩
 rw[hc] at hel;have each :∀i,i < len->∃(x:α×List Value),R (Hp.whole W) x.1 x.2/\x.2.length=n/\∀j v,x.2[j]?=some v->W.cell? ((a.add (i*n)).add j)=some v:=by
  intro i hi;have h1:=hel i hi;rw[i6 om,Nh] at h1;obtain⟨cs',hcs,hy⟩:=h1;obtain⟨x,hx⟩:=hf _ _ _ hy;unfold World.cells? at hcs;rw[if_pos (f8 _)] at hcs;obtain⟨g1,g2⟩:=yX hcs;rw[L9] at g1;refine⟨(x,cs'),hx,g1,λj v hj=>?_⟩;obtain⟨q,hq,hv⟩:=g2 j v hj;have hjn:j < n:=by rw[<-g1];exact (q9.1 hj).1
  rw[qH hjn] at hq;cases hq;exact hv
 obtain⟨g,hg⟩ :∃g:Nat->α×List Value,∀i,i < len->R (Hp.whole W) (g i).1 (g i).2/\(g i).2.length=n/\∀j v,(g i).2[j]?=some v->W.cell? ((a.add (i*n)).add j)=some v:=by
  refine⟨λi=>if h:i < len then (each i h).choose else (default,[]),λi hi=>?_⟩;simp only[hi,↓reduceDIte];exact (each i hi).choose_spec
 refine⟨some a,len,cap,(z8 len).map λi=>(g i).1,rfl,sQ,hl,λi hi=>?_⟩;simp only[l7,L9] at hi;obtain⟨b,off,rfl⟩ :∃b off,a=⟨b,off,none⟩:=by
  obtain⟨_,h1,h2⟩:=hg 0 om;have:=h2 0 _ (i6 om);rw[Z4] at this;simp only[Addr.add,↓reduceIte] at this;exact DA this
 obtain⟨h0,h1,h2⟩:=hg i hi;refine⟨b,off,(g i).2,rfl,h1,by simpa using h0,λj v hj=>?_⟩;have:=h2 j v hj;rw[Addr.add_mk,Addr.add_mk] at this;exact this
theorem xT {t:TypeId} {fs:Array Field} {fuel:Nat} {cs:List Value} {x:DataW H×List MemPlace} (ht:P.underlying t=some (.struct fs)) (h:DataW.trod enc P W 0 sp held fuel t cs=some x) :
  cs.length=P.cellsOf t/\∃n,∀(i:Nat) (f:Field),fs[i]?=some f->∃y,DataW.trod enc P W 0 sp held n f.type ((cs.drop f.offset).take (P.cellsOf f.type))=some y:=by
 obtain⟨xs,n,_,rfl,hl,hlen,hf⟩:=DataW.trod_struct ht h;refine⟨hl,n,λi f hi=>?_⟩;have h1:=hf i f hi;have hi':i < xs.length:=by rw[hlen];exact (Array.getElem?_eq_some_iff.1 hi).1
 rw[i6 hi'] at h1;exact⟨_,h1⟩
theorem BV {t:TypeId} {F0 F1:Field} {fuel:Nat} {cs:List Value} {x:DataW H×List MemPlace} (ht:P.underlying t=some (.struct #[F0,F1])) (h:DataW.trod enc P W 0 sp held fuel t cs=some x) :
  cs.length=P.cellsOf t/\∃n,(∃y,DataW.trod enc P W 0 sp held n F0.type ((cs.drop F0.offset).take (P.cellsOf F0.type))=some y)/\(∃y,DataW.trod enc P W 0 sp held n F1.type ((cs.drop F1.offset).take (P.cellsOf F1.type))=some y):=by
 obtain⟨h1,n,h2⟩:=xT ht h;exact⟨h1,n,h2 0 F0 rfl,h2 1 F1 rfl⟩
theorem On {t:TypeId} {F0 F1 F2:Field} {fuel:Nat} {cs:List Value} {x:DataW H×List MemPlace} (ht:P.underlying t=some (.struct #[F0,F1,F2])) (h:DataW.trod enc P W 0 sp held fuel t cs=some x) :
  cs.length=P.cellsOf t/\∃n,(∃y,DataW.trod enc P W 0 sp held n F0.type ((cs.drop F0.offset).take (P.cellsOf F0.type))=some y)/\(∃y,DataW.trod enc P W 0 sp held n F1.type ((cs.drop F1.offset).take (P.cellsOf F1.type))=some y)/\(∃y,DataW.trod enc P W 0 sp held n F2.type ((cs.drop F2.offset).take (P.cellsOf F2.type))=some y):=by
 obtain⟨h1,n,h2⟩:=xT ht h;exact⟨h1,n,h2 0 F0 rfl,h2 1 F1 rfl,h2 2 F2 rfl⟩
theorem PK {t:TypeId} {F0 F1 F2 F3:Field} {fuel:Nat} {cs:List Value} {x:DataW H×List MemPlace} (ht:P.underlying t=some (.struct #[F0,F1,F2,F3])) (h:DataW.trod enc P W 0 sp held fuel t cs=some x) :
  cs.length=P.cellsOf t/\∃n,(∃y,DataW.trod enc P W 0 sp held n F0.type ((cs.drop F0.offset).take (P.cellsOf F0.type))=some y)/\(∃y,DataW.trod enc P W 0 sp held n F1.type ((cs.drop F1.offset).take (P.cellsOf F1.type))=some y)/\(∃y,DataW.trod enc P W 0 sp held n F2.type ((cs.drop F2.offset).take (P.cellsOf F2.type))=some y)/\(∃y,DataW.trod enc P W 0 sp held n F3.type ((cs.drop F3.offset).take (P.cellsOf F3.type))=some y):=by
 obtain⟨h1,n,h2⟩:=xT ht h;exact⟨h1,n,h2 0 F0 rfl,h2 1 F1 rfl,h2 2 F2 rfl,h2 3 F3 rfl⟩
theorem Hm {cs:List Value} (h:cs.length=2) :∃p q,cs = [p,q]:=by
 match cs,h with
 | [p,q],_=>exact⟨p,q,rfl⟩
theorem Ke {cs:List Value} (h:cs.length=3) :∃p q s,cs = [p,q,s]:=by
 match cs,h with
 | [p,q,s],_=>exact⟨p,q,s,rfl⟩
theorem Hl {cs:List Value} (h:cs.length=4) :∃p q s u,cs = [p,q,s,u]:=by
 match cs,h with
 | [p,q,s,u],_=>exact⟨p,q,s,u,rfl⟩
theorem Pa {t:TypeId} {F0 F1 F2 F3 F4:Field} {fuel:Nat} {cs:List Value} {x:DataW H×List MemPlace} (ht:P.underlying t=some (.struct #[F0,F1,F2,F3,F4])) (h:DataW.trod enc P W 0 sp held fuel t cs=some x) :
  cs.length=P.cellsOf t/\∃n,(∃y,DataW.trod enc P W 0 sp held n F0.type ((cs.drop F0.offset).take (P.cellsOf F0.type))=some y)/\(∃y,DataW.trod enc P W 0 sp held n F1.type ((cs.drop F1.offset).take (P.cellsOf F1.type))=some y)/\(∃y,DataW.trod enc P W 0 sp held n F2.type ((cs.drop F2.offset).take (P.cellsOf F2.type))=some y)/\(∃y,DataW.trod enc P W 0 sp held n F3.type ((cs.drop F3.offset).take (P.cellsOf F3.type))=some y)/\(∃y,DataW.trod enc P W 0 sp held n F4.type ((cs.drop F4.offset).take (P.cellsOf F4.type))=some y):=by
 obtain⟨h1,n,h2⟩:=xT ht h;exact⟨h1,n,h2 0 F0 rfl,h2 1 F1 rfl,h2 2 F2 rfl,h2 3 F3 rfl,h2 4 F4 rfl⟩
theorem Hk {cs:List Value} (h:cs.length=5) :∃p q s u z,cs = [p,q,s,u,z]:=by
 match cs,h with
 | [p,q,s,u,z],_=>exact⟨p,q,s,u,z,rfl⟩
theorem Hj {cs:List Value} (h:cs.length=6) :∃p q s u z y,cs = [p,q,s,u,z,y]:=by
 match cs,h with
 | [p,q,s,u,z,y],_=>exact⟨p,q,s,u,z,y,rfl⟩
end
end Go.Dw
namespace Go.Proofs.YtpjhmeicbjkcdaaGreatDoor
open Go Go.RowKit Go.Dw Go.ChangeShapes Go.WideShapes Go.ChangeAt
def cI:List (String×DataW Unit):=[("math/bits.deBruijn32tab",Rows.laid_math_bits_deBruijn32tab),("math/bits.deBruijn64tab",Rows.laid_math_bits_deBruijn64tab),("internal/strconv.uint64pow10",Rows.laid_internal_strconv_uint64pow10),("unicode/utf8.acceptRanges",Rows.laid_unicode_utf8_acceptRanges),("strconv.ErrRange",Rows.laid_strconv_ErrRange),("strconv.ErrSyntax",Rows.laid_strconv_ErrSyntax),("unicode.White_Space",Rows.laid_unicode_White_Space),("strings.asciiSpace",Rows.laid_strings_asciiSpace),("unicode/utf8.first",Rows.laid_unicode_utf8_first)]
set_option maxRecDepth 100000 in
theorem CN (os:Os) (args:Array Value):((World.laidAll Tryz.prog os cI).forCall (λ_ _=>0) ⟨#[],args,[]⟩).Shaped Tryz.prog:=World.shaped_of_ZipB kr kr
set_option maxRecDepth 100000 in
theorem VK (os:Os) (args:Array Value):laidMetH Tryz.prog cI ((World.laidAll Tryz.prog os cI).forCall (λ_ _=>0) ⟨#[],args,[]⟩).memory:=by
 rw[MakeChecks.laidMetH_plain _ _ _ kr];exact laidMet_laidAll _ kr kr
theorem TP:Tryz.prog.globalNamed "strings.asciiSpace" = some 2:=kr
theorem Dp:(Tryz.prog.globals[2]?).map (·.type)=some 346:=kr
theorem ZD:(Rows.laid_strings_asciiSpace:DataW Unit)=.agg ((z8 256).map λn:Nat=>.lit (.int .u8 (if Lib.isSp (UInt8.ofNat n) then 1 else 0))):=kr
set_option maxRecDepth 100000 in
theorem qV {W:World} (hh:laidMetH Tryz.prog cI W):kU (Hp.whole W):=by
 have h:laidMetH Tryz.prog [("strings.asciiSpace",Rows.laid_strings_asciiSpace)] W:=hh.filter λx=>x.1 == "strings.asciiSpace";rw[MakeChecks.laidMetH_plain _ _ _ kr] at h;obtain⟨ps,⟨g0,t0,cs0,f0,p0,q0,hg0,ht0,hv0,hd0,_,_⟩,_,_⟩:=h;obtain rfl:=Y4 (TP.symm.trans hg0);obtain rfl:=Y4 (Dp.symm.trans ht0);obtain⟨xs,m1,rfl,hx1,hlen,hn,hel⟩:=DataW.trod_array Tryz.underlying346 hd0;have ce:Tryz.prog.cellsOf 5=1:=kr
 simp only[Prod.mk.injEq] at hx1;rw[ZD,DataW.agg.injEq] at hx1;intro j hj;have h0:=hel j hj;rw[ce,E3] at h0;have hjx:j < xs.length:=om
 rw[i6 hjx] at h0;obtain⟨n,e1,e2,_⟩:=DataW.trod_int Tryz.underlying5 h0;have hd:(xs.map (·.1))[j]?=some (.lit (.int .u8 n)):=by
  rw[G7,i6 hjx,e2];rfl
 rw[<-hx1.1,G7,qH hj] at hd;have hn2:(if Lib.isSp (UInt8.ofNat j) then (1:Int) else 0)=n:=by
  simpa using hd
 have hc:=World.var?_cell hg0 hv0 j;have hcj:cs0[j]?=some (.int .u8 n):=by
  have:=congrArg (·[0]?) e1;simp only[aQ,Na (show 0 < 1 by decide),bV,G3,Array.getElem?_toList] at this;exact this
 rw[hcj] at hc;rw[hn2];exact hc
theorem UM:Tryz.prog.globalNamed "internal/strconv.uint64pow10" = some 0:=kr
theorem Eb:(Tryz.prog.globals[0]?).map (·.type)=some 319:=kr
theorem ZU:(Rows.laid_internal_strconv_uint64pow10:DataW Unit)=Lib.tabData .u64 Lib.pow10Tab:=kr
set_option maxRecDepth 100000 in
theorem qW {W:World} (hh:laidMetH Tryz.prog cI W):dT (Hp.whole W):=by
 have h:laidMetH Tryz.prog [("internal/strconv.uint64pow10",Rows.laid_internal_strconv_uint64pow10)] W:=hh.filter λx=>x.1 == "internal/strconv.uint64pow10";rw[MakeChecks.laidMetH_plain _ _ _ kr,ZU] at h;exact dT.of (Lib.tabIs_of_head UM Eb Tryz.underlying319 Tryz.underlying248 kr kr h)
section
variable {H:Type} {enc:TypeId×Value->H} {W:World} {r:Reach} {b0:Nat} {v:Value} {d:DataW H} {ps:List MemPlace} {sp:Nat->Bool} {held:Bool}
end
end Go.Proofs.YtpjhmeicbjkcdaaGreatDoor
namespace Go.Proofs.YtpjhmeicbjkcdaaGreatDoor
open Go Go.RowKit Go.Dw
theorem CU {d:Nat} {h:Hp} {x:Ex} {cs:List Value} (hx:P5 d h x cs) :∃p q r s t,cs = [p,q,r,s,t]:=by
 cases d with
 | zero=>exact hx.elim
 | succ d=>
  obtain⟨op,f,fac,args⟩:=x;obtain⟨a,n,c,a',n',c',h1,_,_⟩:=hx;exact⟨_,_,_,_,_,h1⟩
end Go.Proofs.YtpjhmeicbjkcdaaGreatDoor
namespace Go.Dw
open Go Go.RowKit Go.ChangeShapes Go.WideShapes Go.ChangeAt
section
variable {H:Type} {enc:TypeId×Value->H} {P:Program} {W:World} {sp:Nat->Bool} {held:Bool}
theorem GZ {α:Type} [Inhabited α] {R:uU α} {t e:TypeId} {n:Nat} (ht:P.underlying t=some (.slice e)) (hc:P.cellsOf e=n) (hn:0 < n) {fuel:Nat}
  (hf :∀m cs (y:DataW H×List MemPlace),m < fuel->DataW.trod enc P W 0 sp held m e cs=some y->∃x:α,R (Hp.whole W) x cs)
  {cs:List Value} {y:DataW H×List MemPlace} (h:DataW.trod enc P W 0 sp held fuel t cs=some y) :
  ∃a m c L,cs = [.slice a m c]/\Sl R n (Hp.whole W) a m c L:=by
 rcases DataW.trod_slice ht h with ⟨h0,_⟩ | ⟨a,len,cap,elems,rest,k,hk,rfl,_,hb,hl,_,hlen,hel,_,_⟩
 ·exact⟨none,0,0,[],h0,Sl.nil _ _ _ _ _⟩
 rw[hc] at hel;have each :∀i,i < len->∃(x:α×List Value),R (Hp.whole W) x.1 x.2/\x.2.length=n/\∀j v,x.2[j]?=some v->W.cell? ((a.add (i*n)).add j)=some v:=by
  intro i hi;have h1:=hel i hi;rw[i6 om,Nh] at h1;obtain⟨cs',hcs,hy⟩:=h1;obtain⟨x,hx⟩:=hf k _ _ om hy;unfold World.cells? at hcs;rw[if_pos (f8 _)] at hcs;obtain⟨g1,g2⟩:=yX hcs;rw[L9] at g1;refine⟨(x,cs'),hx,g1,λj v hj=>?_⟩;obtain⟨q,hq,hv⟩:=g2 j v hj;have hjn:j < n:=by rw[<-g1];exact (q9.1 hj).1
  rw[qH hjn] at hq;cases hq;exact hv
 obtain⟨g,hg⟩ :∃g:Nat->α×List Value,∀i,i < len->R (Hp.whole W) (g i).1 (g i).2/\(g i).2.length=n/\∀j v,(g i).2[j]?=some v->W.cell? ((a.add (i*n)).add j)=some v:=by
  refine⟨λi=>if h:i < len then (each i h).choose else (default,[]),λi hi=>?_⟩;simp only[hi,↓reduceDIte];exact (each i hi).choose_spec
 refine⟨some a,len,cap,(z8 len).map λi=>(g i).1,rfl,sQ,hl,λi hi=>?_⟩;simp only[l7,L9] at hi;obtain⟨b,off,rfl⟩ :∃b off,a=⟨b,off,none⟩:=by
  obtain⟨_,h1,h2⟩:=hg 0 om;have:=h2 0 _ (i6 om);rw[Z4] at this;simp only[Addr.add,↓reduceIte] at this;exact DA this
 obtain⟨h0,h1,h2⟩:=hg i hi;refine⟨b,off,(g i).2,rfl,h1,by simpa using h0,λj v hj=>?_⟩;have:=h2 j v hj;rw[Addr.add_mk,Addr.add_mk] at this;exact this
theorem PI {t:TypeId} {fs:Array Field} {fuel:Nat} {cs:List Value} {x:DataW H×List MemPlace} (ht:P.underlying t=some (.struct fs)) (h:DataW.trod enc P W 0 sp held fuel t cs=some x) :
  cs.length=P.cellsOf t/\∃n,fuel=n+1/\∀(i:Nat) (f:Field),fs[i]?=some f->∃y,DataW.trod enc P W 0 sp held n f.type ((cs.drop f.offset).take (P.cellsOf f.type))=some y:=by
 obtain⟨xs,n,hn,rfl,hl,hlen,hf⟩:=DataW.trod_struct ht h;refine⟨hl,n,hn,λi f hi=>?_⟩;have h1:=hf i f hi;have hi':i < xs.length:=by rw[hlen];exact (Array.getElem?_eq_some_iff.1 hi).1
 rw[i6 hi'] at h1;exact⟨_,h1⟩
theorem TD {t:TypeId} {F0 F1 F2 F3:Field} {fuel:Nat} {cs:List Value} {x:DataW H×List MemPlace} (ht:P.underlying t=some (.struct #[F0,F1,F2,F3])) (h:DataW.trod enc P W 0 sp held fuel t cs=some x) :
  cs.length=P.cellsOf t/\∃n,fuel=n+1/\(∃y,DataW.trod enc P W 0 sp held n F0.type ((cs.drop F0.offset).take (P.cellsOf F0.type))=some y)/\(∃y,DataW.trod enc P W 0 sp held n F1.type ((cs.drop F1.offset).take (P.cellsOf F1.type))=some y)/\(∃y,DataW.trod enc P W 0 sp held n F2.type ((cs.drop F2.offset).take (P.cellsOf F2.type))=some y)/\(∃y,DataW.trod enc P W 0 sp held n F3.type ((cs.drop F3.offset).take (P.cellsOf F3.type))=some y):=by
 obtain⟨h1,n,h0,h2⟩:=PI ht h;exact⟨h1,n,h0,h2 0 F0 rfl,h2 1 F1 rfl,h2 2 F2 rfl,h2 3 F3 rfl⟩
theorem Oi {t e:TypeId} {n:Nat} (ht:P.underlying t=some (.array n e)) {fuel:Nat} {cs:List Value} {y:DataW H×List MemPlace} (h:DataW.trod enc P W 0 sp held fuel t cs=some y) :
  cs.length=P.cellsOf t/\∃m,∀i,i < n->∃z,DataW.trod enc P W 0 sp held m e ((cs.drop (i*P.cellsOf e)).take (P.cellsOf e))=some z:=by
 obtain⟨xs,m,_,_,hl,hn,hel⟩:=DataW.trod_array ht h;refine⟨hl,m,λi hi=>?_⟩;have h1:=hel i hi;rw[i6 om] at h1;exact⟨_,h1⟩
theorem BW {t:TypeId} {fuel:Nat} {cs:List Value} {x:DataW H×List MemPlace} (ht:P.underlying t=some .string) (h:DataW.trod enc P W 0 sp held fuel t cs=some x) :∃s:List UInt8,cs = [sv s]:=by
 obtain⟨s,e,_⟩:=DataW.trod_string ht h;exact⟨s.data.toList,e⟩
theorem Ri {cs:List Value} (h:cs.length=8) :∃p q s u z y v w,cs = [p,q,s,u,z,y,v,w]:=by
 match cs,h with
 | [p,q,s,u,z,y,v,w],_=>exact⟨p,q,s,u,z,y,v,w,rfl⟩
theorem Rh {cs:List Value} (h:cs.length=9) :∃p q s u z y v w x,cs = [p,q,s,u,z,y,v,w,x]:=by
 match cs,h with
 | [p,q,s,u,z,y,v,w,x],_=>exact⟨p,q,s,u,z,y,v,w,x,rfl⟩
theorem Rk {cs:List Value} (h:cs.length=1) :∃p,cs = [p]:=by
 match cs,h with
 | [p],_=>exact⟨p,rfl⟩
end
end Go.Dw
namespace Go.Proofs.YtpjhmeicbjkcdaaGreatDoor
open Go Go.RowKit Go.Dw Go.ChangeShapes Go.WideShapes Go.ChangeAt
section
variable {H:Type} {enc:TypeId×Value->H} {W:World} {r:Reach} {b0:Nat} {v:Value} {d:DataW H} {ps:List MemPlace} {sp:Nat->Bool} {held:Bool}
theorem XM:Tryz.prog.cellsOf 3=1:=kr
theorem Ih:Tryz.prog.cellsOf 9=1:=kr
theorem XL:Tryz.prog.cellsOf 38=1:=kr
theorem Cp:Tryz.prog.cellsOf 80=2:=kr
theorem Fk:Tryz.prog.cellsOf 39=1:=kr
theorem Cq:Tryz.prog.cellsOf 41=2:=kr
theorem Im:Tryz.prog.cellsOf 42=1:=kr
theorem Io:Tryz.prog.cellsOf 44=5:=kr
theorem Cr:Tryz.prog.cellsOf 48=4:=kr
theorem JU {fuel:Nat} {cs:List Value} {y:DataW H×List MemPlace} (h:DataW.trod enc Tryz.prog W 0 sp held fuel 38 cs=some y) :∃s:e8,cs = [sv s]:=BW Tryz.underlying38 h
theorem Dg {fuel:Nat} {cs:List Value} {y:DataW H×List MemPlace} (h:DataW.trod enc Tryz.prog W 0 sp held fuel 9 cs=some y) :∃s:e8,cs = [sv s]:=BW Tryz.underlying9 h
theorem xW {fuel:Nat} {cs:List Value} {y:DataW H×List MemPlace} (h:DataW.trod enc Tryz.prog W 0 sp held fuel 3 cs=some y) :∃z:Int,cs = [iQ z]:=by
 obtain⟨z,e,_⟩:=DataW.trod_int Tryz.underlying3 h;exact⟨z,e⟩
set_option maxRecDepth 100000 in
theorem Df {fuel:Nat} {cs:List Value} {y:DataW H×List MemPlace} (h:DataW.trod enc Tryz.prog W 0 sp held fuel 80 cs=some y) :∃x:JL,B0 U0 (Hp.whole W) x cs:=by
 obtain⟨hl,n,⟨y0,k0⟩,⟨y1,k1⟩⟩:=BV Tryz.underlying80 h;dsimp only at k0 k1;rw[Cp] at hl;obtain⟨p0,p1,rfl⟩:=Hm hl;rw[XM] at k0;rw[XL] at k1;obtain⟨z,e0⟩:=xW k0;obtain⟨s,e1⟩:=JU k1;simp at e0 e1;exact⟨(z,s),by rw[e0,e1];rfl⟩
set_option maxRecDepth 100000 in
theorem Dh {fuel:Nat} {cs:List Value} {y:DataW H×List MemPlace} (h:DataW.trod enc Tryz.prog W 0 sp held fuel 41 cs=some y) :∃f:gG,Kr (Hp.whole W) f cs:=by
 obtain⟨hl,n,⟨y0,k0⟩,⟨y1,k1⟩⟩:=BV Tryz.underlying41 h;dsimp only at k0 k1;rw[Cq] at hl;obtain⟨p0,p1,rfl⟩:=Hm hl;rw[XL] at k0;rw[Fk] at k1;obtain⟨s,e0⟩:=JU k0;obtain⟨a,m,c,L,e1,hs⟩:=V4 (α:=JL) (R:=B0 U0) Tryz.underlying39 Cp dc (λ_ _ _ h=>Df h) k1;simp at e0 e1;exact⟨(s,L),a,m,c,by rw[e0,e1],hs⟩
instance:Inhabited Ex:=⟨.mk 0 ([],[]) [] []⟩
set_option maxRecDepth 100000 in
theorem Gs :∀(fuel:Nat) (cs:List Value) (y:DataW H×List MemPlace),DataW.trod enc Tryz.prog W 0 sp held fuel 44 cs=some y->∃x:Ex,P5 fuel (Hp.whole W) x cs:=by
 intro fuel;induction fuel using gY with
 | ind fuel ih=>
 intro cs y h;obtain⟨hl,n,rfl,⟨y0,k0⟩,⟨y1,k1⟩,⟨y2,k2⟩,⟨y3,k3⟩⟩:=TD Tryz.underlying44 h;dsimp only at k0 k1 k2 k3;rw[Io] at hl;obtain⟨p0,p1,p2,p3,p4,rfl⟩:=Hk hl;rw[XM] at k0;rw[Cq] at k1;rw[XL] at k2;rw[Im] at k3;obtain⟨op,e0⟩:=xW k0;obtain⟨f,a,m,c,e1,hs⟩:=Dh k1;obtain⟨fac,e2⟩:=JU k2;obtain⟨a1,m1,c1,L,e3,hs1⟩:=GZ (α:=Ex) (R:=P5 n) Tryz.underlying42 Io dc (λm cs y hm h=>by
  obtain⟨x,hx⟩:=ih m om cs y h;exact⟨x,Az om hx⟩) k3
 simp at e0 e1 e2 e3;exact⟨.mk op f fac L,a,m,c,a1,m1,c1,by rw[e0,e1.1,e1.2,e2,e3],hs,hs1⟩
set_option maxRecDepth 100000 in
theorem Di {fuel:Nat} {cs:List Value} {y:DataW H×List MemPlace} (h:DataW.trod enc Tryz.prog W 0 sp held fuel 48 cs=some y) :∃x:S1,B0 O1 (Hp.whole W) x cs:=by
 obtain⟨hl,n,⟨y0,k0⟩,⟨y1,k1⟩,⟨y2,k2⟩,⟨y3,k3⟩⟩:=PK Tryz.underlying48 h;dsimp only at k0 k1 k2 k3;rw[Cr] at hl;obtain⟨p0,p1,p2,p3,rfl⟩:=Hl hl;rw[Ih] at k0;rw[XM] at k1 k2 k3;obtain⟨s,e0⟩:=Dg k0;obtain⟨z1,e1⟩:=xW k1;obtain⟨z2,e2⟩:=xW k2;obtain⟨z3,e3⟩:=xW k3;simp at e0 e1 e2 e3;exact⟨(s,z1,z2,z3),by rw[e0,e1,e2,e3];rfl⟩
end
end Go.Proofs.YtpjhmeicbjkcdaaGreatDoor
namespace Go.Proofs.YtpjhmeicbjkcdaaGreatDoor
open Go Go.RowKit Go.Dw
def iT (s:e8):Bool:=decide (s.length<=80) || (decide (400<=s.length) && decide (s.length<=402))
def uD (f:gG):Bool:=decide (f.2.length<=66) && (iT f.1 && f.2.all λt=>iT t.2)
theorem DS {s:e8} (h:iT s=true):s.length < 1000000:=by
 unfold iT at h;simp only[U8,k6,decide_eq_true_eq] at h;omega
theorem Fa {f:gG} (h:uD f=true):AR f:=by
 unfold uD at h;simp only[k6,decide_eq_true_eq,z6] at h;exact⟨DS h.2.1,om,λt ht=>DS (h.2.2 t ht)⟩
theorem mC (s:e8) (w:World):j6 Tryz.prog 29 #[sv s] w (v7 w (.bool (iT s))):=by
 have hl:(bs s).size=s.length:=B6 s;unfold iT;refine enterZ (cx 16) [sv s] [.tmp 2] Tryz.func29 ?_;refine d8 (λh1=>?_) λh1=>?_
 ·rw[hl] at h1;rw[decide_eq_true (show s.length<=80 by omega)];exact⟨[],⟨rfl,rfl⟩,pk [0]⟩
 rw[hl] at h1;rw[decide_eq_false (show ¬ s.length<=80 by omega),AV];refine d8 (λh2=>?_) λh2=>?_
 ·rw[hl] at h2;rw[decide_eq_true (show 400<=s.length by omega),F6];exact⟨[],⟨congrArg Value.bool (by rw[hl,decide_eq_decide];omega),rfl⟩,pk [0]⟩
 ·rw[hl] at h2;rw[decide_eq_false (show ¬ 400<=s.length by omega),U4];exact⟨[],⟨rfl,rfl⟩,pk [0]⟩
theorem rT (s:e8) (hs:s.length < 1000000) (w:World):j6 Tryz.prog 104 #[sv s] w (v7 w (iQ (I7 s))):=by
 refine enterZ (cx 11) [sv s] [.tmp 2] Tryz.func104 ?_;refine call (λw' hm=>R3 s hs w') ?_;rintro _ _ ⟨g,rfl,n1,a1,k1,c1,a2,k2,c2,x,y,rfl,h⟩;intro b3;exact⟨[],⟨rfl,rfl⟩,pk [0]⟩
set_option maxRecDepth 10000 in
theorem BG {a:Option Addr} {n c:Nat} {f:gG} (w:World) (hT:Sl (B0 U0) 2 (Hp.whole w) a n c f.2) :
  j6 Tryz.prog 30 #[.agg #[sv f.1,.slice a n c]] w (v7 w (.bool (uD f))):=by
 obtain⟨fc,L⟩:=f;have hlen:=hT.len;dsimp only at hT hlen ⊢;refine enterZ (cx 29) [.agg #[sv fc,.slice a n c]] [.tmp 2] Tryz.func30 ?_;intro b1;refine d8 (λh1=>?_) λh1=>?_
 ·refine⟨[],⟨congrArg Value.bool ?_,rfl⟩,pk [0]⟩;unfold uD;rw[decide_eq_false (show ¬ (fc,L).2.length<=66 by dsimp only;omega)];rfl
 refine k7 _ (λw' hm=>mC fc w') ?_;refine s8 (λh2=>?_) λh2=>?_
 ·refine⟨[],⟨congrArg Value.bool ?_,rfl⟩,pk [0]⟩;unfold uD;rw[show iT (fc,L).1=false by simpa using h2,U4,uV]
 have h2:iT fc=true:=by simpa using h2
 refine u6.mk Nat (λk=>[(1,.bx 1 0),(3,.v (iQ k))]) (λ_=>[.hp (Hp.whole w),.box b1 [sv fc,.slice a n c] 41])
  (λk=>k<=n/\∀j (hj:j < L.length),j < k->iT L[j].2=true) (λk=>n - k) 0 ⟨f8 _,λ_ _ h=>absurd h (H5 _)⟩ (v6.mk (λ_ _ h=>h) rfl rfl) ?_
 rintro k ⟨hk,ho⟩;refine d8 (λh3=>?_) λh3=>?_
 ·have hkl:k < L.length:=om
  refine I1 cQ (e:=80) rfl hT k rfl hkl λb9 o9 cs hcs hR hcell4=>?_;subst hR;refine lQ 0 (hcell4 1 _ rfl) ?_;refine k7 _ (λw' hm=>mC _ w') ?_;refine s8 (λh5=>?_) λh5=>?_
  ·refine⟨[],⟨congrArg Value.bool ?_,rfl⟩,pk [0]⟩;unfold uD;have:(L.all λt=>iT t.2)=false:=by
    rw[List.all_eq_false];exact⟨L[k],j0 hkl,by simpa using h5⟩
   rw[show ((fc,L).2.all λt=>iT t.2)=false from this,uV,uV]
  ·refine nwo ?_;refine⟨k+1,⟨om,λj hj hjk=>?_⟩,om,v6.mk (λ_ _ h=>h) rfl rfl⟩;by_cases e:j=k
   ·subst e;simpa using h5
   ·exact ho j hj om
 ·refine⟨[],⟨congrArg Value.bool ?_,rfl⟩,pk [0]⟩;unfold uD;have:(L.all λt=>iT t.2)=true:=by
   rw[z6];intro t ht;obtain⟨j,hj,rfl⟩:=Q1.1 ht;exact ho j hj om
  rw[show ((fc,L).2.all λt=>iT t.2)=true from this,show iT (fc,L).1=true from h2,decide_eq_true (show (fc,L).2.length<=66 by dsimp only;omega)];rfl
end Go.Proofs.YtpjhmeicbjkcdaaGreatDoor
namespace Go.Proofs.YtpjhmeicbjkcdaaGreatDoor
open Go Go.RowKit Go.Dw
theorem Gw {x:Nat} {n:Bool}:(if x=0 then (0:Int) else if n=true then -1 else 1)=0↔x=0:=by
 by_cases h:x=0
 ·simp[h]
 ·rw[if_neg h];cases n <;> simp[h]
set_option maxHeartbeats 1000000 in
theorem LG {a:Option Addr} {n c:Nat} {f:gG} (dims:Nat) (w:World) (hT:Sl (B0 U0) 2 (Hp.whole w) a n c f.2) (hf:AR f) (_hd:dims < 1000000) :
  j6 Tryz.prog 106 #[iQ dims,.agg #[sv f.1,.slice a n c]] w (v7 w (iQ (jD dims f))):=by
 obtain⟨fc,L⟩:=f;obtain⟨hf1,hf2,hf3⟩:=hf;have hlen:=hT.len;dsimp only at hT hf1 hf2 hf3 hlen ⊢;have hE:jD dims (fc,L)=if I7 fc≠0 then I7 fc else if 64 < L.length then 6 else mO (lJ dims L) L.length:=rfl
 refine enterZ (cx 67) [iQ dims,.agg #[sv fc,.slice a n c]] [.tmp 4] Tryz.func106 ?_;intro b2;refine k7 _ (λw' hm=>rT fc hf1 w') ?_;refine d8 (λh1=>?_) λh1=>?_
 ·rw[hE,if_pos h1];exact⟨[],⟨rfl,rfl⟩,pk [0]⟩
 rw[if_neg h1] at hE;refine d8 (λh2=>?_) λh2=>?_
 ·rw[hE,if_pos om];exact⟨[],⟨rfl,rfl⟩,pk [0]⟩
 rw[if_neg om] at hE;refine u6.mk Nat (λk=>[(0,.v (iQ dims)),(3,.bx 1 0),(6,.v (iQ k))]) (λ_=>[.hp (Hp.whole w),.box b2 [sv fc,.slice a n c] 41])
  (λk=>k<=n/\∀j,j < k->lJ dims L j=0) (λk=>n - k) 0 ⟨f8 _,λj hj=>absurd hj (H5 _)⟩ (v6.mk (λ_ _ h=>h) rfl rfl) ?_
 rintro k ⟨hk,hz⟩;dsimp only at hk hz ⊢;refine d8 (λh3=>?_) λh3=>?_
 ·have hkn:k < L.length:=om
  obtain⟨t,ht⟩ :∃t,t=L[k]:=⟨_,rfl⟩
  have htm:t∈L:=by rw[ht];exact j0 hkn
  have hts:t.2.length < 1000000:=hf3 t htm;have hgd:L.getD k (0,[])=t:=by rw[i7,i6 hkn,ht];rfl
  have hK:lJ dims L k=if t.1 < 0\/(dims:Int)<=t.1 then 10 else if 0 < k/\t.1<=(L.getD (k - 1) (0,[])).1 then 8 else if I7 t.2≠0 then I7 t.2 else if t.2 = [48] then 19 else 0:=by
   unfold lJ;rw[hgd]
  have hout:lJ dims L k≠0->jD dims (fc,L)=lJ dims L k:=λg=>by rw[hE,nM hz g hkn]
  obtain⟨t1,t2⟩:=t;dsimp only at hts hK;refine I1 cQ (e:=80) rfl hT k rfl hkn λb9 o9 cs hcs hR hcell4=>?_;rw[<-ht] at hR;subst hR;refine T7 cQ (i:=0) rfl hcell4 rfl ?_;intro b7;refine d8 (λh5=>?_) λh5=>?_
  ·rw[hout (by rw[hK,if_pos (Or.inl h5)];decide),hK,if_pos (Or.inl h5)];exact⟨[],⟨rfl,rfl⟩,pk [0]⟩
  refine d8 (λh6=>?_) λh6=>?_
  ·rw[hout (by rw[hK,if_pos (Or.inr h6)];decide),hK,if_pos (Or.inr h6)];exact⟨[],⟨rfl,rfl⟩,pk [0]⟩
  rw[if_neg om] at hK;refine s6.cut Bool (λq=>[(0,.v (iQ dims)),(3,.bx 1 0),(6,.v (iQ k)),(7,.bx 2 0),(54,.v (.bool q))]) (λ_=>[.hp (Hp.whole w),.box b2 [sv fc,.slice a n c] 41,.box b7 [iQ t1,sv t2] 80]) (λq=>q=true↔(0 < k/\t1<=(L.getD (k - 1) (0,[])).1)) (s6.by_order cQ (.take 0 <| .take 1 <| .take 2 <| .take 3 <| .take 4 <| .take 5 <| .take 6 <| .take 7 <| .take 8 <| .take 9 <| .take 10 <| .take 11 <| .take 12 <| .take 13 <| .done) kr ?_) ?_
  ·refine d8 (λh7=>?_) λh7=>?_
   ·have hk0:0 < k:=om
    have hk1:k - 1 < L.length:=om
    obtain⟨u,hu⟩ :∃u,u=L[k - 1]:=⟨_,rfl⟩
    have hgu:L.getD (k - 1) (0,[])=u:=by rw[i7,i6 hk1,hu];rfl
    refine nwo ?_;refine I1 cQ (e:=80) rfl hT (k - 1) om hk1 λb9 o9 cs hcs hR hcell8=>?_;rw[<-hu] at hR;obtain⟨u1,u2⟩:=u;subst hR;refine lQ 0 (hcell8 0 _ rfl) ?_;refine⟨decide (t1<=u1),?_,v6.mk (pj [0,1,2]) rfl rfl⟩;rw[hgu,decide_eq_true_eq];exact⟨λg=>⟨hk0,g⟩,λg=>g.2⟩
   ·refine⟨false,?_,v6.mk (pj [0,1,2]) rfl rfl⟩;exact⟨λg=>(H0 g).elim,λg=>absurd g.1 om⟩
  rintro q hq hsat;dsimp only;refine s8 (λh9=>?_) λh9=>?_
  ·have h9:=hq.1 h9;rw[hout (by rw[hK,if_pos h9];decide),hK,if_pos h9];exact⟨[],⟨rfl,rfl⟩,pk [0]⟩
  rw[if_neg (λg=>by rw[hq.2 g] at h9;cases h9)] at hK;refine call (λw' hm=>R3 t2 hts w') ?_;rintro _ _ ⟨g,rfl,n1,a1,k1,c1,a2,k2,c2,x,y,rfl,m1,m2,hp,h0,hnz⟩;intro b8;refine d8 (λh10=>?_) λh10=>?_
  ·have h10:I7 t2≠0:=h10;rw[if_pos h10] at hK;rw[hout (by rw[hK];exact h10),hK];exact⟨[],⟨rfl,rfl⟩,pk [0]⟩
  have h10 : ¬ I7 t2≠0:=h10;rw[if_neg h10] at hK;have hx:x=0↔t2 = [48]:=by
   rw[(h0 (l9.1 h10)).2.1];exact (VA (l9.1 h10)).symm
  refine k7 _ (λw' hm=>qA w' (m1.mono (hm 3 _ rfl).whole)) ?_;refine d8 (λh11=>?_) λh11=>?_
  ·have h11:t2 = [48]:=hx.1 (Gw.1 h11);rw[if_pos h11] at hK;rw[hout (by rw[hK];decide),hK];exact⟨[],⟨rfl,rfl⟩,pk [0]⟩
  have h11 : ¬ t2 = [48]:=λg=>h11 (Gw.2 (hx.2 g));rw[if_neg h11] at hK;refine nwo ?_;exact⟨k+1,⟨om,λj hj=>(K8 j k).elim (hz j) (λg=>by rw[show j=k by omega];exact hK)⟩,by (try dsimp only);omega,v6.mk (pj [0,1]) rfl rfl⟩
 ·rw[hE,V8.2 (λj hj=>hz j om)];exact⟨[],⟨rfl,rfl⟩,pk [0]⟩
end Go.Proofs.YtpjhmeicbjkcdaaGreatDoor
namespace Go.Proofs.YtpjhmeicbjkcdaaGreatDoor
open Go Go.RowKit Go.Dw
theorem U7 {n:Int} {d k:Nat} {op:Int} {f:gG} {fac:e8} {args:List Ex} {z:Int} (hk : ¬ 64<=k) (hz:bH n op f fac args.length=z) (h0:z≠0):M9 n (d+1) k (.mk op f fac args)=(z,k+1):=by
 rw[zS,if_neg hk,if_pos (by rw[hz];exact h0),hz]
theorem xE {n:Int} {d k:Nat} {op:Int} {f:gG} {fac:e8} {args:List Ex} (hk : ¬ 64<=k) (hz:bH n op f fac args.length=0):M9 n (d+1) k (.mk op f fac args)=Z2 (M9 n d) (k+1) args:=by
 rw[zS,if_neg hk,if_neg (by rw[hz];exact λh=>h rfl)]
def XW (dims d l:Nat) (x:Ex) (v:Value) (cs:List Value):Prop:=v=iQ (M9 dims d (64 - l) x).1/\∃l':Nat,cs = [iQ l']/\l'<=64/\((M9 dims d (64 - l) x).1=0->l'=64 - (M9 dims d (64 - l) x).2)
theorem V6 {dims d l l':Nat} {x:Ex} {z:Int} {k:Nat} (h:M9 dims d (64 - l) x=(z,k)) (hz:z≠0) (hl:l'<=64):XW dims d l x (iQ z) [iQ l']:=⟨by rw[h],l',rfl,hl,λe=>by rw[h] at e;exact absurd e hz⟩
theorem LN {dims d l l' k:Nat} {x:Ex} (h:M9 dims d (64 - l) x=(0,k)) (hl:l'<=64) (hk:l'=64 - k:=by omega):XW dims d l x (iQ 0) [iQ l']:=⟨by rw[h],l',rfl,hl,λ_=>by rw[h];exact hk⟩
theorem VN {dims d l p:Nat} {op:Int} {f:gG} {fac:e8} {args:List Ex} {z:Int} (hk : ¬ 64<=64 - l) (ha:args = []) (hz:bH dims op f fac args.length=z) (hp:l=p+1) (hl:l<=64):XW dims (d+1) l (.mk op f fac args) (iQ z) [iQ p]:=by
 by_cases h:z=0
 ·subst h;have h1:M9 dims (d+1) (64 - l) (.mk op f fac args)=(0,64 - l+1):=by rw[xE hk hz,ha,jG]
  exact⟨by rw[h1],p,rfl,om,λ_=>by rw[h1];dsimp only;omega⟩
 ·exact V6 (U7 hk hz h) h om
theorem zG {dims d l l':Nat} {x:Ex} {r:Int×Nat} (h:M9 dims d (64 - l) x=r) (hz:r.1≠0) (hl:l'<=64):XW dims d l x (iQ r.1) [iQ l']:=by
 subst h;exact⟨rfl,l',rfl,hl,λe=>absurd e hz⟩
theorem OV {g:Nat->Ex->Int×Nat} (hg :∀k x,k<=64->(g k x).2<=64) :∀(L:List Ex) (k:Nat),k<=64->(Z2 g k L).2<=64
 | [],k,hk=>by rw[jG];exact hk
 | x::r,k,hk=>by
  rw[jH];split
  ·exact hg k x hk
  ·exact OV hg r _ (hg k x hk)
theorem xD (n:Int) :∀(d k:Nat) (x:Ex),k<=64->(M9 n d k x).2<=64
 | 0,k,x,hk=>by rw[LY];exact hk
 | d+1,k,.mk op f fac args,hk=>by
  rw[zS];split
  ·exact hk
  ·split
   ·dsimp only;omega
   ·exact OV (xD n d) args _ om
theorem rS {n op:Int} {f:gG} {fac:e8} {k:Nat} {z:Int} (h:bH n op f fac k=z:=by
 first
  | exact yT om
  | (rw[LB om om];first | (rw[if_pos (Or.inl om)];done) | (rw[if_pos (Or.inr (by assumption))];done) | (rw[if_neg (by rintro (g | g) <;> first | omega | contradiction)];done))
  | (rw[LA om om];first
    | (rw[if_pos (Or.inl (Or.inl (by assumption)))];done)
    | (rw[if_pos (Or.inl (Or.inr om))];done)
    | (rw[if_pos (Or.inr ⟨by assumption,by assumption⟩)];done)
    | (rw[if_neg (by rintro ((g | g) | ⟨g,g2⟩) <;> first | omega | contradiction)];first
      | (rw[if_pos om];done)
      | (rw[if_neg om,if_neg om];done)
      | (rw[if_neg om,if_pos om];first | done | (exact l9.1 (by assumption)))))):bH n op f fac k=z:=h
set_option maxRecDepth 20000 in
set_option maxHeartbeats 4000000 in
theorem LI {bv dims:Nat} (hd:dims < 1000000) :∀(d e l lv:Nat) (x:Ex) (cs:List Value) (w:World),lv+d=9->l<=64->AS x->(Ch.box bv [iQ l] 3).h.In w->P5 e ((Hp.whole w).minus (Ch.box bv [iQ l] 3).h) x cs->
  j6 Tryz.prog 66 #[iQ dims,.agg cs.toArray,iQ lv,pQ bv] w
   (O6 w (Ch.box bv [iQ l] 3).h λv h' cs2=>cs2 = []/\∃cs',(Ch.box bv cs' 3).h.le h'/\XW dims d l x v cs'):=by
 intro d;induction d with
 | zero=>
  intro e l lv x cs w hlv hl hx hin he;match e,he with
  | e+1,he=>
  obtain⟨op,f,fac,args⟩:=x;obtain⟨a,n,c,a1,n1,c1,rfl,hf,ha⟩:=he;have hE:=LY dims (64 - l) (.mk op f fac args);obtain⟨c0,hc0⟩ :∃c0,c0=(Hp.whole w).minus (Ch.box bv [iQ l] 3).h:=⟨_,rfl⟩
  have ok0:Ok w [.hp c0,.box bv [iQ l] 3] w:=by rw[hc0];exact Ok.same (s:=[.hp ((Hp.whole w).minus (Ch.box bv [iQ l] 3).h),.hp (Ch.box bv [iQ l] 3).h]) (i:=1) (c:=.hp (Ch.box bv [iQ l] 3).h) (d:=.box bv [iQ l] 3) rfl rfl (Ok.start2 w hin)
  refine enterMSZ (cx 120) [iQ dims,.agg #[iQ op,sv f.1,.slice a n c,sv fac,.slice a1 n1 c1],iQ lv,pQ bv] ok0 [.tmp 8] Tryz.func66 ?_;rw[<-hc0] at hf ha ⊢;intro b5;refine d8 (λh1=>?_) (λh1=>by omega);exact⟨(Ch.box bv [iQ l] 3).h,[],⟨rfl,_,λ_ _ h=>h,V6 hE dc hl⟩,λw' h=>(h.pick [0,1] rfl rfl).boxHp⟩
 | succ d ih=>
  intro e l lv x cs w hlv hl hx hin he;match e,he with
  | e+1,he=>
  obtain⟨op,f,fac,args⟩:=x;obtain⟨a,n,c,a1,n1,c1,rfl,hf,ha⟩:=he;cases hx with
  | mk hxf hxs hxn hxa=>
  have hla:=ha.len;have hlf:=hf.len;obtain⟨c0,hc0⟩ :∃c0,c0=(Hp.whole w).minus (Ch.box bv [iQ l] 3).h:=⟨_,rfl⟩
  have ok0:Ok w [.hp c0,.box bv [iQ l] 3] w:=by rw[hc0];exact Ok.same (s:=[.hp ((Hp.whole w).minus (Ch.box bv [iQ l] 3).h),.hp (Ch.box bv [iQ l] 3).h]) (i:=1) (c:=.hp (Ch.box bv [iQ l] 3).h) (d:=.box bv [iQ l] 3) rfl rfl (Ok.start2 w hin)
  refine enterMSZ (cx 120) [iQ dims,.agg #[iQ op,sv f.1,.slice a n c,sv fac,.slice a1 n1 c1],iQ lv,pQ bv] ok0 [.tmp 8] Tryz.func66 ?_;rw[<-hc0] at hf ha ⊢;intro b5;refine d8 (λh1=>by omega) λh1=>?_;refine lR 1 0 ?_;refine d8 (λh2=>?_) λh2=>?_
  ·have hE:M9 dims (d+1) (64 - l) (.mk op f fac args)=(6,64 - l):=by rw[zS,if_pos om]
   exact⟨(Ch.box bv [iQ l] 3).h,[],⟨rfl,_,λ_ _ h=>h,V6 hE dc hl⟩,λw' h=>(h.pick [0,1] rfl rfl).boxHp⟩
  have hk : ¬ 64<=64 - l:=om
  refine d8 (λh3=>?_) λh3=>?_
  ·exact⟨(Ch.box bv [iQ l] 3).h,[],⟨rfl,_,λ_ _ h=>h,V6 (U7 hk (yT (.inl h3)) dc) dc hl⟩,λw' h=>(h.pick [0,1] rfl rfl).boxHp⟩
  refine d8 (λh4=>?_) λh4=>?_
  ·exact⟨(Ch.box bv [iQ l] 3).h,[],⟨rfl,_,λ_ _ h=>h,V6 (U7 hk (yT (.inr h4)) dc) dc hl⟩,λw' h=>(h.pick [0,1] rfl rfl).boxHp⟩
  obtain⟨p,hp⟩ :∃p:Nat,l=p+1:=⟨l - 1,om⟩
  refine o7 λq' hq'=>?_;refine lR 1 0 ?_;refine tY (y:=(p:Int)) om om om ?_;refine fI cQ (i:=1) (j:=0) rfl rfl rfl sQ rfl rfl ?_;apply hq';refine X9 [.hp c0,.box bv [iQ p] 3,.box b5 [iQ op,sv f.1,.slice a n c,sv fac,.slice a1 n1 c1] 44] rfl ?_;have hl1:p<=64:=om
  refine d8 (λh5=>?_) λh5=>?_
  ·refine o7 λq' hq'=>?_;refine d8 (λh6=>?_) λh6=>?_
   ·apply hq';exact⟨(Ch.box bv [iQ p] 3).h,[],⟨rfl,_,λ_ _ h=>h,V6 (U7 hk rS dc) dc hl1⟩,λw' h=>(h.pick [0,1] rfl rfl).boxHp⟩
   refine cG (b:=[]) ?_;apply hq';refine d8 (λh7=>?_) λh7=>?_
   ·exact⟨(Ch.box bv [iQ p] 3).h,[],⟨rfl,_,λ_ _ h=>h,V6 (U7 hk rS dc) dc hl1⟩,λw' h=>(h.pick [0,1] rfl rfl).boxHp⟩
   refine k7 _ (λw' hm=>LG dims w' (hf.mono (j7 _) (hm 0 _ rfl).whole) hxf hd) ?_;exact⟨(Ch.box bv [iQ p] 3).h,[],⟨rfl,_,λ_ _ h=>h,VN hk (M0.1 om) rS hp hl⟩,λw' h=>(h.pick [0,1] rfl rfl).boxHp⟩
  refine o7 λq' hq'=>?_;refine cG (b:=[]) ?_;refine d8 (λh8=>?_) λh8=>?_
  ·apply hq';exact⟨(Ch.box bv [iQ p] 3).h,[],⟨rfl,_,λ_ _ h=>h,V6 (U7 hk rS dc) dc hl1⟩,λw' h=>(h.pick [0,1] rfl rfl).boxHp⟩
  refine d8 (λh9=>?_) λh9=>?_
  ·apply hq';exact⟨(Ch.box bv [iQ p] 3).h,[],⟨rfl,_,λ_ _ h=>h,V6 (U7 hk rS dc) dc hl1⟩,λw' h=>(h.pick [0,1] rfl rfl).boxHp⟩
  refine d8 (λh10=>?_) λh10=>?_
  ·refine cG (b:=[]) ?_;apply hq';refine d8 (λh11=>?_) λh11=>?_
   ·exact⟨(Ch.box bv [iQ p] 3).h,[],⟨rfl,_,λ_ _ h=>h,V6 (U7 hk rS dc) dc hl1⟩,λw' h=>(h.pick [0,1] rfl rfl).boxHp⟩
   refine o7 λq' hq'=>?_;refine d8 (λh12=>?_) λh12=>?_
   ·apply hq';exact⟨(Ch.box bv [iQ p] 3).h,[],⟨rfl,_,λ_ _ h=>h,V6 (U7 hk rS dc) dc hl1⟩,λw' h=>(h.pick [0,1] rfl rfl).boxHp⟩
   refine d8 (λh13=>by omega) λh13=>?_;refine d8 (λh14=>?_) λh14=>?_
   ·apply hq';refine d8 (λh15=>?_) λh15=>?_
    ·exact⟨(Ch.box bv [iQ p] 3).h,[],⟨rfl,_,λ_ _ h=>h,V6 (U7 hk rS dc) dc hl1⟩,λw' h=>(h.pick [0,1] rfl rfl).boxHp⟩
    refine d8 (λh16=>by omega) λh16=>?_;have hgo:=xE (d:=d) hk (show bH dims op f fac args.length=0 from rS);refine u6.mk (Nat×Nat) (λg=>[(0,.v (iQ dims)),(2,.v (iQ lv)),(3,.v (pQ bv)),(5,.bx 2 0),(10,.v (iQ g.1))]) (λg=>[.hp c0,.box bv [iQ g.2] 3,.box b5 [iQ op,sv f.1,.slice a n c,sv fac,.slice a1 n1 c1] 44])
     (λg=>g.1<=n1/\g.2<=64/\Z2 (M9 dims d) (64 - l+1) args=Z2 (M9 dims d) (64 - g.2) (args.drop g.1)) (λg=>n1 - g.1) (0,p) ⟨f8 _,hl1,by rw[show 64 - l+1=64 - p by omega];rfl⟩ (v6.mk (pj [0,1,2]) rfl rfl) ?_
    rintro⟨i,m⟩ ⟨hi,hm64,hE⟩;dsimp only at hi hm64 hE ⊢;refine d8 (λh17=>?_) λh17=>?_
    ·have hil:i < args.length:=om
     obtain⟨y,hy⟩ :∃y,y=args[i]:=⟨_,rfl⟩
     have hym:y∈args:=by rw[hy];exact j0 hil
     rw[r5 hil,<-hy,jH] at hE;refine I1 cQ (e:=44) rfl ha i rfl hil λb9 o9 cs hcs hR9 hcell=>?_;rw[<-hy] at hR9;obtain⟨p1,p2,p3,p4,p5,rfl⟩:=CU hR9;refine T7 cQ (i:=0) rfl hcell rfl ?_;refine nwo ?_;refine jU (i:=1) rfl (λw0 w1 hok=>ih e m (lv+1) _ _ w1 om hm64 (hxa _ hym) (hok.mem 1 _ rfl) (q7 _ _ _ _ _ (Hp.le_minus (hok.mem 0 _ rfl).whole (hok.disj 0 1 _ _ dc rfl rfl)) hR9)) ?_;rintro _ _ ⟨rfl,l',rfl,hl',hz⟩;refine d8 (λh19=>?_) λh19=>?_
     ·rw[if_pos h19] at hE;exact⟨(Ch.box bv [iQ l'] 3).h,[],⟨rfl,_,λ_ _ h=>h,zG (hgo.trans hE) h19 hl'⟩,λw' h=>(h.pick [0,1] rfl rfl).boxHp⟩
     ·rw[if_neg h19] at hE;refine nwo ?_;have hz':=hz (l9.1 h19);have hq:=xD dims d (64 - m) y om;exact⟨(i+1,l'),⟨om,hl',by dsimp only;rw[hE,show (M9 dims d (64 - m) y).2=64 - l' by omega]⟩,om,v6.mk (pj [0,1,2]) rfl rfl⟩
    ·rw[H4 om,jG] at hE;exact⟨(Ch.box bv [iQ m] 3).h,[],⟨rfl,_,λ_ _ h=>h,LN (hgo.trans hE) hm64⟩,λw' h=>(h.pick [0,1] rfl rfl).boxHp⟩
   ·apply hq';refine d8 (λh16=>by omega) λh16=>?_;have hgo:=xE (d:=d) hk (show bH dims op f fac args.length=0 from rS);refine u6.mk (Nat×Nat) (λg=>[(0,.v (iQ dims)),(2,.v (iQ lv)),(3,.v (pQ bv)),(5,.bx 2 0),(10,.v (iQ g.1))]) (λg=>[.hp c0,.box bv [iQ g.2] 3,.box b5 [iQ op,sv f.1,.slice a n c,sv fac,.slice a1 n1 c1] 44])
     (λg=>g.1<=n1/\g.2<=64/\Z2 (M9 dims d) (64 - l+1) args=Z2 (M9 dims d) (64 - g.2) (args.drop g.1)) (λg=>n1 - g.1) (0,p) ⟨f8 _,hl1,by rw[show 64 - l+1=64 - p by omega];rfl⟩ (v6.mk (pj [0,1,2]) rfl rfl) ?_
    rintro⟨i,m⟩ ⟨hi,hm64,hE⟩;dsimp only at hi hm64 hE ⊢;refine d8 (λh17=>?_) λh17=>?_
    ·have hil:i < args.length:=om
     obtain⟨y,hy⟩ :∃y,y=args[i]:=⟨_,rfl⟩
     have hym:y∈args:=by rw[hy];exact j0 hil
     rw[r5 hil,<-hy,jH] at hE;refine I1 cQ (e:=44) rfl ha i rfl hil λb9 o9 cs hcs hR9 hcell=>?_;rw[<-hy] at hR9;obtain⟨p1,p2,p3,p4,p5,rfl⟩:=CU hR9;refine T7 cQ (i:=0) rfl hcell rfl ?_;refine nwo ?_;refine jU (i:=1) rfl (λw0 w1 hok=>ih e m (lv+1) _ _ w1 om hm64 (hxa _ hym) (hok.mem 1 _ rfl) (q7 _ _ _ _ _ (Hp.le_minus (hok.mem 0 _ rfl).whole (hok.disj 0 1 _ _ dc rfl rfl)) hR9)) ?_;rintro _ _ ⟨rfl,l',rfl,hl',hz⟩;refine d8 (λh19=>?_) λh19=>?_
     ·rw[if_pos h19] at hE;exact⟨(Ch.box bv [iQ l'] 3).h,[],⟨rfl,_,λ_ _ h=>h,zG (hgo.trans hE) h19 hl'⟩,λw' h=>(h.pick [0,1] rfl rfl).boxHp⟩
     ·rw[if_neg h19] at hE;refine nwo ?_;have hz':=hz (l9.1 h19);have hq:=xD dims d (64 - m) y om;exact⟨(i+1,l'),⟨om,hl',by dsimp only;rw[hE,show (M9 dims d (64 - m) y).2=64 - l' by omega]⟩,om,v6.mk (pj [0,1,2]) rfl rfl⟩
    ·rw[H4 om,jG] at hE;exact⟨(Ch.box bv [iQ m] 3).h,[],⟨rfl,_,λ_ _ h=>h,LN (hgo.trans hE) hm64⟩,λw' h=>(h.pick [0,1] rfl rfl).boxHp⟩
  ·apply hq';refine o7 λq' hq'=>?_;refine d8 (λh12=>?_) λh12=>?_
   ·apply hq';exact⟨(Ch.box bv [iQ p] 3).h,[],⟨rfl,_,λ_ _ h=>h,V6 (U7 hk rS dc) dc hl1⟩,λw' h=>(h.pick [0,1] rfl rfl).boxHp⟩
   refine d8 (λh13=>?_) (λh13=>by omega);apply hq';refine d8 (λh15=>?_) λh15=>?_
   ·exact⟨(Ch.box bv [iQ p] 3).h,[],⟨rfl,_,λ_ _ h=>h,V6 (U7 hk rS dc) dc hl1⟩,λw' h=>(h.pick [0,1] rfl rfl).boxHp⟩
   refine d8 (λh16=>?_) (λh16=>by omega);refine k7 _ (λw' hm=>rT fac hxs w') ?_;refine d8 (λh18=>?_) λh18=>?_
   ·exact⟨(Ch.box bv [iQ p] 3).h,[],⟨rfl,_,λ_ _ h=>h,V6 (U7 hk rS h18) h18 hl1⟩,λw' h=>(h.pick [0,1] rfl rfl).boxHp⟩
   have hgo:=xE (d:=d) hk (show bH dims op f fac args.length=0 from rS);refine u6.mk (Nat×Nat) (λg=>[(0,.v (iQ dims)),(2,.v (iQ lv)),(3,.v (pQ bv)),(5,.bx 2 0),(10,.v (iQ g.1))]) (λg=>[.hp c0,.box bv [iQ g.2] 3,.box b5 [iQ op,sv f.1,.slice a n c,sv fac,.slice a1 n1 c1] 44])
    (λg=>g.1<=n1/\g.2<=64/\Z2 (M9 dims d) (64 - l+1) args=Z2 (M9 dims d) (64 - g.2) (args.drop g.1)) (λg=>n1 - g.1) (0,p) ⟨f8 _,hl1,by rw[show 64 - l+1=64 - p by omega];rfl⟩ (v6.mk (pj [0,1,2]) rfl rfl) ?_
   rintro⟨i,m⟩ ⟨hi,hm64,hE⟩;dsimp only at hi hm64 hE ⊢;refine d8 (λh17=>?_) λh17=>?_
   ·have hil:i < args.length:=om
    obtain⟨y,hy⟩ :∃y,y=args[i]:=⟨_,rfl⟩
    have hym:y∈args:=by rw[hy];exact j0 hil
    rw[r5 hil,<-hy,jH] at hE;refine I1 cQ (e:=44) rfl ha i rfl hil λb9 o9 cs hcs hR9 hcell=>?_;rw[<-hy] at hR9;obtain⟨p1,p2,p3,p4,p5,rfl⟩:=CU hR9;refine T7 cQ (i:=0) rfl hcell rfl ?_;refine nwo ?_;refine jU (i:=1) rfl (λw0 w1 hok=>ih e m (lv+1) _ _ w1 om hm64 (hxa _ hym) (hok.mem 1 _ rfl) (q7 _ _ _ _ _ (Hp.le_minus (hok.mem 0 _ rfl).whole (hok.disj 0 1 _ _ dc rfl rfl)) hR9)) ?_;rintro _ _ ⟨rfl,l',rfl,hl',hz⟩;refine d8 (λh19=>?_) λh19=>?_
    ·rw[if_pos h19] at hE;exact⟨(Ch.box bv [iQ l'] 3).h,[],⟨rfl,_,λ_ _ h=>h,zG (hgo.trans hE) h19 hl'⟩,λw' h=>(h.pick [0,1] rfl rfl).boxHp⟩
    ·rw[if_neg h19] at hE;refine nwo ?_;have hz':=hz (l9.1 h19);have hq:=xD dims d (64 - m) y om;exact⟨(i+1,l'),⟨om,hl',by dsimp only;rw[hE,show (M9 dims d (64 - m) y).2=64 - l' by omega]⟩,om,v6.mk (pj [0,1,2]) rfl rfl⟩
   ·rw[H4 om,jG] at hE;exact⟨(Ch.box bv [iQ m] 3).h,[],⟨rfl,_,λ_ _ h=>h,LN (hgo.trans hE) hm64⟩,λw' h=>(h.pick [0,1] rfl rfl).boxHp⟩
end Go.Proofs.YtpjhmeicbjkcdaaGreatDoor
namespace Go.Proofs.YtpjhmeicbjkcdaaGreatDoor
open Go Go.RowKit Go.Dw
def uF (g:Nat->Ex->Bool×Nat):Nat->List Ex->Bool×Nat
 | l,[]=>(true,l)
 | l,x::r=>if (g l x).1=true then uF g (g l x).2 r else (false,(g l x).2)
def jF:Nat->Nat->Ex->Bool×Nat
 | 0,l,_=>(false,l)
 | d+1,l,.mk _ f fac args=>if l=0 then (false,l) else if (uD f && iT fac)=true then uF (jF d) (l - 1) args else (false,l)
theorem II (g:Nat->Ex->Bool×Nat) (l:Nat):uF g l []=(true,l):=rfl
theorem uE (g:Nat->Ex->Bool×Nat) (l:Nat) (x:Ex) (r:List Ex):uF g l (x::r)=if (g l x).1=true then uF g (g l x).2 r else (false,(g l x).2):=rfl
theorem EV (l:Nat) (x:Ex):jF 0 l x=(false,l):=by cases x;rfl
theorem WG (d l:Nat) (op:Int) (f:gG) (fac:e8) (args:List Ex):jF (d+1) l (.mk op f fac args)=if l=0 then (false,l) else if (uD f && iT fac)=true then uF (jF d) (l - 1) args else (false,l):=rfl
theorem sE {g:Nat->Ex->Bool×Nat} (hg :∀l x,(g l x).1=true->(g l x).2+1<=l) :∀(L:List Ex) (l:Nat),(uF g l L).1=true->(uF g l L).2+L.length<=l/\∀x∈L,∃l',l'<=l/\(g l' x).1=true
 | [],l,_=>⟨k8 _,nofun⟩
 | x::r,l,h=>by
  rw[uE] at h ⊢;by_cases h1:(g l x).1=true
  ·rw[if_pos h1] at h ⊢;have h2:=hg l x h1;obtain⟨h3,h4⟩:=sE hg r _ h;refine⟨by simp only[d7];omega,λy hy=>?_⟩;rcases A8.1 hy with rfl | hy
   ·exact⟨l,k8 _,h1⟩
   ·obtain⟨l',h5,h6⟩:=h4 y hy;exact⟨l',om,h6⟩
  ·rw[if_neg h1] at h;exact absurd h H0
theorem zQ {d l:Nat} {op:Int} {f:gG} {fac:e8} {args:List Ex} (h:(jF (d+1) l (.mk op f fac args)).1=true):0 < l/\uD f=true/\iT fac=true/\jF (d+1) l (.mk op f fac args)=uF (jF d) (l - 1) args:=by
 rw[WG] at h ⊢;by_cases h1:l=0
 ·rw[if_pos h1] at h;exact absurd h H0
 rw[if_neg h1] at h ⊢;by_cases h2:(uD f && iT fac)=true
 ·rw[if_pos h2];rw[k6] at h2;exact⟨om,h2.1,h2.2,rfl⟩
 ·rw[if_neg h2] at h;exact absurd h H0
theorem sD :∀(d l:Nat) (x:Ex),(jF d l x).1=true->(jF d l x).2+1<=l
 | 0,l,x,h=>by rw[EV] at h;exact absurd h H0
 | d+1,l,.mk op f fac args,h=>by
  obtain⟨h1,_,_,h2⟩:=zQ h;rw[h2] at h ⊢;have:=(sE (sD d) args _ h).1;omega
theorem WH :∀(d l:Nat) (x:Ex),l < 1000->(jF d l x).1=true->AS x
 | 0,l,x,_,h=>by rw[EV] at h;exact absurd h H0
 | d+1,l,.mk op f fac args,hl,h=>by
  obtain⟨h1,hf,hs,h2⟩:=zQ h;rw[h2] at h;obtain⟨h3,h4⟩:=sE (sD d) args _ h;refine .mk (Fa hf) (DS hs) om λy hy=>?_;obtain⟨l',h5,h6⟩:=h4 y hy;exact WH d l' y om h6
def Fz (d l:Nat) (x:Ex) (v:Value) (cs:List Value):Prop:=v=.bool (jF d l x).1/\∃l':Nat,cs = [iQ l']/\l'<=70/\((jF d l x).1=true->l'=(jF d l x).2)
theorem uC {d l l':Nat} {x:Ex} (hl:l'<=70) (h:(jF d l x).1=false):Fz d l x (.bool false) [iQ l']:=⟨by rw[h],l',rfl,hl,λe=>by rw[h] at e;exact absurd e H0⟩
theorem Am {d l l':Nat} {x:Ex} (hl:l'<=70) (h:jF d l x=(true,l')):Fz d l x (.bool true) [iQ l']:=⟨by rw[h],l',rfl,hl,λ_=>by rw[h]⟩
set_option maxRecDepth 20000 in
set_option maxHeartbeats 2000000 in
theorem BH {bv:Nat} :∀(d e l lv:Nat) (x:Ex) (cs:List Value) (w:World),lv+d=11->l<=70->(Ch.box bv [iQ l] 3).h.In w->P5 e ((Hp.whole w).minus (Ch.box bv [iQ l] 3).h) x cs->
  j6 Tryz.prog 15 #[.agg cs.toArray,iQ lv,pQ bv] w
   (O6 w (Ch.box bv [iQ l] 3).h λv h' cs2=>cs2 = []/\∃cs',(Ch.box bv cs' 3).h.le h'/\Fz d l x v cs'):=by
 intro d;induction d with
 | zero=>
  intro e l lv x cs w hlv hl hin he;match e,he with
  | e+1,he=>
  obtain⟨op,f,fac,args⟩:=x;obtain⟨a,n,c,a1,n1,c1,rfl,hf,ha⟩:=he;have hE:(jF 0 l (.mk op f fac args)).1=false:=by rw[EV]
  obtain⟨c0,hc0⟩ :∃c0,c0=(Hp.whole w).minus (Ch.box bv [iQ l] 3).h:=⟨_,rfl⟩
  have ok0:Ok w [.hp c0,.box bv [iQ l] 3] w:=by rw[hc0];exact Ok.same (s:=[.hp ((Hp.whole w).minus (Ch.box bv [iQ l] 3).h),.hp (Ch.box bv [iQ l] 3).h]) (i:=1) (c:=.hp (Ch.box bv [iQ l] 3).h) (d:=.box bv [iQ l] 3) rfl rfl (Ok.start2 w hin)
  refine enterMSZ (cx 50) [.agg #[iQ op,sv f.1,.slice a n c,sv fac,.slice a1 n1 c1],iQ lv,pQ bv] ok0 [.tmp 6] Tryz.func15 ?_;rw[<-hc0] at hf ha ⊢;intro b5;refine o7 (λ_ kz=>kz _ _ ?_);refine o7 λq' hq'=>?_;refine lR 1 0 ?_;refine d8 (λh1=>?_) λh1=>?_
  ·apply hq';exact⟨(Ch.box bv [iQ l] 3).h,[],⟨rfl,_,λ_ _ h=>h,uC hl hE⟩,λw' h=>(h.pick [0,1] rfl rfl).boxHp⟩
  refine d8 (λh2=>?_) (λh2=>by omega);apply hq';exact⟨(Ch.box bv [iQ l] 3).h,[],⟨rfl,_,λ_ _ h=>h,uC hl hE⟩,λw' h=>(h.pick [0,1] rfl rfl).boxHp⟩
 | succ d ih=>
  intro e l lv x cs w hlv hl hin he;match e,he with
  | e+1,he=>
  obtain⟨op,f,fac,args⟩:=x;obtain⟨a,n,c,a1,n1,c1,rfl,hf,ha⟩:=he;have hla:=ha.len;have hE:=WG d l op f fac args;obtain⟨c0,hc0⟩ :∃c0,c0=(Hp.whole w).minus (Ch.box bv [iQ l] 3).h:=⟨_,rfl⟩
  have ok0:Ok w [.hp c0,.box bv [iQ l] 3] w:=by rw[hc0];exact Ok.same (s:=[.hp ((Hp.whole w).minus (Ch.box bv [iQ l] 3).h),.hp (Ch.box bv [iQ l] 3).h]) (i:=1) (c:=.hp (Ch.box bv [iQ l] 3).h) (d:=.box bv [iQ l] 3) rfl rfl (Ok.start2 w hin)
  refine enterMSZ (cx 50) [.agg #[iQ op,sv f.1,.slice a n c,sv fac,.slice a1 n1 c1],iQ lv,pQ bv] ok0 [.tmp 6] Tryz.func15 ?_;rw[<-hc0] at hf ha ⊢;intro b5;refine o7 (λ_ kz=>kz _ _ ?_);refine o7 λq' hq'=>?_;refine lR 1 0 ?_;refine d8 (λh1=>?_) λh1=>?_
  ·rw[if_pos om] at hE;apply hq';exact⟨(Ch.box bv [iQ l] 3).h,[],⟨rfl,_,λ_ _ h=>h,uC hl (by rw[hE])⟩,λw' h=>(h.pick [0,1] rfl rfl).boxHp⟩
  rw[if_neg om] at hE;refine d8 (λh2=>by omega) λh2=>?_;refine k7 _ (λw' hm=>BG (f:=f) w' (hf.mono (j7 _) (hm 0 _ rfl).whole)) ?_;refine s8 (λh3=>?_) λh3=>?_
  ·rw[Z7] at h3;rw[h3,U4,if_neg H0] at hE;apply hq';exact⟨(Ch.box bv [iQ l] 3).h,[],⟨rfl,_,λ_ _ h=>h,uC hl (by rw[hE])⟩,λw' h=>(h.pick [0,1] rfl rfl).boxHp⟩
  rw[iM] at h3;rw[h3,F6] at hE;refine k7 _ (λw' hm=>mC fac w') ?_;apply hq';refine s8 (λh4=>?_) λh4=>?_
  ·rw[Z7] at h4;rw[h4,if_neg H0] at hE;exact⟨(Ch.box bv [iQ l] 3).h,[],⟨rfl,_,λ_ _ h=>h,uC hl (by rw[hE])⟩,λw' h=>(h.pick [0,1] rfl rfl).boxHp⟩
  rw[iM] at h4;rw[if_pos h4] at hE;obtain⟨p,hp⟩ :∃p:Nat,l=p+1:=⟨l - 1,om⟩
  have hl1:p<=70:=om
  rw[show l - 1=p by omega] at hE;refine o7 λq' hq'=>?_;refine lR 1 0 ?_;refine tY (y:=(p:Int)) om om om ?_;refine fI cQ (i:=1) (j:=0) rfl rfl rfl sQ rfl rfl ?_;apply hq';refine X9 [.hp c0,.box bv [iQ p] 3,.box b5 [iQ op,sv f.1,.slice a n c,sv fac,.slice a1 n1 c1] 44] rfl ?_;refine u6.mk (Nat×Nat) (λg=>[(1,.v (iQ lv)),(2,.v (pQ bv)),(3,.bx 2 0),(7,.v (iQ g.1))]) (λg=>[.hp c0,.box bv [iQ g.2] 3,.box b5 [iQ op,sv f.1,.slice a n c,sv fac,.slice a1 n1 c1] 44])
   (λg=>g.1<=n1/\g.1+g.2<=70/\uF (jF d) p args=uF (jF d) g.2 (args.drop g.1)) (λg=>n1 - g.1) (0,p) ⟨f8 _,by dsimp only;omega,rfl⟩ (v6.mk (pj [0,1,2]) rfl rfl) ?_
  rintro⟨i,m⟩ ⟨hi,him,hD⟩;dsimp only at hi him hD ⊢;have hm70:m<=70:=om
  refine d8 (λh5=>?_) λh5=>?_
  ·have hil:i < args.length:=om
   obtain⟨y,hy⟩ :∃y,y=args[i]:=⟨_,rfl⟩
   rw[r5 hil,<-hy,uE] at hD;refine I1 cQ (e:=44) rfl ha i rfl hil λb9 o9 cs hcs hR9 hcell=>?_;rw[<-hy] at hR9;obtain⟨p1,p2,p3,p4,p5,rfl⟩:=CU hR9;refine T7 cQ (i:=0) rfl hcell rfl ?_;refine nwo ?_;refine jU (i:=1) rfl (λw0 w1 hok=>ih e m (lv+1) _ _ w1 om hm70 (hok.mem 1 _ rfl) (q7 _ _ _ _ _ (Hp.le_minus (hok.mem 0 _ rfl).whole (hok.disj 0 1 _ _ dc rfl rfl)) hR9)) ?_;rintro _ _ ⟨rfl,l',rfl,hl',hz⟩;refine s8 (λh7=>?_) λh7=>?_
   ·rw[Z7] at h7;rw[if_neg (by rw[h7];decide)] at hD;exact⟨(Ch.box bv [iQ l'] 3).h,[],⟨rfl,_,λ_ _ h=>h,uC hl' (by rw[hE,hD])⟩,λw' h=>(h.pick [0,1] rfl rfl).boxHp⟩
   ·rw[iM] at h7;have hlt:=sD d m y h7;rw[if_pos h7,<-hz h7] at hD;rw[<-hz h7] at hlt;refine nwo ?_;exact⟨(i+1,l'),⟨om,by dsimp only;omega,hD⟩,om,v6.mk (pj [0,1,2]) rfl rfl⟩
  ·rw[H4 om,II] at hD;exact⟨(Ch.box bv [iQ m] 3).h,[],⟨rfl,_,λ_ _ h=>h,Am hm70 (by rw[hE,hD])⟩,λw' h=>(h.pick [0,1] rfl rfl).boxHp⟩
end Go.Proofs.YtpjhmeicbjkcdaaGreatDoor
namespace Go.Proofs.YtpjhmeicbjkcdaaGreatDoor
open Go Go.RowKit Go.Dw
set_option maxRecDepth 10000 in
theorem QW {dims e:Nat} {x:Ex} {cs:List Value} (w:World) (hd:dims < 1000000) (hx:AS x) (he:P5 e (Hp.whole w) x cs) :
  j6 Tryz.prog 16 #[iQ dims,.agg cs.toArray] w (v7 w (iQ (pL dims x))):=by
 match e,he with
 | e+1,he=>
 obtain⟨op,f,fac,args⟩:=x;have he':=he;obtain⟨a,n,c,a1,n1,c1,rfl,hf,ha⟩:=he;refine enterZ (cx 9) [iQ dims,.agg #[iQ op,sv f.1,.slice a n c,sv fac,.slice a1 n1 c1]] [.tmp 4] Tryz.func16 ?_;intro b3 b5;refine jU (i:=2) rfl (λw0 w1 hok=>LI hd 8 (e+1) 64 1 _ _ w1 dc dc hx (hok.mem 2 _ rfl)
  (q7 _ _ _ _ _ (Hp.le_minus (hok.mem 0 _ rfl).whole (hok.disj 0 2 _ _ dc rfl rfl)) he')) ?_
 rintro _ _ ⟨rfl,l',rfl,_,_⟩;exact⟨[],⟨rfl,rfl⟩,pk [0]⟩
end Go.Proofs.YtpjhmeicbjkcdaaGreatDoor
namespace Go.Proofs.YtpjhmeicbjkcdaaGreatDoor
open Go Go.RowKit Go.Dw
theorem CK {s:e8} {i:Nat} (hi:i < s.length) (h:jW (s.getD i 0)=true):H8 s=false:=by
 unfold H8;have:s.any jW=true:=by
  rw[E6];refine⟨s[i],j0 hi,?_⟩;rw[i7,i6 hi] at h;exact h
 rw[this];simp
theorem VG {s:e8} (h :∀j,j < s.length->jW (s.getD j 0)=false):H8 s=(decide (0 < s.length) && decide (s.length<=40)):=by
 unfold H8;have:s.any jW=false:=by
  rw[J8];intro c hc;obtain⟨j,hj,rfl⟩:=Q1.1 hc;have:=h j hj;rw[i7,i6 hj] at this;simpa using this
 rw[this];cases s <;> simp
set_option maxRecDepth 10000 in
theorem LF (s:e8) (hs:s.length < 1000000) (w:World):j6 Tryz.prog 31 #[sv s] w (v7 w (.bool (H8 s))):=by
 have hl:(bs s).size=s.length:=B6 s;refine enterZ (cx 28) [sv s] [.tmp 2] Tryz.func31 ?_;refine u6.mk Nat (λk=>[(0,.v (sv s)),(3,.v (iQ k))]) (λ_=>[.hp (Hp.whole w)])
  (λk=>k<=s.length/\∀j,j < k->jW (s.getD j 0)=false) (λk=>s.length - k) 0 ⟨f8 _,λ_ h=>absurd h (H5 _)⟩ (v6.mk (λ_ _ h=>h) rfl rfl) ?_
 rintro k ⟨hk,ho⟩;refine d8 (λh1=>?_) λh1=>?_
 ·rw[hl] at h1;have hkl:k < s.length:=om
  refine X0 cQ (S:=9) rfl rfl k rfl hkl ?_;refine d8 (λh3=>?_) λh3=>?_
  ·rw[CK hkl (by unfold jW;rw[decide_eq_true (show (s.getD k 0).toNat < 33 by omega)];rfl)];exact⟨[],⟨rfl,rfl⟩,pk [0]⟩
  refine X0 cQ (S:=9) rfl rfl k rfl hkl ?_;refine d8 (λh5=>?_) λh5=>?_
  ·rw[CK hkl (by unfold jW;rw[decide_eq_true (show 126 < (s.getD k 0).toNat by omega)];simp)];exact⟨[],⟨rfl,rfl⟩,pk [0]⟩
  ·refine nwo ?_;refine⟨k+1,⟨om,λj hj=>?_⟩,om,v6.mk (λ_ _ h=>h) rfl rfl⟩;by_cases e:j=k
   ·subst e;unfold jW;rw[decide_eq_false (show ¬ (s.getD j 0).toNat < 33 by omega),decide_eq_false (show ¬ 126 < (s.getD j 0).toNat by omega)];rfl
   ·exact ho j om
 ·rw[hl] at h1;rw[VG (λj hj=>ho j om)];refine d8 (λh6=>?_) λh6=>?_
  ·rw[hl] at h6;rw[decide_eq_true (show 0 < s.length by omega),F6];exact⟨[],⟨congrArg Value.bool (by rw[hl,decide_eq_decide];omega),rfl⟩,pk [0]⟩
  ·rw[hl] at h6;rw[decide_eq_false (show ¬ 0 < s.length by omega),U4];exact⟨[],⟨rfl,rfl⟩,pk [0]⟩
end Go.Proofs.YtpjhmeicbjkcdaaGreatDoor
namespace Go.Proofs.YtpjhmeicbjkcdaaGreatDoor
open Go
theorem TX {f:UInt8->Bool} {l:e8} (h:s9 f l=l.length):l.all f=true:=by
 have:=gQ f l;rw[h,p9] at this;exact this
theorem YG {s:e8} (h:tO s=true):A6 s=(s.length,1,s,0)/\0 < s.length/\P4 (s.getD 0 0)=true:=by
 unfold tO at h;simp only[k6,decide_eq_true_eq] at h;obtain⟨h1,h2,h3,h4⟩:=h;have h0:0 < s.length:=G2.2 h1;have hr:=nD h4;refine⟨?_,h0,h3⟩;unfold A6;dsimp only;rw[if_neg (show ¬ s.getD 0 0=34 from λe=>by rw[e] at h3;exact absurd h3 dc),if_pos h3,hr,if_neg om,p9]
theorem xZ {n m:Nat} {k j:Int} {a b:e8} {e f:Int} (h:(n,k,a,e)=(m,j,b,f)):k=j/\e=f:=by cases h;exact⟨rfl,rfl⟩
theorem TH {c:UInt8} (h:P4 c=true):JV c:=⟨λe=>by rw[e] at h;exact absurd h dc,λe=>by rw[e] at h;exact absurd h dc,λe=>by rw[e] at h;exact absurd h dc⟩
theorem TT {s:e8} (h:tO s=true) (hs:s.length<=1000) :∃p c:Nat,aK s=([(1,s,1,1),(5,[],p,c)],0,0,0):=by
 obtain⟨ht,h0,h3⟩:=YG h;rw[GE om];have:=NL h0 (TH h3) (1,1) [];rw[H6,ht,if_neg (λg=>g rfl)] at this;rw[this,NM (by dsimp only;omega)];exact⟨_,_,rfl⟩
theorem SU {s:e8} (hs:s.length<=1000) {x:kX} {r:List kX} (h0:(aK s).2.2.2=0) (h1:(aK s).1=x::r) (h2:x.1=1) (h3:x.2.1=s):tO s=true:=by
 rw[GE om] at h0 h1;obtain⟨T,q,e1,e2,_,e4,_⟩:=nC s s.length 0 (1,1) [] om h0;rw[e1] at h1;dsimp only at h1;have hx:x∈T:=by
  cases T with
  | nil=>
   simp at h1;rw[h1.1,h2] at e4;exact absurd e4 dc
  | cons y T=>
   simp at h1;rw[h1.1];exact bU
 have hA:=e2 x hx;rw[h2,h3] at hA;have ht:=hA.t [] (.inl rfl);have htx:PH 1 s=s:=by unfold PH;rw[if_neg dc]
 have hb:=hA.b.1;rw[htx] at ht hb;rw[p8] at ht;unfold A6 at ht;dsimp only at ht;have k34 : ¬ s.getD 0 0=34:=λe=>by
  rw[if_pos e] at ht;exact absurd (xZ ht).1 dc
 rw[if_neg k34] at ht;by_cases hl:P4 (s.getD 0 0)=true
 ·rw[if_pos hl] at ht;by_cases h40:40 < s9 K7 s
  ·rw[if_pos h40] at ht;exact absurd (xZ ht).2 dc
  ·rw[if_neg h40] at ht;have hr:s9 K7 s=s.length:=congrArg (λz:Nat×Int×e8×Int=>z.1) ht;unfold tO;simp only[k6,decide_eq_true_eq];exact⟨G2.1 hb,om,hl,TX hr⟩
 ·exfalso
  rw[if_neg hl] at ht;by_cases hd:l8 (s.getD 0 0)=true
  ·rw[if_pos hd] at ht;split at ht
   ·exact absurd (xZ ht).1 dc
   ·split at ht <;> exact absurd (xZ ht).1 dc
  ·rw[if_neg hd] at ht;split at ht <;> exact absurd (xZ ht).1 dc
def YI (s:e8):Bool:=decide ((aK s).2.2.2=0) && (decide ((aK s).1.length=2) && (decide (((aK s).1.getD 0 (0,[],0,0)).1=1) && decide (((aK s).1.getD 0 (0,[],0,0)).2.1=s)))
theorem YH {s:e8} (hs:s.length<=1000):YI s=tO s:=by
 rw[L6];constructor
 ·intro h;unfold YI at h;simp only[k6,decide_eq_true_eq] at h;obtain⟨h1,h2,h3,h4⟩:=h;cases hL:(aK s).1 with
  | nil=>rw[hL] at h2;exact absurd h2 dc
  | cons x r=>
   rw[hL] at h3 h4;exact SU hs h1 hL h3 h4
 ·intro h;obtain⟨p,c,e⟩:=TT h hs;unfold YI;rw[e];simp
end Go.Proofs.YtpjhmeicbjkcdaaGreatDoor
namespace Go.Proofs.YtpjhmeicbjkcdaaGreatDoor
open Go Go.RowKit Go.Dw
set_option maxRecDepth 10000 in
theorem zA (s:e8) (hs:s.length<=1000) (w:World) (hT:kU (Hp.whole w)):j6 Tryz.prog 63 #[sv s] w (v7 w (sv (P1 s))):=by
 have hw:=YH hs;unfold YI at hw;unfold P1;rw[<-hw];have hSc:=λ(w':World) (hm:(Hp.whole w).In w')=>DE s w' (hT.mono hm.whole);clear hw;generalize aK s=z at hSc ⊢;have hQ:=λ(w':World)=>AN s om w';generalize GO s=Q at hQ ⊢;obtain⟨R,hR⟩ :∃R,R=if (decide (z.2.2.2=0) && (decide (z.1.length=2) && (decide ((z.1.getD 0 (0,[],0,0)).1=1) && decide ((z.1.getD 0 (0,[],0,0)).2.1=s))))=true then s else Q.1:=⟨_,rfl⟩
 rw[<-hR];refine enterZ (cx 45) [sv s] [.tmp 2] Tryz.func63 ?_;refine o7 (λ_ kz=>kz _ _ ?_);refine o7 λq' hq'=>?_;refine call (λw' hm=>hSc w' (hm 0 _ rfl)) ?_;rintro _ _ ⟨⟨oa,on,oc,oh⟩,rfl,rfl,ho⟩;have hs0:=w8.sl (f:=fT) (sz:=4) (λ_=>rfl) dc ho;have hl:=ho.len;dsimp only at hs0 hl;apply hq';refine o7 λq' hq'=>?_;refine d8 (λh1=>?_) λh1=>?_
 ·refine d8 (λh2=>?_) λh2=>?_;focus
   dsimp only at h2;have hl0:0 < z.1.length:=om
   have hg:z.1.getD 0 (0,[],0,0)=z.1[0]:=by rw[i7,i6 hl0];rfl
   have hl2:z.1.length=2:=om
   rw[hg] at hR;refine I1 cQ (e:=211) rfl hs0 0 rfl hl0 λb9 o9 cs hcs hRr hcell3=>?_;subst hRr;refine lQ 1 (hcell3 0 _ rfl) ?_;refine d8 (λh4=>?_) λh4=>?_
   ·refine I1 cQ (e:=211) rfl hs0 0 rfl hl0 λb9 o9 cs hcs hRr hcell5=>?_;subst hRr;refine lQ 1 (hcell5 1 _ rfl) ?_;refine W8 ?_;apply hq';refine d8 (λh6=>?_) λh6=>?_
    ·rw[if_pos (by rw[decide_eq_true h1,decide_eq_true hl2,decide_eq_true h4,decide_eq_true h6];rfl)] at hR;exact⟨[],⟨by rw[hR],rfl⟩,pk [0]⟩
    ·rw[if_neg (by rw[decide_eq_false h6];simp)] at hR;refine k7 _ (λw' hm=>hQ w') ?_;exact⟨[],⟨by rw[hR],rfl⟩,pk [0]⟩
   focus
    rw[if_neg (by rw[decide_eq_false h4];simp)] at hR
  rotate_left
  focus
   dsimp only at h2;rw[if_neg (by rw[decide_eq_false (show ¬ z.1.length=2 by omega)];simp)] at hR
  all_goals
   apply hq';refine k7 _ (λw' hm=>hQ w') ?_;exact⟨[],⟨by rw[hR],rfl⟩,pk [0]⟩
 ·rw[if_neg (by rw[decide_eq_false h1];simp)] at hR;apply hq';refine k7 _ (λw' hm=>hQ w') ?_;exact⟨[],⟨by rw[hR],rfl⟩,pk [0]⟩
end Go.Proofs.YtpjhmeicbjkcdaaGreatDoor
namespace Go.Proofs.YtpjhmeicbjkcdaaGreatDoor
open Go Go.RowKit Go.Dw
theorem Ac {s:e8} (h:I7 s=0):0 < s.length:=by
 cases s with
 | nil=>exact absurd h (by decide +kernel)
 | cons c r=>simp
theorem Gj {c:UInt8} (h:(c.toNat:Int)=45):c=45:=by
 apply UInt8.toNat_inj.1;have:(45:UInt8).toNat=45:=rfl;omega
theorem Ba {D:List S1} {m:Nat} (hm:m < D.length):D6 D (m:Int)=P1 D[m].1:=by
 unfold D6;rw[i7,show (m:Int).toNat=m from rfl,i6 hm];rfl
theorem TL {fc:e8} {L:List JL} {nm:Int->e8} {k:Nat} {t y sg q:e8} (hk:k < L.length) (ht:t=91::(fc++(L.take k).flatMap (dV nm))) (hy:dV nm L[k]=sg++q++[32,42,32]++y):t++sg++q++[32,42,32]++y=91::(fc++(L.take (k+1)).flatMap (dV nm)):=by
 rw[cW hk,hy,ht];simp
set_option maxRecDepth 10000 in
theorem zC {ad a:Option Addr} {nd cd n c:Nat} {D:List S1} {f:gG} (w:World) (hD:Sl (B0 O1) 4 (Hp.whole w) ad nd cd D) (hT:Sl (B0 U0) 2 (Hp.whole w) a n c f.2) (hg:wR D.length f) (hn:f.2.length < 1000000) (hdn :∀d∈D,d.1.length<=1000) (hS:kU (Hp.whole w)) (hlen:(bZ (D6 D) f).length < 1000000000) :
  j6 Tryz.prog 65 #[.slice ad nd cd,.agg #[sv f.1,.slice a n c]] w (v7 w (sv (bZ (D6 D) f))):=by
 obtain⟨fc,L⟩:=f;dsimp only at hT hn;have hll:=hT.len;have hfl:(bZ (D6 D) (fc,L)).length=fc.length+(L.flatMap (dV (D6 D))).length+2:=by unfold bZ;simp;omega
 refine enterZ (cx 50) [.slice ad nd cd,.agg #[sv fc,.slice a n c]] [.tmp 4] Tryz.func65 ?_;intro b3;refine P0 (ty:=9) (a:=[91]) (b:=fc) (by simp only[d7,d9];omega) ?_;refine u6.mk (Nat×e8) (λg=>[(0,.v (.slice ad nd cd)),(3,.bx 1 0),(5,.v (sv g.2)),(6,.v (iQ g.1))]) (λg=>[.hp (Hp.whole w),.box b3 [sv fc,.slice a n c] 41])
  (λg=>g.1<=n/\g.2=91::(fc++(L.take g.1).flatMap (dV (D6 D)))) (λg=>n - g.1) (0,[91]++fc) ⟨f8 _,sQ⟩ (v6.mk (λ_ _ h=>h) rfl rfl) ?_
 rintro⟨k,t⟩ ⟨hk,ht⟩;dsimp only at hk ht ⊢;refine d8 (λh1=>?_) λh1=>?_
 ·have hkl:k < L.length:=om
  obtain⟨⟨ix,x⟩,hx⟩ :∃x,x=L[k]:=⟨_,rfl⟩
  have hgk:=hg.at hkl;dsimp only at hgk;rw[<-hx] at hgk;obtain⟨hx0,hx1,hx2,_,_⟩:=hgk;dsimp only at hx0 hx1 hx2;have hx3:=Ac hx2;obtain⟨m,rfl⟩:=aS hx0;have hm:m < D.length:=om
  have hnm:=Ba hm;have hfle:=sB (g:=dV (D6 D)) hkl;have htl:t.length=1+(fc.length+((L.take k).flatMap (dV (D6 D))).length):=by rw[ht];simp;omega
  obtain⟨d,hd⟩ :∃d,d=D[m]:=⟨_,rfl⟩
  have hdl:d.1.length<=1000:=hdn d (by rw[hd];exact j0 hm);rw[<-hd] at hnm;refine I1 cQ (e:=80) rfl hT k rfl hkl λb9 o9 cs hcs hR hcell2=>?_;rw[<-hx] at hR;have hR:cs = [iQ m,sv x]:=hR;subst hR;refine lQ 0 (hcell2 1 _ rfl) ?_;refine X0 cQ (S:=9) rfl rfl 0 rfl hx3 ?_;refine d8 (λh4=>?_) λh4=>?_;focus
   have htr:dV (D6 D) L[k] = [32,45,32]++x.drop 1++[32,42,32]++P1 d.1:=by
    rw[<-hx];unfold dV;dsimp only;rw[if_pos (Gj h4),hnm];simp
   have htn:(dV (D6 D) L[k]).length=3+(x.drop 1).length+3+(P1 d.1).length:=by rw[htr];simp only[d6,d7,d9]
   refine s6.by_order cQ (.take 0 <| .take 1 <| .take 2 <| .take 3 <| .done) kr ?_;refine lY cQ (S:=9) rfl rfl 1 x.length (.inr ⟨_,_,rfl,rfl⟩) (.inl ⟨rfl,rfl⟩) hx3 (k8 _) ?_;rw[p9];refine P0 (ty:=9) (a:=t) (b:=[32,45,32]) (by simp only[d7,d9];omega) ?_;refine P0 (ty:=9) (a:=t++[32,45,32]) (b:=x.drop 1) (by simp only[d6,d7,d9];omega) ?_;refine P0 (ty:=9) (a:=t++[32,45,32]++x.drop 1) (b:=[32,42,32]) (by simp only[d6,d7,d9];omega) ?_;refine I1 cQ (e:=80) rfl hT k rfl hkl λb9 o9 cs hcs hR hcell5=>?_;rw[<-hx] at hR;have hR:cs = [iQ m,sv x]:=hR;subst hR;refine lQ 0 (hcell5 0 _ rfl) ?_;refine I1 cQ (e:=48) rfl hD m rfl hm λb9 o9 cs hcs hR hcell6=>?_;rw[<-hd] at hR;subst hR;refine lQ 0 (hcell6 0 _ rfl) ?_;refine k7 _ (λw' hm=>zA d.1 hdl w' (hS.mono (hm 0 _ rfl).whole)) ?_;refine P0 (ty:=9) (a:=t++[32,45,32]++x.drop 1++[32,42,32]) (b:=P1 d.1) (by simp only[d6,d7,d9];omega) ?_
  rotate_left
  focus
   have htr:dV (D6 D) L[k] = [32,43,32]++x++[32,42,32]++P1 d.1:=by
    rw[<-hx];unfold dV;dsimp only;rw[if_neg (λe=>h4 (by rw[e];rfl)),hnm];simp
   have htn:(dV (D6 D) L[k]).length=3+x.length+3+(P1 d.1).length:=by rw[htr];simp only[d6,d7,d9]
   refine P0 (ty:=9) (a:=t) (b:=[32,43,32]) (by simp only[d7,d9];omega) ?_;refine P0 (ty:=9) (a:=t++[32,43,32]) (b:=x) (by simp only[d6,d7,d9];omega) ?_;refine P0 (ty:=9) (a:=t++[32,43,32]++x) (b:=[32,42,32]) (by simp only[d6,d7,d9];omega) ?_;refine I1 cQ (e:=80) rfl hT k rfl hkl λb9 o9 cs hcs hR hcell5=>?_;rw[<-hx] at hR;have hR:cs = [iQ m,sv x]:=hR;subst hR;refine lQ 0 (hcell5 0 _ rfl) ?_;refine I1 cQ (e:=48) rfl hD m rfl hm λb9 o9 cs hcs hR hcell6=>?_;rw[<-hd] at hR;subst hR;refine lQ 0 (hcell6 0 _ rfl) ?_;refine k7 _ (λw' hm=>zA d.1 hdl w' (hS.mono (hm 0 _ rfl).whole)) ?_;refine P0 (ty:=9) (a:=t++[32,43,32]++x++[32,42,32]) (b:=P1 d.1) (by simp only[d6,d7,d9];omega) ?_
  all_goals
   refine nwo ?_;exact⟨(k+1,_),⟨by dsimp only;omega,TL hkl ht htr⟩,by dsimp only;omega,v6.mk (λ_ _ h=>h) rfl rfl⟩
 ·have hk2:k=L.length:=om
  subst hk2;rw[p9] at ht;have htl:t.length=1+(fc.length+(L.flatMap (dV (D6 D))).length):=by rw[ht];simp;omega
  refine P0 (ty:=9) (a:=t) (b:=[93]) (by simp only[d7,d9];omega) ?_;have e:t++[93]=bZ (D6 D) (fc,L):=by rw[ht];unfold bZ;simp
  rw[e];exact⟨[],⟨rfl,rfl⟩,pk [0]⟩
end Go.Proofs.YtpjhmeicbjkcdaaGreatDoor
namespace Go.Proofs.YtpjhmeicbjkcdaaGreatDoor
open Go Go.RowKit Go.Dw
def FI (op:Int) (fac:e8):e8:=jP op++((if op=2 then 32::(fac++[32]) else [])++[40])
theorem Ap {nm:Int->e8} {d:Nat} {op:Int} {f:gG} {fac:e8} {args:List Ex} (h:op≠0):E7 nm (d+1) (.mk op f fac args)=FI op fac++O5 (args.map (E7 nm d))++[41]:=by
 show (if op=0 then _ else _)=_
 rw[if_neg h];unfold FI;simp
theorem lI {F:Ex->e8} {L:List Ex} {k:Nat} {t S:e8} (hk:k < L.length) (h0 : ¬ 0 < k) (ht:t=S++O5 ((L.take k).map F)):t++F L[k]=S++O5 ((L.take (k+1)).map F):=by
 have hz:k=0:=om
 subst hz;rw[I8 L 0 hk,ht];simp[O5]
theorem qQ {F:Ex->e8} {L:List Ex} {k:Nat} {t S:e8} (hk:k < L.length) (h0:0 < k) (ht:t=S++O5 ((L.take k).map F)):t++[44,32]++F L[k]=S++O5 ((L.take (k+1)).map F):=by
 have hne:(L.take k).map F≠[]:=by
  intro h;have:=congrArg F7 h;rw[l7,j8,d9] at this;omega
 rw[I8 L k hk,E9,N7,Pp,eZ,if_neg hne,ht];simp
theorem xS {F:Ex->e8} (L:List Ex) (k:Nat):(O5 ((L.take k).map F)).length<=(O5 (L.map F)).length:=by
 have:=tA ((L.take k).map F) ((L.drop k).map F);rw[<-E9,E4] at this;exact this
set_option maxRecDepth 20000 in
set_option maxHeartbeats 2000000 in
theorem zD {ad:Option Addr} {nd cd:Nat} {D:List S1} (hdn :∀d∈D,d.1.length<=1000) :∀(d e:Nat) (x:Ex) (cs:List Value) (w:World),XY D.length d x->AS x->P5 e (Hp.whole w) x cs->Sl (B0 O1) 4 (Hp.whole w) ad nd cd D->kU (Hp.whole w)->(E7 (D6 D) d x).length < 1000000000->
  j6 Tryz.prog 20 #[.slice ad nd cd,.agg cs.toArray] w (v7 w (sv (E7 (D6 D) d x))):=by
 intro d;induction d with
 | zero=>intro e x cs w hg;exact hg.elim
 | succ d ih=>
  intro e x cs w hg hx he hD hS hlen;match e,he with
  | e+1,he=>
  obtain⟨op,f,fac,args⟩:=x;obtain⟨a,n,c,a1,n1,c1,rfl,hf,ha⟩:=he;cases hx with
  | mk hxf hxs hxn hxa=>
  obtain⟨hnode,hall⟩:=hg;have hla:=ha.len;have hop:0<=op/\op<=5:=by
   by_cases h:op < 0\/5 < op
   ·rw[yT h] at hnode;exact absurd hnode (show ¬ (12:Int)=0 by decide)
   ·omega
  refine enterZ (cx 49) [.slice ad nd cd,.agg #[iQ op,sv f.1,.slice a n c,sv fac,.slice a1 n1 c1]] [.tmp 4] Tryz.func20 ?_;intro b3;refine d8 (λh1=>?_) λh1=>?_
  ·subst h1;have hE:E7 (D6 D) (d+1) (.mk 0 f fac args)=bZ (D6 D) f:=rfl;rw[hE] at hlen ⊢;refine k7 _ (λw' hm=>zC w' (hD.mono (j7 _) (hm 0 _ rfl).whole) (hf.mono (j7 _) (hm 0 _ rfl).whole) (yS hnode).1 hxf.len hdn (hS.mono (hm 0 _ rfl).whole) hlen) ?_;exact⟨[],⟨rfl,rfl⟩,pk [0]⟩
  have hE:=Ap (nm:=D6 D) (d:=d) (f:=f) (fac:=fac) (args:=args) h1;rw[hE] at hlen ⊢;rw[d6,d6] at hlen;refine d8 (λh2=>?_) λh2=>?_
  ·have hs:[97,100,100,40]=FI op fac:=by rw[h2];rfl
   refine u6.mk (Nat×e8) (λg=>[(0,.v (.slice ad nd cd)),(3,.bx 1 0),(5,.v (sv g.2)),(6,.v (iQ g.1))]) (λg=>[.hp (Hp.whole w),.box b3 [iQ op,sv f.1,.slice a n c,sv fac,.slice a1 n1 c1] 44])
    (λg=>g.1<=n1/\g.2=FI op fac++O5 ((args.take g.1).map (E7 (D6 D) d))) (λg=>n1 - g.1) (0,[97,100,100,40]) ⟨f8 _,by show [97,100,100,40]=FI op fac++[];rw[p8,hs]⟩ (v6.mk (pj [0,1]) rfl rfl) ?_
   rintro⟨k,t⟩ ⟨hk,ht⟩;dsimp only at hk ht ⊢;have htk:=congrArg F7 ht;rw[d6] at htk;refine d8 (λg1=>?_) λg1=>?_
   ·have hkl:k < args.length:=om
    obtain⟨y,hy⟩ :∃y,y=args[k]:=⟨_,rfl⟩
    have hym:y∈args:=by rw[hy];exact j0 hkl
    have hle:=xS (F:=E7 (D6 D) d) args (k+1);refine d8 (λg2=>?_) λg2=>?_
    ·have hnx:=qQ (F:=E7 (D6 D) d) hkl om ht;rw[<-hy] at hnx;have hnl:=congrArg F7 hnx;simp only[d6,d7,d9] at hnl;refine P0 (ty:=9) (a:=t) (b:=[44,32]) (by simp only[d7,d9];omega) ?_;refine I1 cQ (e:=44) rfl ha k rfl hkl λb9 o9 cs hcs hR9 hcell=>?_;rw[<-hy] at hR9;obtain⟨p1,p2,p3,p4,p5,rfl⟩:=CU hR9;refine T7 cQ (i:=0) rfl hcell rfl ?_;refine k7 _ (λw' hm=>ih e y _ w' (hall y hym) (hxa y hym) (q7 _ _ _ _ _ (hm 0 _ rfl).whole hR9) (hD.mono (j7 _) (hm 0 _ rfl).whole) (hS.mono (hm 0 _ rfl).whole) om) ?_;refine P0 (ty:=9) (a:=t++[44,32]) (b:=E7 (D6 D) d y) (by simp only[d6,d7,d9];omega) ?_;refine nwo ?_;exact⟨(k+1,_),⟨by dsimp only;omega,hnx⟩,by dsimp only;omega,v6.mk (pj [0,1]) rfl rfl⟩
    ·have hnx:=lI (F:=E7 (D6 D) d) hkl om ht;rw[<-hy] at hnx;have hnl:=congrArg F7 hnx;simp only[d6] at hnl;refine I1 cQ (e:=44) rfl ha k rfl hkl λb9 o9 cs hcs hR9 hcell=>?_;rw[<-hy] at hR9;obtain⟨p1,p2,p3,p4,p5,rfl⟩:=CU hR9;refine T7 cQ (i:=0) rfl hcell rfl ?_;refine k7 _ (λw' hm=>ih e y _ w' (hall y hym) (hxa y hym) (q7 _ _ _ _ _ (hm 0 _ rfl).whole hR9) (hD.mono (j7 _) (hm 0 _ rfl).whole) (hS.mono (hm 0 _ rfl).whole) om) ?_;refine P0 (ty:=9) (a:=t) (b:=E7 (D6 D) d y) om ?_;refine nwo ?_;exact⟨(k+1,_),⟨by dsimp only;omega,hnx⟩,by dsimp only;omega,v6.mk (pj [0,1]) rfl rfl⟩
   ·have hk2:k=args.length:=om
    subst hk2;rw[p9] at ht htk;refine P0 (ty:=9) (a:=t) (b:=[41]) (by simp only[d7,d9];omega) ?_;rw[ht];exact⟨[],⟨rfl,rfl⟩,pk [0]⟩
  refine d8 (λh3=>?_) λh3=>?_
  ·have hs:([115,99,97,108,101,32]++fac++[32,40])=FI op fac:=by rw[h3];simp[FI,jP]
   refine P0 (ty:=9) (a:=[115,99,97,108,101,32]) (b:=fac) (by simp only[d7,d9];omega) ?_;refine P0 (ty:=9) (a:=[115,99,97,108,101,32]++fac) (b:=[32,40]) (by simp only[d6,d7,d9];omega) ?_;refine u6.mk (Nat×e8) (λg=>[(0,.v (.slice ad nd cd)),(3,.bx 1 0),(5,.v (sv g.2)),(6,.v (iQ g.1))]) (λg=>[.hp (Hp.whole w),.box b3 [iQ op,sv f.1,.slice a n c,sv fac,.slice a1 n1 c1] 44])
    (λg=>g.1<=n1/\g.2=FI op fac++O5 ((args.take g.1).map (E7 (D6 D) d))) (λg=>n1 - g.1) (0,([115,99,97,108,101,32]++fac++[32,40])) ⟨f8 _,by show ([115,99,97,108,101,32]++fac++[32,40])=FI op fac++[];rw[p8,hs]⟩ (v6.mk (pj [0,1]) rfl rfl) ?_
   rintro⟨k,t⟩ ⟨hk,ht⟩;dsimp only at hk ht ⊢;have htk:=congrArg F7 ht;rw[d6] at htk;refine d8 (λg1=>?_) λg1=>?_
   ·have hkl:k < args.length:=om
    obtain⟨y,hy⟩ :∃y,y=args[k]:=⟨_,rfl⟩
    have hym:y∈args:=by rw[hy];exact j0 hkl
    have hle:=xS (F:=E7 (D6 D) d) args (k+1);refine d8 (λg2=>?_) λg2=>?_
    ·have hnx:=qQ (F:=E7 (D6 D) d) hkl om ht;rw[<-hy] at hnx;have hnl:=congrArg F7 hnx;simp only[d6,d7,d9] at hnl;refine P0 (ty:=9) (a:=t) (b:=[44,32]) (by simp only[d7,d9];omega) ?_;refine I1 cQ (e:=44) rfl ha k rfl hkl λb9 o9 cs hcs hR9 hcell=>?_;rw[<-hy] at hR9;obtain⟨p1,p2,p3,p4,p5,rfl⟩:=CU hR9;refine T7 cQ (i:=0) rfl hcell rfl ?_;refine k7 _ (λw' hm=>ih e y _ w' (hall y hym) (hxa y hym) (q7 _ _ _ _ _ (hm 0 _ rfl).whole hR9) (hD.mono (j7 _) (hm 0 _ rfl).whole) (hS.mono (hm 0 _ rfl).whole) om) ?_;refine P0 (ty:=9) (a:=t++[44,32]) (b:=E7 (D6 D) d y) (by simp only[d6,d7,d9];omega) ?_;refine nwo ?_;exact⟨(k+1,_),⟨by dsimp only;omega,hnx⟩,by dsimp only;omega,v6.mk (pj [0,1]) rfl rfl⟩
    ·have hnx:=lI (F:=E7 (D6 D) d) hkl om ht;rw[<-hy] at hnx;have hnl:=congrArg F7 hnx;simp only[d6] at hnl;refine I1 cQ (e:=44) rfl ha k rfl hkl λb9 o9 cs hcs hR9 hcell=>?_;rw[<-hy] at hR9;obtain⟨p1,p2,p3,p4,p5,rfl⟩:=CU hR9;refine T7 cQ (i:=0) rfl hcell rfl ?_;refine k7 _ (λw' hm=>ih e y _ w' (hall y hym) (hxa y hym) (q7 _ _ _ _ _ (hm 0 _ rfl).whole hR9) (hD.mono (j7 _) (hm 0 _ rfl).whole) (hS.mono (hm 0 _ rfl).whole) om) ?_;refine P0 (ty:=9) (a:=t) (b:=E7 (D6 D) d y) om ?_;refine nwo ?_;exact⟨(k+1,_),⟨by dsimp only;omega,hnx⟩,by dsimp only;omega,v6.mk (pj [0,1]) rfl rfl⟩
   ·have hk2:k=args.length:=om
    subst hk2;rw[p9] at ht htk;refine P0 (ty:=9) (a:=t) (b:=[41]) (by simp only[d7,d9];omega) ?_;rw[ht];exact⟨[],⟨rfl,rfl⟩,pk [0]⟩
  refine d8 (λh4=>?_) λh4=>?_
  ·have hs:[109,105,110,40]=FI op fac:=by rw[h4];rfl
   refine u6.mk (Nat×e8) (λg=>[(0,.v (.slice ad nd cd)),(3,.bx 1 0),(5,.v (sv g.2)),(6,.v (iQ g.1))]) (λg=>[.hp (Hp.whole w),.box b3 [iQ op,sv f.1,.slice a n c,sv fac,.slice a1 n1 c1] 44])
    (λg=>g.1<=n1/\g.2=FI op fac++O5 ((args.take g.1).map (E7 (D6 D) d))) (λg=>n1 - g.1) (0,[109,105,110,40]) ⟨f8 _,by show [109,105,110,40]=FI op fac++[];rw[p8,hs]⟩ (v6.mk (pj [0,1]) rfl rfl) ?_
   rintro⟨k,t⟩ ⟨hk,ht⟩;dsimp only at hk ht ⊢;have htk:=congrArg F7 ht;rw[d6] at htk;refine d8 (λg1=>?_) λg1=>?_
   ·have hkl:k < args.length:=om
    obtain⟨y,hy⟩ :∃y,y=args[k]:=⟨_,rfl⟩
    have hym:y∈args:=by rw[hy];exact j0 hkl
    have hle:=xS (F:=E7 (D6 D) d) args (k+1);refine d8 (λg2=>?_) λg2=>?_
    ·have hnx:=qQ (F:=E7 (D6 D) d) hkl om ht;rw[<-hy] at hnx;have hnl:=congrArg F7 hnx;simp only[d6,d7,d9] at hnl;refine P0 (ty:=9) (a:=t) (b:=[44,32]) (by simp only[d7,d9];omega) ?_;refine I1 cQ (e:=44) rfl ha k rfl hkl λb9 o9 cs hcs hR9 hcell=>?_;rw[<-hy] at hR9;obtain⟨p1,p2,p3,p4,p5,rfl⟩:=CU hR9;refine T7 cQ (i:=0) rfl hcell rfl ?_;refine k7 _ (λw' hm=>ih e y _ w' (hall y hym) (hxa y hym) (q7 _ _ _ _ _ (hm 0 _ rfl).whole hR9) (hD.mono (j7 _) (hm 0 _ rfl).whole) (hS.mono (hm 0 _ rfl).whole) om) ?_;refine P0 (ty:=9) (a:=t++[44,32]) (b:=E7 (D6 D) d y) (by simp only[d6,d7,d9];omega) ?_;refine nwo ?_;exact⟨(k+1,_),⟨by dsimp only;omega,hnx⟩,by dsimp only;omega,v6.mk (pj [0,1]) rfl rfl⟩
    ·have hnx:=lI (F:=E7 (D6 D) d) hkl om ht;rw[<-hy] at hnx;have hnl:=congrArg F7 hnx;simp only[d6] at hnl;refine I1 cQ (e:=44) rfl ha k rfl hkl λb9 o9 cs hcs hR9 hcell=>?_;rw[<-hy] at hR9;obtain⟨p1,p2,p3,p4,p5,rfl⟩:=CU hR9;refine T7 cQ (i:=0) rfl hcell rfl ?_;refine k7 _ (λw' hm=>ih e y _ w' (hall y hym) (hxa y hym) (q7 _ _ _ _ _ (hm 0 _ rfl).whole hR9) (hD.mono (j7 _) (hm 0 _ rfl).whole) (hS.mono (hm 0 _ rfl).whole) om) ?_;refine P0 (ty:=9) (a:=t) (b:=E7 (D6 D) d y) om ?_;refine nwo ?_;exact⟨(k+1,_),⟨by dsimp only;omega,hnx⟩,by dsimp only;omega,v6.mk (pj [0,1]) rfl rfl⟩
   ·have hk2:k=args.length:=om
    subst hk2;rw[p9] at ht htk;refine P0 (ty:=9) (a:=t) (b:=[41]) (by simp only[d7,d9];omega) ?_;rw[ht];exact⟨[],⟨rfl,rfl⟩,pk [0]⟩
  refine d8 (λh5=>?_) λh5=>?_
  ·have hs:[109,97,120,40]=FI op fac:=by rw[h5];rfl
   refine u6.mk (Nat×e8) (λg=>[(0,.v (.slice ad nd cd)),(3,.bx 1 0),(5,.v (sv g.2)),(6,.v (iQ g.1))]) (λg=>[.hp (Hp.whole w),.box b3 [iQ op,sv f.1,.slice a n c,sv fac,.slice a1 n1 c1] 44])
    (λg=>g.1<=n1/\g.2=FI op fac++O5 ((args.take g.1).map (E7 (D6 D) d))) (λg=>n1 - g.1) (0,[109,97,120,40]) ⟨f8 _,by show [109,97,120,40]=FI op fac++[];rw[p8,hs]⟩ (v6.mk (pj [0,1]) rfl rfl) ?_
   rintro⟨k,t⟩ ⟨hk,ht⟩;dsimp only at hk ht ⊢;have htk:=congrArg F7 ht;rw[d6] at htk;refine d8 (λg1=>?_) λg1=>?_
   ·have hkl:k < args.length:=om
    obtain⟨y,hy⟩ :∃y,y=args[k]:=⟨_,rfl⟩
    have hym:y∈args:=by rw[hy];exact j0 hkl
    have hle:=xS (F:=E7 (D6 D) d) args (k+1);refine d8 (λg2=>?_) λg2=>?_
    ·have hnx:=qQ (F:=E7 (D6 D) d) hkl om ht;rw[<-hy] at hnx;have hnl:=congrArg F7 hnx;simp only[d6,d7,d9] at hnl;refine P0 (ty:=9) (a:=t) (b:=[44,32]) (by simp only[d7,d9];omega) ?_;refine I1 cQ (e:=44) rfl ha k rfl hkl λb9 o9 cs hcs hR9 hcell=>?_;rw[<-hy] at hR9;obtain⟨p1,p2,p3,p4,p5,rfl⟩:=CU hR9;refine T7 cQ (i:=0) rfl hcell rfl ?_;refine k7 _ (λw' hm=>ih e y _ w' (hall y hym) (hxa y hym) (q7 _ _ _ _ _ (hm 0 _ rfl).whole hR9) (hD.mono (j7 _) (hm 0 _ rfl).whole) (hS.mono (hm 0 _ rfl).whole) om) ?_;refine P0 (ty:=9) (a:=t++[44,32]) (b:=E7 (D6 D) d y) (by simp only[d6,d7,d9];omega) ?_;refine nwo ?_;exact⟨(k+1,_),⟨by dsimp only;omega,hnx⟩,by dsimp only;omega,v6.mk (pj [0,1]) rfl rfl⟩
    ·have hnx:=lI (F:=E7 (D6 D) d) hkl om ht;rw[<-hy] at hnx;have hnl:=congrArg F7 hnx;simp only[d6] at hnl;refine I1 cQ (e:=44) rfl ha k rfl hkl λb9 o9 cs hcs hR9 hcell=>?_;rw[<-hy] at hR9;obtain⟨p1,p2,p3,p4,p5,rfl⟩:=CU hR9;refine T7 cQ (i:=0) rfl hcell rfl ?_;refine k7 _ (λw' hm=>ih e y _ w' (hall y hym) (hxa y hym) (q7 _ _ _ _ _ (hm 0 _ rfl).whole hR9) (hD.mono (j7 _) (hm 0 _ rfl).whole) (hS.mono (hm 0 _ rfl).whole) om) ?_;refine P0 (ty:=9) (a:=t) (b:=E7 (D6 D) d y) om ?_;refine nwo ?_;exact⟨(k+1,_),⟨by dsimp only;omega,hnx⟩,by dsimp only;omega,v6.mk (pj [0,1]) rfl rfl⟩
   ·have hk2:k=args.length:=om
    subst hk2;rw[p9] at ht htk;refine P0 (ty:=9) (a:=t) (b:=[41]) (by simp only[d7,d9];omega) ?_;rw[ht];exact⟨[],⟨rfl,rfl⟩,pk [0]⟩
  have h6:op=5:=om
  have hs:[97,98,115,40]=FI op fac:=by rw[h6];rfl
  refine u6.mk (Nat×e8) (λg=>[(0,.v (.slice ad nd cd)),(3,.bx 1 0),(5,.v (sv g.2)),(6,.v (iQ g.1))]) (λg=>[.hp (Hp.whole w),.box b3 [iQ op,sv f.1,.slice a n c,sv fac,.slice a1 n1 c1] 44])
   (λg=>g.1<=n1/\g.2=FI op fac++O5 ((args.take g.1).map (E7 (D6 D) d))) (λg=>n1 - g.1) (0,[97,98,115,40]) ⟨f8 _,by show [97,98,115,40]=FI op fac++[];rw[p8,hs]⟩ (v6.mk (pj [0,1]) rfl rfl) ?_
  rintro⟨k,t⟩ ⟨hk,ht⟩;dsimp only at hk ht ⊢;have htk:=congrArg F7 ht;rw[d6] at htk;refine d8 (λg1=>?_) λg1=>?_
  ·have hkl:k < args.length:=om
   obtain⟨y,hy⟩ :∃y,y=args[k]:=⟨_,rfl⟩
   have hym:y∈args:=by rw[hy];exact j0 hkl
   have hle:=xS (F:=E7 (D6 D) d) args (k+1);refine d8 (λg2=>?_) λg2=>?_
   ·have hnx:=qQ (F:=E7 (D6 D) d) hkl om ht;rw[<-hy] at hnx;have hnl:=congrArg F7 hnx;simp only[d6,d7,d9] at hnl;refine P0 (ty:=9) (a:=t) (b:=[44,32]) (by simp only[d7,d9];omega) ?_;refine I1 cQ (e:=44) rfl ha k rfl hkl λb9 o9 cs hcs hR9 hcell=>?_;rw[<-hy] at hR9;obtain⟨p1,p2,p3,p4,p5,rfl⟩:=CU hR9;refine T7 cQ (i:=0) rfl hcell rfl ?_;refine k7 _ (λw' hm=>ih e y _ w' (hall y hym) (hxa y hym) (q7 _ _ _ _ _ (hm 0 _ rfl).whole hR9) (hD.mono (j7 _) (hm 0 _ rfl).whole) (hS.mono (hm 0 _ rfl).whole) om) ?_;refine P0 (ty:=9) (a:=t++[44,32]) (b:=E7 (D6 D) d y) (by simp only[d6,d7,d9];omega) ?_;refine nwo ?_;exact⟨(k+1,_),⟨by dsimp only;omega,hnx⟩,by dsimp only;omega,v6.mk (pj [0,1]) rfl rfl⟩
   ·have hnx:=lI (F:=E7 (D6 D) d) hkl om ht;rw[<-hy] at hnx;have hnl:=congrArg F7 hnx;simp only[d6] at hnl;refine I1 cQ (e:=44) rfl ha k rfl hkl λb9 o9 cs hcs hR9 hcell=>?_;rw[<-hy] at hR9;obtain⟨p1,p2,p3,p4,p5,rfl⟩:=CU hR9;refine T7 cQ (i:=0) rfl hcell rfl ?_;refine k7 _ (λw' hm=>ih e y _ w' (hall y hym) (hxa y hym) (q7 _ _ _ _ _ (hm 0 _ rfl).whole hR9) (hD.mono (j7 _) (hm 0 _ rfl).whole) (hS.mono (hm 0 _ rfl).whole) om) ?_;refine P0 (ty:=9) (a:=t) (b:=E7 (D6 D) d y) om ?_;refine nwo ?_;exact⟨(k+1,_),⟨by dsimp only;omega,hnx⟩,by dsimp only;omega,v6.mk (pj [0,1]) rfl rfl⟩
  ·have hk2:k=args.length:=om
   subst hk2;rw[p9] at ht htk;refine P0 (ty:=9) (a:=t) (b:=[41]) (by simp only[d7,d9];omega) ?_;rw[ht];exact⟨[],⟨rfl,rfl⟩,pk [0]⟩
end Go.Proofs.YtpjhmeicbjkcdaaGreatDoor
namespace Go.Proofs.YtpjhmeicbjkcdaaGreatDoor
open Go Go.RowKit Go.Dw
section
variable {s:List Ch} {xo yo:Operand} {ty:Nat} {q:TV->Prop}
theorem Ea {a:e8} (h:q (.v (.bool true))):B7 Tryz.prog s (do eqGuard .eql ty xo yo (sv a) (sv a);binOp .eql ty (sv a) (sv a)) q:=W8 (by rw[decide_eq_true rfl];exact h)
end
end Go.Proofs.YtpjhmeicbjkcdaaGreatDoor
namespace Go.Proofs.YtpjhmeicbjkcdaaGreatDoor
open Go Go.RowKit Go.Dw Go.ChangeShapes Go.WideShapes Go.ChangeAt
section
variable {H:Type} {enc:TypeId×Value->H} {W:World} {r:Reach} {b0:Nat} {v:Value} {d:DataW H} {ps:List MemPlace} {sp:Nat->Bool} {held:Bool}
theorem Pr:Tryz.prog.cellsOf 122=3:=kr
theorem Qk:Tryz.prog.cellsOf 84=1:=kr
theorem Pw:Tryz.prog.cellsOf 86=1:=kr
theorem Qq:Tryz.prog.cellsOf 81=1:=kr
theorem Pt:Tryz.prog.cellsOf 83=3:=kr
theorem Qm:Tryz.prog.cellsOf 22=1:=kr
theorem Rl:Tryz.prog.cellsOf 87=4:=kr
theorem Qz:Tryz.prog.cellsOf 89=3:=kr
theorem Ra:Tryz.prog.cellsOf 91=7:=kr
theorem Pu:Tryz.prog.cellsOf 93=9:=kr
theorem Qn:Tryz.prog.cellsOf 23=1:=kr
theorem Rc:Tryz.prog.cellsOf 25=2:=kr
theorem Qo:Tryz.prog.cellsOf 26=1:=kr
theorem Pv:Tryz.prog.cellsOf 96=3:=kr
theorem Qp:Tryz.prog.cellsOf 27=1:=kr
theorem Ps:Tryz.prog.cellsOf 74=8:=kr
theorem Ql:Tryz.prog.cellsOf 28=1:=kr
theorem Qy:Tryz.prog.cellsOf 30=6:=kr
set_option maxRecDepth 100000 in
theorem Qb {fuel:Nat} {cs:List Value} {y:DataW H×List MemPlace} (h:DataW.trod enc Tryz.prog W 0 sp held fuel 122 cs=some y) :∃x:V3,B0 OP (Hp.whole W) x cs:=by
 obtain⟨hl,m,hf⟩:=Oi Tryz.underlying122 h;rw[Pr] at hl;obtain⟨p0,p1,p2,rfl⟩:=Ke hl;rw[XM] at hf;obtain⟨_,k0⟩:=hf 0 dc;obtain⟨_,k1⟩:=hf 1 dc;obtain⟨_,k2⟩:=hf 2 dc;obtain⟨z0,e0⟩:=xW k0;obtain⟨z1,e1⟩:=xW k1;obtain⟨z2,e2⟩:=xW k2;simp at e0 e1 e2;exact⟨(z0,z1,z2),by rw[e0,e1,e2];rfl⟩
set_option maxRecDepth 100000 in
theorem Qi {fuel:Nat} {cs:List Value} {y:DataW H×List MemPlace} (h:DataW.trod enc Tryz.prog W 0 sp held fuel 86 cs=some y) :∃x:List V3,pN (Hp.whole W) x cs:=by
 obtain⟨hl,n,_,hf⟩:=PI Tryz.underlying86 h;rw[Pw] at hl;obtain⟨p0,rfl⟩:=Rk hl;obtain⟨_,k0⟩:=hf 0 ⟨_,84,_,_,_,_,_⟩ rfl;dsimp only at k0;rw[Qk] at k0;obtain⟨a,m,c,L,e0,hs⟩:=V4 (α:=V3) (R:=B0 OP) Tryz.underlying84 Pr dc (λ_ _ _ h=>Qb h) k0;simp at e0;exact⟨L,a,m,c,by rw[e0],hs⟩
set_option maxRecDepth 100000 in
theorem Qd {fuel:Nat} {cs:List Value} {y:DataW H×List MemPlace} (h:DataW.trod enc Tryz.prog W 0 sp held fuel 83 cs=some y) :∃x:W3,bN (Hp.whole W) x cs:=by
 obtain⟨hl,n,⟨y0,k0⟩,⟨y1,k1⟩,⟨y2,k2⟩⟩:=On Tryz.underlying83 h;dsimp only at k0 k1 k2;rw[Pt] at hl;obtain⟨p0,p1,p2,rfl⟩:=Ke hl;rw[Ih] at k0;rw[XM] at k1;rw[Qq] at k2;obtain⟨s,e0⟩:=Dg k0;obtain⟨z,e1⟩:=xW k1;obtain⟨a,m,c,L,e2,hs⟩:=V4 (α:=List V3) (R:=pN) Tryz.underlying81 Pw dc (λ_ _ _ h=>Qi h) k2;simp at e0 e1 e2;exact⟨(s,z,L),a,m,c,by rw[e0,e1,e2],hs⟩
set_option maxRecDepth 100000 in
theorem Qu {fuel:Nat} {p0 p1 p2 p3:Value} {y:DataW H×List MemPlace} (h:DataW.trod enc Tryz.prog W 0 sp held fuel 87 [p0,p1,p2,p3]=some y) :∃a b c d:Int,p0=iQ a/\p1=iQ b/\p2=iQ c/\p3=iQ d:=by
 obtain⟨_,m,hf⟩:=Oi Tryz.underlying87 h;rw[XM] at hf;obtain⟨_,k0⟩:=hf 0 dc;obtain⟨_,k1⟩:=hf 1 dc;obtain⟨_,k2⟩:=hf 2 dc;obtain⟨_,k3⟩:=hf 3 dc;obtain⟨z0,e0⟩:=xW k0;obtain⟨z1,e1⟩:=xW k1;obtain⟨z2,e2⟩:=xW k2;obtain⟨z3,e3⟩:=xW k3;simp at e0 e1 e2 e3;exact⟨z0,z1,z2,z3,e0,e1,e2,e3⟩
set_option maxRecDepth 100000 in
theorem Qf {fuel:Nat} {p0 p1 p2:Value} {y:DataW H×List MemPlace} (h:DataW.trod enc Tryz.prog W 0 sp held fuel 89 [p0,p1,p2]=some y) :∃a b c:e8,p0=sv a/\p1=sv b/\p2=sv c:=by
 obtain⟨_,m,hf⟩:=Oi Tryz.underlying89 h;rw[XL] at hf;obtain⟨_,k0⟩:=hf 0 dc;obtain⟨_,k1⟩:=hf 1 dc;obtain⟨_,k2⟩:=hf 2 dc;obtain⟨z0,e0⟩:=JU k0;obtain⟨z1,e1⟩:=JU k1;obtain⟨z2,e2⟩:=JU k2;simp at e0 e1 e2;exact⟨z0,z1,z2,e0,e1,e2⟩
set_option maxRecDepth 100000 in
theorem Qg {fuel:Nat} {cs:List Value} {y:DataW H×List MemPlace} (h:DataW.trod enc Tryz.prog W 0 sp held fuel 93 cs=some y) :∃x:mX,B0 dM (Hp.whole W) x cs:=by
 obtain⟨hl,n,⟨y0,k0⟩,⟨y1,k1⟩,⟨y2,k2⟩⟩:=On Tryz.underlying93 h;dsimp only at k0 k1 k2;rw[Pu] at hl;obtain⟨p0,p1,p2,p3,p4,p5,p6,p7,p8,rfl⟩:=Rh hl;rw[Ih] at k0 k1;rw[Ra] at k2;obtain⟨s0,e0⟩:=Dg k0;obtain⟨s1,e1⟩:=Dg k1;obtain⟨_,n2,⟨y3,k3⟩,⟨y4,k4⟩⟩:=BV Tryz.underlying91 k2;dsimp only at k3 k4;rw[Rl] at k3;rw[Qz] at k4;obtain⟨z0,z1,z2,z3,f0,f1,f2,f3⟩:=Qu (p0:=p2) (p1:=p3) (p2:=p4) (p3:=p5) k3;obtain⟨t0,t1,t2,g0,g1,g2⟩:=Qf (p0:=p6) (p1:=p7) (p2:=p8) k4;simp at e0 e1;exact⟨(s0,s1,(z0,z1,z2,z3),(t0,t1,t2)),by rw[e0,e1,f0,f1,f2,f3,g0,g1,g2];rfl⟩
set_option maxRecDepth 100000 in
theorem Qh {fuel:Nat} {cs:List Value} {y:DataW H×List MemPlace} (h:DataW.trod enc Tryz.prog W 0 sp held fuel 96 cs=some y) :∃x:kY,kM (Hp.whole W) x cs:=by
 obtain⟨hl,n,⟨y0,k0⟩,⟨y1,k1⟩⟩:=BV Tryz.underlying96 h;dsimp only at k0 k1;rw[Pv] at hl;obtain⟨p0,p1,p2,rfl⟩:=Ke hl;rw[Ih] at k0;rw[Cq] at k1;obtain⟨s,e0⟩:=Dg k0;obtain⟨f,a,m,c,e1,hs⟩:=Dh k1;simp at e0 e1;exact⟨(s,f),a,m,c,by rw[e0,e1.1,e1.2],hs⟩
set_option maxRecDepth 100000 in
theorem Qc {fuel:Nat} {cs:List Value} {y:DataW H×List MemPlace} (h:DataW.trod enc Tryz.prog W 0 sp held fuel 74 cs=some y) :∃x:kV,jJ fuel (Hp.whole W) x cs:=by
 obtain⟨hl,n,rfl,⟨y0,k0⟩,⟨y1,k1⟩,⟨y2,k2⟩,⟨y3,k3⟩⟩:=TD Tryz.underlying74 h;dsimp only at k0 k1 k2 k3;rw[Ps] at hl;obtain⟨p0,p1,p2,p3,p4,p5,p6,p7,rfl⟩:=Ri hl;rw[Ih] at k0;rw[Io] at k1;rw[XL] at k2 k3;obtain⟨s,e0⟩:=Dg k0;obtain⟨x,hx⟩:=Gs n _ _ k1;obtain⟨lo,e2⟩:=JU k2;obtain⟨hi,e3⟩:=JU k3;have hx:P5 n (Hp.whole W) x [p1,p2,p3,p4,p5]:=hx;simp at e0 e2 e3;exact⟨(s,x,lo,hi),[p1,p2,p3,p4,p5],by rw[e0,e2,e3];rfl,Az (Qs n) hx⟩
theorem Po {d e:Nat} (hde:d<=e) {h:Hp} {x:kV} {cs:List Value}:jJ d h x cs->jJ e h x cs:=λ⟨xs,h1,h2⟩=>⟨xs,h1,Az hde h2⟩
instance:Inhabited kV:=⟨([],default,[],[])⟩
set_option maxRecDepth 100000 in
theorem Qe {fuel:Nat} {cs:List Value} {y:DataW H×List MemPlace} (h:DataW.trod enc Tryz.prog W 0 sp held fuel 30 cs=some y) :∃(e:Nat) (x:jL),qB e (Hp.whole W) x cs:=by
 obtain⟨hl,n,⟨y0,k0⟩,⟨y1,k1⟩,⟨y2,k2⟩,⟨y3,k3⟩,⟨y4,k4⟩⟩:=Pa Tryz.underlying30 h;dsimp only at k0 k1 k2 k3 k4;rw[Qy] at hl;obtain⟨p0,p1,p2,p3,p4,p5,rfl⟩:=Hj hl;rw[Ih] at k0;rw[Rc] at k1;rw[Qo] at k2;rw[Qp] at k3;rw[Ql] at k4;obtain⟨s,e0⟩:=Dg k0;obtain⟨_,n2,⟨y5,k5⟩,⟨y6,k6⟩⟩:=BV Tryz.underlying25 k1;dsimp only at k5 k6;rw[Qm] at k5;rw[Qn] at k6;obtain⟨a1,m1,c1,L1,e1,s1⟩:=V4 (α:=W3) (R:=bN) Tryz.underlying22 Pt dc (λ_ _ _ h=>Qd h) k5;obtain⟨a2,m2,c2,L2,e2,s2⟩:=V4 (α:=mX) (R:=B0 dM) Tryz.underlying23 Pu dc (λ_ _ _ h=>Qg h) k6;obtain⟨a3,m3,c3,L3,e3,s3⟩:=V4 (α:=S1) (R:=B0 O1) Tryz.underlying26 Cr dc (λ_ _ _ h=>Di h) k2;obtain⟨a4,m4,c4,L4,e4,s4⟩:=V4 (α:=kY) (R:=kM) Tryz.underlying27 Pv dc (λ_ _ _ h=>Qh h) k3;obtain⟨a5,m5,c5,L5,e5,s5⟩:=GZ (α:=kV) (R:=jJ n) Tryz.underlying28 Ps dc (λm cs y hm h=>by
  obtain⟨x,hx⟩:=Qc h;exact⟨x,Po om hx⟩) k4
 simp at e0 e1 e2 e3 e4 e5;exact⟨n,⟨s,L1,L2,L3,L4,L5⟩,⟨a1,m1,c1,a2,m2,c2,a3,m3,c3,a4,m4,c4,a5,m5,c5,by rw[e0,e1,e2,e3,e4,e5],s1,s2,s3,s4,s5⟩⟩
set_option maxRecDepth 100000 in
theorem Pm (hval:Value.okWide Tryz.prog W r b0 30 v) (hd:DataW.Trod enc Tryz.prog W 0 (λ_=>true) true 30 v d ps) :∃(e:Nat) (x:jL) (cs:List Value),v=.agg cs.toArray/\qB e (Hp.whole W) x cs:=by
 obtain⟨xs,rfl,_⟩:=okWide_struct Tryz.underlying30 hval;obtain⟨fuel,hf⟩:=hd;obtain⟨e,x,h1⟩:=Qe hf;exact⟨e,x,xs.toList,sQ,h1⟩
end
end Go.Proofs.YtpjhmeicbjkcdaaGreatDoor
namespace Go.Proofs.YtpjhmeicbjkcdaaGreatDoor
open Go Go.RowKit Go.Dw
set_option maxRecDepth 10000 in
theorem Oo {a:Option Addr} {n c:Nat} {L:List e8} (s:e8) (w:World) (hL:Sl (B0 fS) 1 (Hp.whole w) a n c L) (hn:L.length < 1000000) :
  j6 Tryz.prog 102 #[.slice a n c,sv s] w (v7 w (.bool (decide (s∈L)))):=by
 have hll:=hL.len;refine enterZ (cx 18) [.slice a n c,sv s] [.tmp 4] Tryz.func102 ?_;refine u6.mk Nat (λk=>[(0,.v (.slice a n c)),(1,.v (sv s)),(5,.v (iQ k))]) (λ_=>[.hp (Hp.whole w)])
  (λk=>k<=n/\∀j (hj:j < L.length),j < k->L[j]≠s) (λk=>n - k) 0 ⟨f8 _,λ_ _ h=>absurd h (H5 _)⟩ (v6.mk (λ_ _ h=>h) rfl rfl) ?_
 rintro k ⟨hk,ho⟩;dsimp only at hk ho ⊢;refine d8 (λh1=>?_) λh1=>?_
 ·have hkl:k < L.length:=om
  refine I1 cQ (e:=9) rfl hL k rfl hkl λb9 o9 cs hcs hR hcell2=>?_;subst hR;refine lQ 0 (hcell2 0 _ rfl) ?_;refine W8 ?_;refine d8 (λh3=>?_) λh3=>?_
  ·rw[decide_eq_true (show s∈L by rw[<-h3];exact j0 hkl)];exact⟨[],⟨rfl,rfl⟩,pk [0]⟩
  ·refine nwo ?_;refine⟨k+1,⟨om,λj hj hjk=>?_⟩,om,v6.mk (λ_ _ h=>h) rfl rfl⟩;by_cases e:j=k
   ·subst e;exact h3
   ·exact ho j hj om
 ·rw[decide_eq_false (show ¬ s∈L by
   intro h;obtain⟨j,hj,e⟩:=Q1.1 h;exact ho j hj om e)]
  exact⟨[],⟨rfl,rfl⟩,pk [0]⟩
theorem Nn {a:Option Addr} {n c:Nat} {L:List e8} (s:e8) (hs:s.length < 1000000) (w:World) (hL:Sl (B0 fS) 1 (Hp.whole w) a n c L) (hn:L.length < 1000000) :
  j6 Tryz.prog 32 #[.slice a n c,sv s] w (v7 w (iQ (wH L s))):=by
 unfold wH;refine enterZ (cx 13) [.slice a n c,sv s] [.tmp 4] Tryz.func32 ?_;refine k7 _ (λw' hm=>LF s hs w') ?_;refine s8 (λh1=>?_) λh1=>?_
 ·rw[Z7] at h1;rw[if_pos h1];exact⟨[],⟨rfl,rfl⟩,pk [0]⟩
 rw[iM] at h1;rw[if_neg (by rw[h1];decide)];refine k7 _ (λw' hm=>Oo s w' (hL.mono (j7 _) (hm 0 _ rfl).whole) hn) ?_;refine d8 (λh2=>?_) λh2=>?_
 ·rw[if_pos h2];exact⟨[],⟨rfl,rfl⟩,pk [0]⟩
 ·rw[if_neg h2];exact⟨[],⟨rfl,rfl⟩,pk [0]⟩
theorem Nl (z:Int) (m:Nat) (hm:m < 1000000000000) (w:World):j6 Tryz.prog 103 #[iQ z,iQ m] w (v7 w (.bool (aH z m))):=by
 unfold aH;refine enterZ (cx 14) [iQ z,iQ m] [.tmp 4] Tryz.func103 ?_;refine nwo ?_;refine d8 (λh1=>?_) λh1=>?_
 ·rw[decide_eq_true (show z < -(m:Int) by omega),Bool.true_or];exact⟨[],⟨rfl,rfl⟩,pk [0]⟩
 ·rw[decide_eq_false (show ¬ z < -(m:Int) by omega),AV];exact⟨[],⟨rfl,rfl⟩,pk [0]⟩
theorem Oj (d:S1) (w:World):j6 Tryz.prog 105 #[.agg #[sv d.1,iQ d.2.1,iQ d.2.2.1,iQ d.2.2.2]] w (v7 w (iQ (wM d))):=by
 unfold wM;refine enterZ (cx 21) [.agg #[sv d.1,iQ d.2.1,iQ d.2.2.1,iQ d.2.2.2]] [.tmp 2] Tryz.func105 ?_;intro b1;refine k7 _ (λw' hm=>Nl d.2.1 1073741824 dc w') ?_;refine s8 (λh1=>?_) λh1=>?_
 ·rw[if_pos (by rw[show aH d.2.1 1073741824=true from h1];rfl)];exact⟨[],⟨rfl,rfl⟩,pk [0]⟩
 refine k7 _ (λw' hm=>Nl d.2.2.1 1073741824 dc w') ?_;refine s8 (λh2=>?_) λh2=>?_
 ·rw[if_pos (by rw[show aH d.2.2.1 1073741824=true from h2];simp)];exact⟨[],⟨rfl,rfl⟩,pk [0]⟩
 refine k7 _ (λw' hm=>Nl d.2.2.2 1073741824 dc w') ?_;refine s8 (λh3=>?_) λh3=>?_
 ·rw[if_pos (by rw[show aH d.2.2.2 1073741824=true from h3];simp)];exact⟨[],⟨rfl,rfl⟩,pk [0]⟩
 rw[if_neg (by rw[show aH d.2.1 1073741824=false from h1,show aH d.2.2.1 1073741824=false from h2,show aH d.2.2.2 1073741824=false from h3];decide)];refine d8 (λh4=>?_) λh4=>?_
 ·rw[if_pos om];exact⟨[],⟨rfl,rfl⟩,pk [0]⟩
 ·rw[if_neg om];exact⟨[],⟨rfl,rfl⟩,pk [0]⟩
set_option maxRecDepth 10000 in
theorem Om (s t:e8) (hs:s.length < 1000000) (ht:t.length < 1000000) (h1:I7 s=0) (h2:I7 t=0) (w:World) :
  j6 Tryz.prog 177 #[sv s,sv t] w (v7 w (.bool (!decide (dF t*dG s < dF s*dG t)))):=by
 refine enterZ (cx 23) [sv s,sv t] [.tmp 4] Tryz.func177 ?_;refine o7 (λ_ kz=>kz _ _ ?_);refine o7 λq' hq'=>?_;refine call (λw' hm=>R3 s hs w') ?_;rintro _ _ ⟨g,rfl,hR⟩;obtain⟨⟨m1,⟨a1,k1,c1⟩,a2,k2,c2⟩,rfl,x1,y1,r1,r2,r3⟩:=NP hR h1;intro b5;apply hq';refine o7 λq' hq'=>?_;refine call (λw' hm=>R3 t ht w') ?_;rintro _ _ ⟨g2,rfl,hR2⟩;obtain⟨⟨m3,⟨a3,k3,c3⟩,a4,k4,c4⟩,rfl,x2,y2,u1,u2,u3⟩:=NP hR2 h2;intro b7;apply hq';refine k7 _ (λw' hm=>cS w' (r1.mono (hm 1 _ rfl).whole) (u1.mono (hm 3 _ rfl).whole)) ?_;dsimp only at r2 r3 u2 u3;rw[r2,r3,u2,u3];have e:decide (iC (dF s*dG t) (dF t*dG s)<=0) = !decide (dF t*dG s < dF s*dG t):=by
  rw[<-decide_not,decide_eq_decide];have:=fL (a:=dF s*dG t) (b:=dF t*dG s);omega
 exact⟨[],⟨congrArg Value.bool e,rfl⟩,pk [0]⟩
end Go.Proofs.YtpjhmeicbjkcdaaGreatDoor
namespace Go.Proofs.YtpjhmeicbjkcdaaGreatDoor
open Go Go.RowKit Go.Dw
def Qr (v:V3) (i:Nat):Int:=[v.1,v.2.1,v.2.2].getD i 0
theorem Pf {v:V3} {i:Nat} (h:i < 3):(OP v)[i]?=some (iQ (Qr v i)):=by
 match i,h with
 | 0,_=>rfl
 | 1,_=>rfl
 | 2,_=>rfl
theorem Ph {L:List V3} {k:Nat} (hk:k < 3*L.length) (h:aH (Qr (L.getD (k / 3) (0,0,0)) (k % 3)) 4096=true):L.any tQ=true:=by
 have h3:k / 3 < L.length:=om
 rw[i7,i6 h3] at h;refine E6.2 ⟨L[k / 3],j0 h3,?_⟩;have hm:k % 3 < 3:=C8 _ dc;unfold tQ;have h':aH (Qr L[k / 3] (k % 3)) 4096=true:=h;generalize k % 3=i at hm h';match i,hm with
 | 0,_=>rw[show aH L[k / 3].1 4096=true from h'];rfl
 | 1,_=>rw[show aH L[k / 3].2.1 4096=true from h'];simp
 | 2,_=>rw[show aH L[k / 3].2.2 4096=true from h'];simp
theorem Pc {L:List V3} (h :∀k,k < 3*L.length->aH (Qr (L.getD (k / 3) (0,0,0)) (k % 3)) 4096=false):L.any tQ=false:=by
 rw[J8];intro v hv;obtain⟨m,hm,rfl⟩:=Q1.1 hv;have h0:=h (3*m) om;have h1:=h (3*m+1) om;have h2:=h (3*m+2) om;rw[show 3*m / 3=m by omega,show 3*m % 3=0 by omega] at h0;rw[show (3*m+1) / 3=m by omega,show (3*m+1) % 3=1 by omega] at h1;rw[show (3*m+2) / 3=m by omega,show (3*m+2) % 3=2 by omega] at h2;rw[i7,i6 hm] at h0 h1 h2;unfold tQ;rw[show aH L[m].1 4096=false from h0,show aH L[m].2.1 4096=false from h1,show aH L[m].2.2 4096=false from h2];decide
set_option maxRecDepth 10000 in
set_option maxHeartbeats 1000000 in
theorem Oy {a:Option Addr} {n c:Nat} (p:W3) (hs:MS p) (w:World) (hL:Sl pN 1 (Hp.whole w) a n c p.2.2) :
  j6 Tryz.prog 33 #[.agg #[sv p.1,iQ p.2.1,.slice a n c]] w (v7 w (iQ (wF p))):=by
 obtain⟨nm,cap,cells⟩:=p;obtain⟨hs1,hs2⟩:=hs;dsimp only at hL hs1 hs2 ⊢;have hll:=hL.len;have hE:wF (nm,cap,cells)=if cap < 1\/1048576 < cap then 2 else if 6 < cells.length then 6 else mO (λi=>IX (cells.getD i [])) cells.length:=rfl
 rw[hE];refine enterZ (cx 50) [.agg #[sv nm,iQ cap,.slice a n c]] [.tmp 2] Tryz.func33 ?_;intro b1;refine d8 (λh1=>?_) λh1=>?_
 ·rw[if_pos (Or.inl h1)];exact⟨[],⟨rfl,rfl⟩,pk [0]⟩
 refine d8 (λh2=>?_) λh2=>?_
 ·rw[if_pos (Or.inr h2)];exact⟨[],⟨rfl,rfl⟩,pk [0]⟩
 rw[if_neg om];refine d8 (λh3=>?_) λh3=>?_
 ·rw[if_pos om];exact⟨[],⟨rfl,rfl⟩,pk [0]⟩
 rw[if_neg om];refine u6.mk Nat (λi=>[(1,.bx 1 0),(3,.v (iQ i))]) (λ_=>[.hp (Hp.whole w),.box b1 [sv nm,iQ cap,.slice a n c] 83])
  (λi=>i<=n/\∀j,j < i->IX (cells.getD j [])=0) (λi=>n - i) 0 ⟨f8 _,λ_ h=>absurd h (H5 _)⟩ (v6.mk (λ_ _ h=>h) rfl rfl) ?_
 rintro i ⟨hi,hz⟩;dsimp only at hi hz ⊢;refine d8 (λh4=>?_) λh4=>?_
 ·have hil:i < cells.length:=om
  obtain⟨V,hV⟩ :∃V,V=cells[i]:=⟨_,rfl⟩
  have hgd:cells.getD i []=V:=by rw[i7,i6 hil,hV];rfl
  have hVl:V.length < 1000000:=hs2 V (by rw[hV];exact j0 hil);have hK:IX (cells.getD i [])=if 16 < V.length then 6 else if V.any tQ=true then 2 else 0:=by rw[hgd];rfl
  refine I1 cQ (e:=86) rfl hL i rfl hil λb9 o9 cs hcs hR hcell5=>?_;rw[<-hV] at hR;obtain⟨a3,n3,c3,rfl,hs3⟩:=hR;have hl3:=hs3.len;refine lQ 0 (hcell5 0 _ rfl) ?_;refine d8 (λh6=>?_) λh6=>?_
  ·rw[if_pos om] at hK;rw[zN hz hil hK dc];exact⟨[],⟨rfl,rfl⟩,pk [0]⟩
  rw[if_neg om] at hK;refine u6.mk Nat (λk=>[(1,.bx 1 0),(3,.v (iQ i)),(4,.v (.slice a3 n3 c3)),(5,.v (iQ k))]) (λ_=>[.hp (Hp.whole w),.box b1 [sv nm,iQ cap,.slice a n c] 83])
   (λk=>k<=3*n3/\∀j,j < k->aH (Qr (V.getD (j / 3) (0,0,0)) (j % 3)) 4096=false) (λk=>3*n3 - k) 0 ⟨f8 _,λ_ h=>absurd h (H5 _)⟩ (v6.mk (λ_ _ h=>h) rfl rfl) ?_
  rintro k ⟨hk,hq⟩;dsimp only at hk hq ⊢;refine nwo ?_;refine d8 (λh7=>?_) λh7=>?_
  ·have hk3:k / 3 < V.length:=om
   have hkm:k % 3 < 3:=C8 _ dc;have hgv:V.getD (k / 3) (0,0,0)=V[k / 3]:=by rw[i7,i6 hk3];rfl
   refine Hc k 3 (k / 3) rfl rfl dc om rfl ?_;refine gR k 3 (k % 3) rfl rfl dc rfl ?_;refine I1 cQ (e:=122) rfl hs3 (k / 3) rfl hk3 λb8 o8 cs hcs hR hcell8=>?_;subst hR;have hcv:=hcell8 (k % 3) _ (Pf hkm);rw[<-hgv] at hcv;obtain⟨z,hzz⟩ :∃z,z=Qr (V.getD (k / 3) (0,0,0)) (k % 3):=⟨_,rfl⟩
   rw[<-hzz] at hcv;refine CQ cQ (T:=122) (e:=3) (len:=3) rfl rfl rfl rfl (k % 3) rfl hkm ?_;refine lQ 0 (by rw[y8];exact hcv) ?_;refine k7 _ (λw' hm=>Nl z 4096 dc w') ?_;refine s8 (λh9=>?_) λh9=>?_
   ·rw[hzz] at h9;rw[if_pos (Ph om h9)] at hK;rw[zN hz hil hK dc];exact⟨[],⟨rfl,rfl⟩,pk [0]⟩
   ·rw[hzz] at h9;refine nwo ?_;exact⟨k+1,⟨om,λj hj=>(K8 j k).elim (hq j) (λg=>by rw[show j=k by omega];exact h9)⟩,om,v6.mk (λ_ _ h=>h) rfl rfl⟩
  ·refine nwo ?_;rw[if_neg (by rw[Pc (λj hj=>hq j om)];decide)] at hK;exact⟨i+1,⟨om,λj hj=>(K8 j i).elim (hz j) (λg=>by rw[show j=i by omega];exact hK)⟩,om,v6.mk (λ_ _ h=>h) rfl rfl⟩
 ·rw[V8.2 (λj hj=>hz j om)];exact⟨[],⟨rfl,rfl⟩,pk [0]⟩
end Go.Proofs.YtpjhmeicbjkcdaaGreatDoor
namespace Go.Proofs.YtpjhmeicbjkcdaaGreatDoor
open Go Go.RowKit Go.Dw
def Qa (x:mX) (k:Nat):Int:=[x.2.2.1.1,x.2.2.1.2.1,x.2.2.1.2.2.1,x.2.2.1.2.2.2].getD k 0
def Pk (x:mX) (k:Nat):e8:=[x.2.2.2.1,x.2.2.2.2.1,x.2.2.2.2.2].getD k []
theorem Oq {x:mX} {k:Nat} (h:k < 4) (hb:aH (Qa x k) 12=true):(aH x.2.2.1.1 12 || (aH x.2.2.1.2.1 12 || (aH x.2.2.1.2.2.1 12 || aH x.2.2.1.2.2.2 12)))=true:=by
 match k,h with
 | 0,_=>rw[show aH x.2.2.1.1 12=true from hb];rfl
 | 1,_=>rw[show aH x.2.2.1.2.1 12=true from hb];simp
 | 2,_=>rw[show aH x.2.2.1.2.2.1 12=true from hb];simp
 | 3,_=>rw[show aH x.2.2.1.2.2.2 12=true from hb];simp
theorem Pi {x:mX} (h :∀k,k < 4->aH (Qa x k) 12=false):(aH x.2.2.1.1 12 || (aH x.2.2.1.2.1 12 || (aH x.2.2.1.2.2.1 12 || aH x.2.2.1.2.2.2 12)))=false:=by
 rw[show aH x.2.2.1.1 12=false from h 0 dc,show aH x.2.2.1.2.1 12=false from h 1 dc,show aH x.2.2.1.2.2.1 12=false from h 2 dc,show aH x.2.2.1.2.2.2 12=false from h 3 dc];rfl
theorem Ow {x:mX} {k:Nat} (h:k < 3) (hz :∀j,j < k->I7 (Pk x j)=0) (hb:I7 (Pk x k)≠0):oE (I7 x.2.2.2.1) (oE (I7 x.2.2.2.2.1) (I7 x.2.2.2.2.2))=I7 (Pk x k):=by
 match k,h with
 | 0,_=>exact gS hb
 | 1,_=>rw[show I7 x.2.2.2.1=0 from hz 0 dc,P7];exact gS hb
 | 2,_=>rw[show I7 x.2.2.2.1=0 from hz 0 dc,P7,show I7 x.2.2.2.2.1=0 from hz 1 dc,P7];rfl
theorem Pj {x:mX} (hz :∀j,j < 3->I7 (Pk x j)=0):oE (I7 x.2.2.2.1) (oE (I7 x.2.2.2.2.1) (I7 x.2.2.2.2.2))=0:=by
 rw[show I7 x.2.2.2.1=0 from hz 0 dc,P7,show I7 x.2.2.2.2.1=0 from hz 1 dc,P7];exact hz 2 dc
theorem Ot {x:mX} (hs:Br x) {k:Nat} (h:k < 3):(Pk x k).length < 1000000:=by
 match k,h with
 | 0,_=>exact hs.o1
 | 1,_=>exact hs.o2
 | 2,_=>exact hs.o3
set_option maxRecDepth 10000 in
set_option maxHeartbeats 1000000 in
theorem Ol {a:Option Addr} {n c:Nat} {P:List e8} (x:mX) (hs:Br x) (w:World) (hP:Sl (B0 fS) 1 (Hp.whole w) a n c P) (hn:P.length < 1000000) :
  j6 Tryz.prog 34 #[.slice a n c,.agg (dM x).toArray] w (v7 w (iQ (wL P x))):=by
 unfold wL;refine enterZ (cx 36) [.slice a n c,.agg #[sv x.1,sv x.2.1,iQ x.2.2.1.1,iQ x.2.2.1.2.1,iQ x.2.2.1.2.2.1,iQ x.2.2.1.2.2.2,sv x.2.2.2.1,sv x.2.2.2.2.1,sv x.2.2.2.2.2]] [.tmp 4] Tryz.func34 ?_;intro b3;refine k7 _ (λw' hm=>Oo x.2.1 w' (hP.mono (j7 _) (hm 0 _ rfl).whole) hn) ?_;refine s8 (λh1=>?_) λh1=>?_
 ·rw[Z7,decide_eq_false_iff_not] at h1;rw[if_pos h1];exact⟨[],⟨rfl,rfl⟩,pk [0]⟩
 rw[iM,decide_eq_true_eq] at h1;rw[if_neg (λh=>h h1)];refine u6.mk Nat (λk=>[(3,.bx 1 0),(5,.v (iQ k))]) (λ_=>[.hp (Hp.whole w),.box b3 (dM x) 93])
  (λk=>k<=4/\∀j,j < k->aH (Qa x j) 12=false) (λk=>4 - k) 0 ⟨f8 _,λ_ h=>absurd h (H5 _)⟩ (v6.mk (λ_ _ h=>h) rfl rfl) ?_
 rintro k ⟨hk,ho⟩;dsimp only at hk ho ⊢;refine d8 (λh2=>?_) λh2=>?_
 ·have hk4:k=0\/k=1\/k=2\/k=3:=om
  rcases hk4 with rfl | rfl | rfl | rfl
  ·refine k7 _ (λw' hm=>Nl (Qa x 0) 12 dc w') ?_;refine s8 (λh3=>?_) λh3=>?_
   ·rw[if_pos (Oq (k:=0) dc h3)];exact⟨[],⟨rfl,rfl⟩,pk [0]⟩
   ·refine nwo ?_;exact⟨0+1,⟨om,λj hj=>(K8 j 0).elim (ho j) (λg=>by rw[show j=0 by omega];exact h3)⟩,om,v6.mk (λ_ _ h=>h) rfl rfl⟩
  ·refine k7 _ (λw' hm=>Nl (Qa x 1) 12 dc w') ?_;refine s8 (λh3=>?_) λh3=>?_
   ·rw[if_pos (Oq (k:=1) dc h3)];exact⟨[],⟨rfl,rfl⟩,pk [0]⟩
   ·refine nwo ?_;exact⟨1+1,⟨om,λj hj=>(K8 j 1).elim (ho j) (λg=>by rw[show j=1 by omega];exact h3)⟩,om,v6.mk (λ_ _ h=>h) rfl rfl⟩
  ·refine k7 _ (λw' hm=>Nl (Qa x 2) 12 dc w') ?_;refine s8 (λh3=>?_) λh3=>?_
   ·rw[if_pos (Oq (k:=2) dc h3)];exact⟨[],⟨rfl,rfl⟩,pk [0]⟩
   ·refine nwo ?_;exact⟨2+1,⟨om,λj hj=>(K8 j 2).elim (ho j) (λg=>by rw[show j=2 by omega];exact h3)⟩,om,v6.mk (λ_ _ h=>h) rfl rfl⟩
  ·refine k7 _ (λw' hm=>Nl (Qa x 3) 12 dc w') ?_;refine s8 (λh3=>?_) λh3=>?_
   ·rw[if_pos (Oq (k:=3) dc h3)];exact⟨[],⟨rfl,rfl⟩,pk [0]⟩
   ·refine nwo ?_;exact⟨3+1,⟨om,λj hj=>(K8 j 3).elim (ho j) (λg=>by rw[show j=3 by omega];exact h3)⟩,om,v6.mk (λ_ _ h=>h) rfl rfl⟩
 rw[if_neg (by rw[Pi (λj hj=>ho j om)];decide)];clear ho hk h2;refine u6.mk Nat (λk=>[(3,.bx 1 0),(6,.v (iQ k))]) (λ_=>[.hp (Hp.whole w),.box b3 (dM x) 93])
  (λk=>k<=3/\∀j,j < k->I7 (Pk x j)=0) (λk=>3 - k) 0 ⟨f8 _,λ_ h=>absurd h (H5 _)⟩ (v6.mk (λ_ _ h=>h) rfl rfl) ?_
 rintro k ⟨hk,ho⟩;dsimp only at hk ho ⊢;refine d8 (λh2=>?_) λh2=>?_
 ·have hk3:k=0\/k=1\/k=2:=om
  rcases hk3 with rfl | rfl | rfl
  ·refine k7 _ (λw' hm=>rT (Pk x 0) (Ot hs dc) w') ?_;refine d8 (λh3=>?_) λh3=>?_
   ·rw[Ow (k:=0) dc ho h3];exact⟨[],⟨rfl,rfl⟩,pk [0]⟩
   ·refine nwo ?_;exact⟨0+1,⟨om,λj hj=>(K8 j 0).elim (ho j) (λg=>by rw[show j=0 by omega];exact j9 h3)⟩,om,v6.mk (λ_ _ h=>h) rfl rfl⟩
  ·refine k7 _ (λw' hm=>rT (Pk x 1) (Ot hs dc) w') ?_;refine d8 (λh3=>?_) λh3=>?_
   ·rw[Ow (k:=1) dc ho h3];exact⟨[],⟨rfl,rfl⟩,pk [0]⟩
   ·refine nwo ?_;exact⟨1+1,⟨om,λj hj=>(K8 j 1).elim (ho j) (λg=>by rw[show j=1 by omega];exact j9 h3)⟩,om,v6.mk (λ_ _ h=>h) rfl rfl⟩
  ·refine k7 _ (λw' hm=>rT (Pk x 2) (Ot hs dc) w') ?_;refine d8 (λh3=>?_) λh3=>?_
   ·rw[Ow (k:=2) dc ho h3];exact⟨[],⟨rfl,rfl⟩,pk [0]⟩
   ·refine nwo ?_;exact⟨2+1,⟨om,λj hj=>(K8 j 2).elim (ho j) (λg=>by rw[show j=2 by omega];exact j9 h3)⟩,om,v6.mk (λ_ _ h=>h) rfl rfl⟩
 ·rw[Pj (λj hj=>ho j om)];exact⟨[],⟨rfl,rfl⟩,pk [0]⟩
set_option maxRecDepth 20000 in
set_option maxHeartbeats 2000000 in
theorem Oc {dims e:Nat} (r:kV) {xs:List Value} (hd:dims < 1000000) (hs:XS r) (w:World) (he:P5 e (Hp.whole w) r.2.1 xs) :
  j6 Tryz.prog 107 #[iQ dims,.agg (sv r.1::(xs++[sv r.2.2.1,sv r.2.2.2])).toArray] w (v7 w (iQ (wE dims r))):=by
 obtain⟨nm,x,lo,hi⟩:=r;obtain⟨hx,hlo,hhi⟩:=hs;dsimp only at he hx hlo hhi ⊢;have hE:wE dims (nm,x,lo,hi)=oE (pL dims x) (oE (if lo = [] then 0 else I7 lo) (oE (if hi = [] then 0 else I7 hi) (if (lo≠[]/\hi≠[])/\dF hi*dG lo < dF lo*dG hi then 8 else 0))):=rfl;rw[hE];match e,he with
 | e+1,he=>
 have he0:=he;obtain⟨X,hX⟩ :∃X,X=x:=⟨_,rfl⟩
 rw[<-hX] at he0 hx ⊢;obtain⟨op,f,fac,args⟩:=x;obtain⟨a,n,c,a1,n1,c1,rfl,_,_⟩:=he;refine enterZ (cx 49) [iQ dims,.agg #[sv nm,iQ op,sv f.1,.slice a n c,sv fac,.slice a1 n1 c1,sv lo,sv hi]] [.tmp 4] Tryz.func107 ?_;intro b3;refine k7 _ (λw' hm=>QW w' hd hx (q7 _ _ _ _ _ (hm 0 _ rfl).whole he0)) ?_;refine d8 (λh1=>?_) λh1=>?_
 ·rw[gS h1];exact⟨[],⟨rfl,rfl⟩,pk [0]⟩
 rw[j9 h1,P7];refine cG (b:=[]) ?_;refine d8 (λh2=>?_) λh2=>?_
 ·rw[if_neg h2];refine k7 _ (λw' hm=>rT lo hlo w') ?_;refine d8 (λh3=>?_) λh3=>?_
  ·rw[gS h3];exact⟨[],⟨rfl,rfl⟩,pk [0]⟩
  have n1z:=j9 h3;rw[n1z,P7];refine cG (b:=[]) ?_;refine d8 (λh4=>?_) λh4=>?_
  ·rw[if_neg h4];refine k7 _ (λw' hm=>rT hi hhi w') ?_;refine d8 (λh5=>?_) λh5=>?_
   ·rw[gS h5];exact⟨[],⟨rfl,rfl⟩,pk [0]⟩
   have n2z:=j9 h5;rw[n2z,P7];refine cG (b:=[]) ?_;refine d8 (λ_=>?_) (λg=>absurd h2 g);refine cG (b:=[]) ?_;refine d8 (λ_=>?_) (λg=>absurd h4 g);refine k7 _ (λw' hm=>Om lo hi hlo hhi n1z n2z w') ?_;refine s8 (λh8=>?_) λh8=>?_
   ·rw[kC,decide_eq_true_eq] at h8;rw[if_pos ⟨⟨h2,h4⟩,h8⟩];exact⟨[],⟨rfl,rfl⟩,pk [0]⟩
   ·rw[kC,decide_eq_false_iff_not] at h8;rw[if_neg (λg=>h8 g.2)];exact⟨[],⟨rfl,rfl⟩,pk [0]⟩
  ·rw[if_pos (j9 h4),P7];refine cG (b:=[]) ?_;refine d8 (λ_=>?_) (λg=>absurd h2 g);refine cG (b:=[]) ?_;refine d8 (λg=>(h4 g).elim) λ_=>?_;rw[if_neg (λg=>h4 g.1.2)];exact⟨[],⟨rfl,rfl⟩,pk [0]⟩
 ·rw[if_pos (j9 h2),P7];refine cG (b:=[]) ?_;refine d8 (λh4=>?_) λh4=>?_;focus
   rw[if_neg h4];refine k7 _ (λw' hm=>rT hi hhi w') ?_;refine d8 (λh5=>?_) λh5=>?_
   ·rw[gS h5];exact⟨[],⟨rfl,rfl⟩,pk [0]⟩
   have n2z:=j9 h5;rw[n2z,P7]
  rotate_left
  focus
   rw[if_pos (j9 h4),P7]
  all_goals
   refine cG (b:=[]) ?_;refine d8 (λg=>(h2 g).elim) λ_=>?_;rw[if_neg (λg=>h2 g.1.1)];exact⟨[],⟨rfl,rfl⟩,pk [0]⟩
end Go.Proofs.YtpjhmeicbjkcdaaGreatDoor
namespace Go.Proofs.YtpjhmeicbjkcdaaGreatDoor
open Go Go.RowKit Go.Dw
structure Oh (p:jL):Prop where
 nm:p.nm.length<=80
 np:p.parts.length<=65
 ni:p.insts.length<=13
 nd:p.dims.length<=65
 nc:p.cons.length<=65
 nr:p.reqs.length<=65
 sp :∀x∈p.parts,x.1.length<=80/\x.2.2.length<=7/\∀c∈x.2.2,c.length<=17
 si :∀x∈p.insts,x.1.length<=80/\x.2.1.length<=80/\iT x.2.2.2.1=true/\iT x.2.2.2.2.1=true/\iT x.2.2.2.2.2=true
 sd :∀x∈p.dims,x.1.length<=80
 sc :∀x∈p.cons,x.1.length<=80/\uD x.2=true
 sr :∀x∈p.reqs,x.1.length<=80/\iT x.2.2.1=true/\iT x.2.2.2=true/\(jF 10 70 x.2.1).1=true
theorem Oh.prt {p:jL} (g:Oh p) :∀x∈p.parts,MS x:=λx hx=>by
 obtain⟨_,h1,h2⟩:=g.sp x hx;exact⟨om,λc hc=>by have:=h2 c hc;omega⟩
theorem Oh.ins {p:jL} (g:Oh p) :∀x∈p.insts,Br x:=λx hx=>by
 obtain⟨_,_,h1,h2,h3⟩:=g.si x hx;exact⟨DS h1,DS h2,DS h3⟩
theorem Oh.con {p:jL} (g:Oh p) :∀x∈p.cons,AR x.2:=λx hx=>Fa (g.sc x hx).2
theorem Oh.req {p:jL} (g:Oh p) :∀x∈p.reqs,XS x:=λx hx=>by
 obtain⟨_,h1,h2,h3⟩:=g.sr x hx;exact⟨WH 10 70 _ dc h3,DS h1,DS h2⟩
theorem Oh.prdS {p:jL} (g:Oh p):SJ p:=by
 obtain⟨h1,h2,h3,h4,h5,h6,_⟩:=id g;exact⟨om,om,om,om,om,om,g.prt,g.ins,g.con,g.req⟩
section
variable {α:Type} {most:Nat} {l:List α} {nm:α->e8} {f:α->Int} {r:Int}
theorem Nm {k:Nat} {e:Int} (hm : ¬ most < l.length) (hz :∀j,j < k->RA l nm f j=0) (hk:k < l.length) (he:RA l nm f k=e) (h0:e≠0):oE (bC most l nm f) r=e:=by
 rw[rU,if_neg hm,zN hz hk he h0,gS h0]
theorem Od (hm:most < l.length):oE (bC most l nm f) r=6:=by
 rw[rU,if_pos hm];exact gS dc
theorem Nr (hm : ¬ most < l.length) (hz :∀j,j < l.length->RA l nm f j=0):oE (bC most l nm f) r=r:=by
 rw[rU,if_neg hm,V8.2 hz,P7]
end
theorem Qv (a:Int):oE a 0=a:=by
 unfold oE;split
 ·rfl
 ·rename_i h;exact (j9 h).symm
def Pl (p:jL):Int:=oE (bC 64 p.dims (·.1) wM) (oE (bC 64 p.cons (·.1) λc=>jD p.dims.length c.2) (oE (bC 64 p.reqs (·.1) (wE p.dims.length)) 0))
theorem Pg (p:jL):IW p=if H8 p.nm=false then 11 else oE (bC 64 p.parts (·.1) wF) (oE (bC 12 p.insts (·.1) (wL (p.parts.map (·.1)))) (Pl p)):=by
 unfold IW Pl;rw[Qv]
set_option maxRecDepth 20000 in
set_option maxHeartbeats 2000000 in
theorem Ox {d:Nat} {p:jL} {cs:List Value} (w:World) (hp:qB d (Hp.whole w) p cs) (hs:Oh p) :
  j6 Tryz.prog 35 #[.agg cs.toArray] w (v7 w (iQ (Pl p))):=by
 obtain⟨a1,n1,c1,a2,n2,c2,a3,n3,c3,a4,n4,c4,a5,n5,c5,rfl,hP,hI,h3,h4,h5⟩:=hp.ex;have hlp:=hP.len;have hli:=hI.len;have hl3:=h3.len;have hl4:=h4.len;have hl5:=h5.len;have hs0d:=hs.nd;have hs0c:=hs.nc;have hs0r:=hs.nr;have hs0p:=hs.np;have hs0i:=hs.ni;subst hl3;unfold Pl;refine enterZ (cx 138) [.agg #[sv p.nm,.slice a1 n1 c1,.slice a2 n2 c2,.slice a3 p.dims.length c3,.slice a4 n4 c4,.slice a5 n5 c5]] [.tmp 2] Tryz.func35 ?_;intro b1;refine d8 (λe1=>?_) λe1=>?_
 ·rw[Od om];exact⟨[],⟨rfl,rfl⟩,pk [0]⟩
 have hmd : ¬ 64 < p.dims.length:=om
 refine u6.mk (Nat×Dw.Os) (λg=>[(1,.bx 1 0),(3,.v g.2.v),(4,.v zl),(5,.v zl),(6,.v (iQ p.dims.length)),(7,.v (iQ g.1))]) (λg=>[.hp (Hp.whole w),.box b1 [sv p.nm,.slice a1 n1 c1,.slice a2 n2 c2,.slice a3 p.dims.length c3,.slice a4 n4 c4,.slice a5 n5 c5] 30,.hp g.2.h])
  (λg=>g.1<=p.dims.length/\w8 fS 9 1 g.2 ((p.dims.take g.1).map (·.1))/\∀j,j < g.1->RA p.dims (·.1) wM j=0) (λg=>p.dims.length - g.1) (0,Dw.Os.nil) ⟨f8 _,w8.nil _ _ _,λ_ h=>absurd h (H5 _)⟩ (v6.mk (λ_ _ h=>Ok.emp h) rfl rfl) ?_
 rintro⟨k,o⟩ ⟨hk,ho,hz⟩;dsimp only at hk ho hz ⊢;refine d8 (λe2=>?_) λe2=>?_
 ·have hkl:k < p.dims.length:=om
  obtain⟨x,hx⟩ :∃x,x=p.dims[k]:=⟨_,rfl⟩
  have hxm:x∈p.dims:=by rw[hx];exact j0 hkl
  have hK:=rW (nm:=(·.1)) (f:=wM) hkl;rw[<-hx] at hK;have hs0:=w8.sl (f:=fS) (sz:=1) (λ_=>rfl) dc ho;have hol:((p.dims.take k).map (·.1)).length < 1000000:=by rw[l7,j8];omega
  refine I1 cQ (e:=48) rfl h3 k rfl hkl λb9 o9 cs hcs hR hcell=>?_;rw[<-hx] at hR;have hR:cs = [sv x.1,iQ x.2.1,iQ x.2.2.1,iQ x.2.2.2]:=hR;subst hR;refine lQ 0 (hcell 0 _ rfl) ?_;refine k7 _ (λw' hm=>Nn x.1 (by have:=hs.sd x hxm;omega) w' (hs0.mono (j7 _) (hm 2 _ rfl).whole) hol) ?_;refine d8 (λe4=>?_) λe4=>?_
  ·rw[gS e4] at hK;rw[Nm hmd hz hkl hK e4];exact⟨[],⟨rfl,rfl⟩,pk [0]⟩
  rw[j9 e4,P7] at hK;refine I1 cQ (e:=48) rfl h3 k rfl hkl λb9 o9 cs hcs hR hcell=>?_;rw[<-hx] at hR;have hR:cs = [sv x.1,iQ x.2.1,iQ x.2.2.1,iQ x.2.2.2]:=hR;subst hR;refine T7 cQ (i:=0) rfl hcell rfl ?_;refine k7 _ (λw' hm=>Oj x w') ?_;refine d8 (λe6=>?_) λe6=>?_
  ·rw[Nm hmd hz hkl hK e6];exact⟨[],⟨rfl,rfl⟩,pk [0]⟩
  have hK:=hK.trans (j9 e6);refine I1 cQ (e:=48) rfl h3 k rfl hkl λb9 o9 cs hcs hR hcell=>?_;rw[<-hx] at hR;have hR:cs = [sv x.1,iQ x.2.1,iQ x.2.2.1,iQ x.2.2.2]:=hR;subst hR;refine lQ 0 (hcell 0 _ rfl) ?_;intro b53;refine gF (f:=fS) cQ (e:=9) rfl (i:=2) rfl ho (j:=3) x.1 rfl rfl rfl rfl om λo2 ho2=>?_;refine nwo ?_;refine⟨(k+1,o2),⟨by dsimp only;omega,?_,λj hj=>(K8 j k).elim (hz j) (λg=>by rw[show j=k by omega];exact hK)⟩,by dsimp only;omega,v6.mk (pj [0,1,2]) rfl rfl⟩;dsimp only;rw[I8 _ k hkl,E9,<-hx];exact ho2
 rw[Nr hmd (λj hj=>hz j om)];clear hz hk e2;clear ho;refine d8 (λe1=>?_) λe1=>?_
 ·rw[Od om];exact⟨[],⟨rfl,rfl⟩,pk [0]⟩
 have hmc : ¬ 64 < p.cons.length:=om
 refine u6.mk (Nat×Dw.Os) (λg=>[(1,.bx 1 0),(4,.v g.2.v),(5,.v zl),(6,.v (iQ p.dims.length)),(10,.v (iQ g.1))]) (λg=>[.hp (Hp.whole w),.box b1 [sv p.nm,.slice a1 n1 c1,.slice a2 n2 c2,.slice a3 p.dims.length c3,.slice a4 n4 c4,.slice a5 n5 c5] 30,.hp g.2.h])
  (λg=>g.1<=n4/\w8 fS 9 1 g.2 ((p.cons.take g.1).map (·.1))/\∀j,j < g.1->RA p.cons (·.1) (λc:kY=>jD p.dims.length c.2) j=0) (λg=>n4 - g.1) (0,Dw.Os.nil) ⟨f8 _,w8.nil _ _ _,λ_ h=>absurd h (H5 _)⟩ (v6.mk (λ_ _ h=>Ok.emp (h.pick [0,1] rfl rfl)) rfl rfl) ?_
 rintro⟨k,o⟩ ⟨hk,ho,hz⟩;dsimp only at hk ho hz ⊢;refine d8 (λe2=>?_) λe2=>?_
 ·have hkl:k < p.cons.length:=om
  obtain⟨x,hx⟩ :∃x,x=p.cons[k]:=⟨_,rfl⟩
  have hxm:x∈p.cons:=by rw[hx];exact j0 hkl
  have hK:=rW (nm:=(·.1)) (f:=(λc:kY=>jD p.dims.length c.2)) hkl;rw[<-hx] at hK;have hs0:=w8.sl (f:=fS) (sz:=1) (λ_=>rfl) dc ho;have hol:((p.cons.take k).map (·.1)).length < 1000000:=by rw[l7,j8];omega
  refine I1 cQ (e:=96) rfl h4 k rfl hkl λb9 o9 cs hcs hR hcell=>?_;rw[<-hx] at hR;obtain⟨a9,n9,c9,rfl,hT⟩:=hR;refine lQ 0 (hcell 0 _ rfl) ?_;refine k7 _ (λw' hm=>Nn x.1 (by have:=(hs.sc x hxm).1;omega) w' (hs0.mono (j7 _) (hm 2 _ rfl).whole) hol) ?_;refine d8 (λe4=>?_) λe4=>?_
  ·rw[gS e4] at hK;rw[Nm hmc hz hkl hK e4];exact⟨[],⟨rfl,rfl⟩,pk [0]⟩
  rw[j9 e4,P7] at hK;refine I1 cQ (e:=96) rfl h4 k rfl hkl λb9 o9 cs hcs hR hcell=>?_;rw[<-hx] at hR;obtain⟨a9,n9,c9,rfl,hT⟩:=hR;refine T7 cQ (i:=0) rfl (cs:=[sv x.2.1,.slice a9 n9 c9]) (λj v hj=>by
   rw[nX];match j,hj with
   | 0,hj=>exact hcell 1 v hj
   | 1,hj=>exact hcell 2 v hj) rfl ?_
  refine k7 _ (λw' hm=>LG (f:=x.2) p.dims.length w' (hT.mono (j7 _) (hm 0 _ rfl).whole) (hs.con x hxm) om) ?_;refine d8 (λe6=>?_) λe6=>?_
  ·rw[Nm hmc hz hkl hK e6];exact⟨[],⟨rfl,rfl⟩,pk [0]⟩
  have hK:=hK.trans (j9 e6);refine I1 cQ (e:=96) rfl h4 k rfl hkl λb9 o9 cs hcs hR hcell=>?_;rw[<-hx] at hR;obtain⟨a9,n9,c9,rfl,hT⟩:=hR;refine lQ 0 (hcell 0 _ rfl) ?_;intro b53;refine gF (f:=fS) cQ (e:=9) rfl (i:=2) rfl ho (j:=3) x.1 rfl rfl rfl rfl om λo2 ho2=>?_;refine nwo ?_;refine⟨(k+1,o2),⟨by dsimp only;omega,?_,λj hj=>(K8 j k).elim (hz j) (λg=>by rw[show j=k by omega];exact hK)⟩,by dsimp only;omega,v6.mk (pj [0,1,2]) rfl rfl⟩;dsimp only;rw[I8 _ k hkl,E9,<-hx];exact ho2
 rw[Nr hmc (λj hj=>hz j om)];clear hz hk e2;clear ho;refine d8 (λe1=>?_) λe1=>?_
 ·rw[Od om];exact⟨[],⟨rfl,rfl⟩,pk [0]⟩
 have hmr : ¬ 64 < p.reqs.length:=om
 refine u6.mk (Nat×Dw.Os) (λg=>[(1,.bx 1 0),(5,.v g.2.v),(6,.v (iQ p.dims.length)),(13,.v (iQ g.1))]) (λg=>[.hp (Hp.whole w),.box b1 [sv p.nm,.slice a1 n1 c1,.slice a2 n2 c2,.slice a3 p.dims.length c3,.slice a4 n4 c4,.slice a5 n5 c5] 30,.hp g.2.h])
  (λg=>g.1<=n5/\w8 fS 9 1 g.2 ((p.reqs.take g.1).map (·.1))/\∀j,j < g.1->RA p.reqs (·.1) (wE p.dims.length) j=0) (λg=>n5 - g.1) (0,Dw.Os.nil) ⟨f8 _,w8.nil _ _ _,λ_ h=>absurd h (H5 _)⟩ (v6.mk (λ_ _ h=>Ok.emp (h.pick [0,1] rfl rfl)) rfl rfl) ?_
 rintro⟨k,o⟩ ⟨hk,ho,hz⟩;dsimp only at hk ho hz ⊢;refine d8 (λe2=>?_) λe2=>?_
 ·have hkl:k < p.reqs.length:=om
  obtain⟨x,hx⟩ :∃x,x=p.reqs[k]:=⟨_,rfl⟩
  have hxm:x∈p.reqs:=by rw[hx];exact j0 hkl
  have hK:=rW (nm:=(·.1)) (f:=(wE p.dims.length)) hkl;rw[<-hx] at hK;have hs0:=w8.sl (f:=fS) (sz:=1) (λ_=>rfl) dc ho;have hol:((p.reqs.take k).map (·.1)).length < 1000000:=by rw[l7,j8];omega
  refine I1 cQ (e:=74) rfl h5 k rfl hkl λb9 o9 cs hcs hR hcell=>?_;rw[<-hx] at hR;obtain⟨xs,rfl,hX⟩:=hR;refine lQ 0 (hcell 0 _ rfl) ?_;refine k7 _ (λw' hm=>Nn x.1 (by have:=(hs.sr x hxm).1;omega) w' (hs0.mono (j7 _) (hm 2 _ rfl).whole) hol) ?_;refine d8 (λe4=>?_) λe4=>?_
  ·rw[gS e4] at hK;rw[Nm hmr hz hkl hK e4];exact⟨[],⟨rfl,rfl⟩,pk [0]⟩
  rw[j9 e4,P7] at hK;refine I1 cQ (e:=74) rfl h5 k rfl hkl λb9 o9 cs hcs hR hcell=>?_;rw[<-hx] at hR;obtain⟨xs,rfl,hX⟩:=hR;obtain⟨p1,p2,p3,p4,p5,rfl⟩:=CU hX;refine T7 cQ (i:=0) rfl hcell rfl ?_;refine k7 _ (λw' hm=>Oc x (xs:=[p1,p2,p3,p4,p5]) om (hs.req x hxm) w' (q7 _ _ _ _ _ (hm 0 _ rfl).whole hX)) ?_;refine d8 (λe6=>?_) λe6=>?_
  ·rw[Nm hmr hz hkl hK e6];exact⟨[],⟨rfl,rfl⟩,pk [0]⟩
  have hK:=hK.trans (j9 e6);refine I1 cQ (e:=74) rfl h5 k rfl hkl λb9 o9 cs hcs hR hcell=>?_;rw[<-hx] at hR;obtain⟨xs,rfl,hX⟩:=hR;refine lQ 0 (hcell 0 _ rfl) ?_;intro b53;refine gF (f:=fS) cQ (e:=9) rfl (i:=2) rfl ho (j:=3) x.1 rfl rfl rfl rfl om λo2 ho2=>?_;refine nwo ?_;refine⟨(k+1,o2),⟨by dsimp only;omega,?_,λj hj=>(K8 j k).elim (hz j) (λg=>by rw[show j=k by omega];exact hK)⟩,by dsimp only;omega,v6.mk (pj [0,1,2]) rfl rfl⟩;dsimp only;rw[I8 _ k hkl,E9,<-hx];exact ho2
 rw[Nr hmr (λj hj=>hz j om)];clear hz hk e2;exact⟨[],⟨rfl,rfl⟩,pk [0]⟩
set_option maxRecDepth 20000 in
set_option maxHeartbeats 2000000 in
theorem Ov {d:Nat} {p:jL} {cs:List Value} (w:World) (hp:qB d (Hp.whole w) p cs) (hs:Oh p) :
  j6 Tryz.prog 11 #[.agg cs.toArray] w (v7 w (iQ (IW p))):=by
 have hp0:=hp;obtain⟨a1,n1,c1,a2,n2,c2,a3,n3,c3,a4,n4,c4,a5,n5,c5,rfl,hP,hI,h3,h4,h5⟩:=hp.ex;have hlp:=hP.len;have hli:=hI.len;have hl3:=h3.len;have hl4:=h4.len;have hl5:=h5.len;have hs0d:=hs.nd;have hs0c:=hs.nc;have hs0r:=hs.nr;have hs0p:=hs.np;have hs0i:=hs.ni;subst hl3;rw[Pg];refine enterZ (cx 92) [.agg #[sv p.nm,.slice a1 n1 c1,.slice a2 n2 c2,.slice a3 p.dims.length c3,.slice a4 n4 c4,.slice a5 n5 c5]] [.tmp 2] Tryz.func11 ?_;intro b1;refine k7 _ (λw' hm=>LF p.nm (by have:=hs.nm;omega) w') ?_;refine s8 (λh1=>?_) λh1=>?_
 ·rw[Z7] at h1;rw[if_pos h1];exact⟨[],⟨rfl,rfl⟩,pk [0]⟩
 rw[iM] at h1;rw[if_neg (by rw[h1];decide)];refine d8 (λe1=>?_) λe1=>?_
 ·rw[Od om];exact⟨[],⟨rfl,rfl⟩,pk [0]⟩
 have hmp : ¬ 64 < p.parts.length:=om
 refine u6.mk (Nat×Dw.Os) (λg=>[(1,.bx 1 0),(3,.v g.2.v),(4,.v zl),(5,.v (iQ g.1))]) (λg=>[.hp (Hp.whole w),.box b1 [sv p.nm,.slice a1 n1 c1,.slice a2 n2 c2,.slice a3 p.dims.length c3,.slice a4 n4 c4,.slice a5 n5 c5] 30,.hp g.2.h])
  (λg=>g.1<=n1/\w8 fS 9 1 g.2 ((p.parts.take g.1).map (·.1))/\∀j,j < g.1->RA p.parts (·.1) wF j=0) (λg=>n1 - g.1) (0,Dw.Os.nil) ⟨f8 _,w8.nil _ _ _,λ_ h=>absurd h (H5 _)⟩ (v6.mk (λ_ _ h=>Ok.emp h) rfl rfl) ?_
 rintro⟨k,o⟩ ⟨hk,ho,hz⟩;dsimp only at hk ho hz ⊢;refine d8 (λe2=>?_) λe2=>?_
 ·have hkl:k < p.parts.length:=om
  obtain⟨x,hx⟩ :∃x,x=p.parts[k]:=⟨_,rfl⟩
  have hxm:x∈p.parts:=by rw[hx];exact j0 hkl
  have hK:=rW (nm:=(·.1)) (f:=wF) hkl;rw[<-hx] at hK;have hs0:=w8.sl (f:=fS) (sz:=1) (λ_=>rfl) dc ho;have hol:((p.parts.take k).map (·.1)).length < 1000000:=by rw[l7,j8];omega
  refine I1 cQ (e:=83) rfl hP k rfl hkl λb9 o9 cs hcs hR hcell=>?_;rw[<-hx] at hR;obtain⟨a9,n9,c9,rfl,hV⟩:=hR;refine T7 cQ (i:=0) rfl hcell rfl ?_;intro b6;refine k7 _ (λw' hm=>Nn x.1 (by have:=(hs.sp x hxm).1;omega) w' (hs0.mono (j7 _) (hm 2 _ rfl).whole) hol) ?_;refine d8 (λe4=>?_) λe4=>?_
  ·rw[gS e4] at hK;rw[Nm hmp hz hkl hK e4];exact⟨[],⟨rfl,rfl⟩,pk [0]⟩
  rw[j9 e4,P7] at hK;refine k7 _ (λw' hm=>Oy x (hs.prt x hxm) w' (hV.mono S6 (hm 0 _ rfl).whole)) ?_;refine d8 (λe6=>?_) λe6=>?_
  ·rw[Nm hmp hz hkl hK e6];exact⟨[],⟨rfl,rfl⟩,pk [0]⟩
  have hK:=hK.trans (j9 e6);intro b51;refine gF (f:=fS) cQ (e:=9) rfl (i:=2) rfl ho (j:=4) x.1 rfl rfl rfl rfl om λo2 ho2=>?_;refine nwo ?_;refine⟨(k+1,o2),⟨by dsimp only;omega,?_,λj hj=>(K8 j k).elim (hz j) (λg=>by rw[show j=k by omega];exact hK)⟩,by dsimp only;omega,v6.mk (pj [0,1,2]) rfl rfl⟩;dsimp only;rw[I8 _ k hkl,E9,<-hx];exact ho2
 rw[Nr hmp (λj hj=>hz j om)];have ho0:w8 fS 9 1 o (p.parts.map (·.1)):=by
  have e:k=p.parts.length:=om
  subst e;rwa [p9] at ho
 clear hz hk e2;clear ho;obtain⟨o0,ho0e⟩ :∃o0,o0=o:=⟨_,rfl⟩
 rw[<-ho0e] at ho0 ⊢;clear ho0e o;have hso:=w8.sl (f:=fS) (sz:=1) (λ_=>rfl) dc ho0;refine d8 (λe1=>?_) λe1=>?_
 ·rw[Od om];exact⟨[],⟨rfl,rfl⟩,pk [0]⟩
 have hmi : ¬ 12 < p.insts.length:=om
 refine u6.mk (Nat×Dw.Os) (λg=>[(1,.bx 1 0),(3,.v o0.v),(4,.v g.2.v),(9,.v (iQ g.1))]) (λg=>[.hp (Hp.whole w),.box b1 [sv p.nm,.slice a1 n1 c1,.slice a2 n2 c2,.slice a3 p.dims.length c3,.slice a4 n4 c4,.slice a5 n5 c5] 30,.hp o0.h,.hp g.2.h])
  (λg=>g.1<=n2/\w8 fS 9 1 g.2 ((p.insts.take g.1).map (·.1))/\∀j,j < g.1->RA p.insts (·.1) (wL (p.parts.map (·.1))) j=0) (λg=>n2 - g.1) (0,Dw.Os.nil) ⟨f8 _,w8.nil _ _ _,λ_ h=>absurd h (H5 _)⟩ (v6.mk (λ_ _ h=>Ok.emp h) rfl rfl) ?_
 rintro⟨k,o⟩ ⟨hk,ho,hz⟩;dsimp only at hk ho hz ⊢;refine d8 (λe2=>?_) λe2=>?_
 ·have hkl:k < p.insts.length:=om
  obtain⟨x,hx⟩ :∃x,x=p.insts[k]:=⟨_,rfl⟩
  have hxm:x∈p.insts:=by rw[hx];exact j0 hkl
  have hK:=rW (nm:=(·.1)) (f:=(wL (p.parts.map (·.1)))) hkl;rw[<-hx] at hK;have hs0:=w8.sl (f:=fS) (sz:=1) (λ_=>rfl) dc ho;have hol:((p.insts.take k).map (·.1)).length < 1000000:=by rw[l7,j8];omega
  refine I1 cQ (e:=93) rfl hI k rfl hkl λb9 o9 cs hcs hR hcell=>?_;rw[<-hx] at hR;have hR:cs = [sv x.1,sv x.2.1,iQ x.2.2.1.1,iQ x.2.2.1.2.1,iQ x.2.2.1.2.2.1,iQ x.2.2.1.2.2.2,sv x.2.2.2.1,sv x.2.2.2.2.1,sv x.2.2.2.2.2]:=hR;subst hR;refine T7 cQ (i:=0) rfl hcell rfl ?_;intro b10;refine k7 _ (λw' hm=>Nn x.1 (by have:=(hs.si x hxm).1;omega) w' (hs0.mono (j7 _) (hm 3 _ rfl).whole) hol) ?_;refine d8 (λe4=>?_) λe4=>?_
  ·rw[gS e4] at hK;rw[Nm hmi hz hkl hK e4];exact⟨[],⟨rfl,rfl⟩,pk [0]⟩
  rw[j9 e4,P7] at hK;refine k7 _ (λw' hm=>Ol x (hs.ins x hxm) w' (hso.mono (j7 _) (hm 2 _ rfl).whole) (by rw[l7];omega)) ?_;refine d8 (λe6=>?_) λe6=>?_
  ·rw[Nm hmi hz hkl hK e6];exact⟨[],⟨rfl,rfl⟩,pk [0]⟩
  have hK:=hK.trans (j9 e6);intro b88;refine gF (f:=fS) cQ (e:=9) rfl (i:=3) rfl ho (j:=5) x.1 rfl rfl rfl rfl om λo2 ho2=>?_;refine nwo ?_;refine⟨(k+1,o2),⟨by dsimp only;omega,?_,λj hj=>(K8 j k).elim (hz j) (λg=>by rw[show j=k by omega];exact hK)⟩,by dsimp only;omega,v6.mk (pj [0,1,2,3]) rfl rfl⟩;dsimp only;rw[I8 _ k hkl,E9,<-hx];exact ho2
 rw[Nr hmi (λj hj=>hz j om)];clear hz hk e2;refine k7 _ (λw' hm=>Ox w' (hp0.mono (hm 0 _ rfl).whole) hs) ?_;exact⟨[],⟨rfl,rfl⟩,pk [0]⟩
end Go.Proofs.YtpjhmeicbjkcdaaGreatDoor
namespace Go.Proofs.YtpjhmeicbjkcdaaGreatDoor
open Go Go.RowKit Go.Dw
theorem Rm {d:Nat} {h:Hp} {x:Ex} {cs:List Value} (hx:P5 d h x cs) :∃op s a n c t a' n' c',cs = [iQ op,sv s,.slice a n c,sv t,.slice a' n' c']:=by
 match d,hx with
 | d+1,hx=>
 obtain⟨op,f,fac,args⟩:=x;obtain⟨a,n,c,a1,n1,c1,rfl,_⟩:=hx;exact⟨op,f.1,a,n,c,fac,a1,n1,c1,rfl⟩
def Px (x:W3):Prop:=x.1.length<=80/\x.2.2.length<=7/\∀c∈x.2.2,c.length<=17
def Py (x:mX):Prop:=x.1.length<=80/\x.2.1.length<=80/\iT x.2.2.2.1=true/\iT x.2.2.2.2.1=true/\iT x.2.2.2.2.2=true
def Rf (x:S1):Prop:=x.1.length<=80
def Rg (x:kY):Prop:=x.1.length<=80/\uD x.2=true
def Re (x:kV):Prop:=x.1.length<=80/\iT x.2.2.1=true/\iT x.2.2.2=true/\(jF 10 70 x.2.1).1=true
set_option maxRecDepth 20000 in
set_option maxHeartbeats 4000000 in
theorem Pe {d:Nat} {p:jL} {cs:List Value} (w:World) (hp:qB d (Hp.whole w) p cs) :
  j6 Tryz.prog 10 #[.agg cs.toArray] w (fD w λv cs=>∃b:Bool,v=.bool b/\cs = []/\(b=true->Oh p)):=by
 obtain⟨a1,n1,c1,a2,n2,c2,a3,n3,c3,a4,n4,c4,a5,n5,c5,rfl,hP,hI,h3,h4,h5⟩:=hp.ex;have hlp:=hP.len;have hli:=hI.len;have hl3:=h3.len;have hl4:=h4.len;have hl5:=h5.len;have hnm0:(bs p.nm).size=p.nm.length:=B6 _;refine enterZ (cx 210) [.agg #[sv p.nm,.slice a1 n1 c1,.slice a2 n2 c2,.slice a3 n3 c3,.slice a4 n4 c4,.slice a5 n5 c5]] [.tmp 2] Tryz.func10 ?_;intro b1;refine o7 (λ_ kz=>kz _ _ ?_);refine o7 λq' hq'=>?_;refine d8 (λm0=>?_) λm0=>?_
 ·apply hq';exact⟨[],⟨false,rfl,rfl,nofun⟩,pk [0]⟩
 rw[hnm0] at m0;refine d8 (λm1=>?_) λm1=>?_
 ·apply hq';exact⟨[],⟨false,rfl,rfl,nofun⟩,pk [0]⟩
 refine d8 (λm2=>?_) λm2=>?_
 ·apply hq';exact⟨[],⟨false,rfl,rfl,nofun⟩,pk [0]⟩
 refine d8 (λm3=>?_) λm3=>?_
 ·apply hq';exact⟨[],⟨false,rfl,rfl,nofun⟩,pk [0]⟩
 refine d8 (λm4=>?_) λm4=>?_
 ·apply hq';exact⟨[],⟨false,rfl,rfl,nofun⟩,pk [0]⟩
 apply hq';refine d8 (λm5=>?_) λm5=>?_
 ·exact⟨[],⟨false,rfl,rfl,nofun⟩,pk [0]⟩
 refine u6.mk Nat (λk=>[(1,.bx 1 0),(3,.v (iQ k))]) (λ_=>[.hp (Hp.whole w),.box b1 [sv p.nm,.slice a1 n1 c1,.slice a2 n2 c2,.slice a3 n3 c3,.slice a4 n4 c4,.slice a5 n5 c5] 30])
  (λk=>k<=n1/\∀j (hj:j < p.parts.length),j < k->Px p.parts[j]) (λk=>n1 - k) 0 ⟨f8 _,λ_ _ h=>absurd h (H5 _)⟩ (v6.mk (pj [0,1]) rfl rfl) ?_
 rintro k ⟨hk,ho⟩;dsimp only at hk ho ⊢;refine d8 (λe1=>?_) λe1=>?_
 ·have hkl:k < p.parts.length:=om
  obtain⟨x,hx⟩ :∃x,x=p.parts[k]:=⟨_,rfl⟩
  have hnm:(bs x.1).size=x.1.length:=B6 _;refine I1 cQ (e:=83) rfl hP k rfl hkl λb9 o9 cs hcs hR hcell=>?_;rw[<-hx] at hR;obtain⟨a9,n9,c9,rfl,hV⟩:=hR;have hl9:=hV.len;refine T7 cQ (i:=0) rfl hcell rfl ?_;intro b4;refine o7 (λ_ kz=>kz _ _ ?_);refine o7 λq' hq'=>?_;refine d8 (λg1=>?_) λg1=>?_
  ·apply hq';exact⟨[],⟨false,rfl,rfl,nofun⟩,pk [0]⟩
  rw[hnm] at g1;apply hq';refine d8 (λg2=>?_) λg2=>?_
  ·exact⟨[],⟨false,rfl,rfl,nofun⟩,pk [0]⟩
  refine u6.mk Nat (λi=>[(1,.bx 1 0),(3,.v (iQ k)),(4,.bx 2 0),(5,.v (iQ i))]) (λ_=>[.hp (Hp.whole w),.box b1 [sv p.nm,.slice a1 n1 c1,.slice a2 n2 c2,.slice a3 n3 c3,.slice a4 n4 c4,.slice a5 n5 c5] 30,.box b4 [sv x.1,iQ x.2.1,.slice a9 n9 c9] 83])
   (λi=>i<=n9/\∀j (hj:j < x.2.2.length),j < i->x.2.2[j].length<=17) (λi=>n9 - i) 0 ⟨f8 _,λ_ _ h=>absurd h (H5 _)⟩ (v6.mk (pj [0,1,2]) rfl rfl) ?_
  rintro i ⟨hi,hv⟩;dsimp only at hi hv ⊢;refine d8 (λe3=>?_) λe3=>?_
  ·have hil:i < x.2.2.length:=om
   refine I1 cQ (e:=86) rfl hV i rfl hil λb8 o8 cs hcs hR hcell5=>?_;obtain⟨a7,n7,c7,rfl,hs7⟩:=hR;have hl7:=hs7.len;refine lQ 0 (hcell5 0 _ rfl) ?_;refine d8 (λg4=>?_) λg4=>?_
   ·exact⟨[],⟨false,rfl,rfl,nofun⟩,pk [0]⟩
   refine nwo ?_;refine⟨i+1,⟨om,λj hj hji=>?_⟩,om,v6.mk (pj [0,1,2]) rfl rfl⟩;by_cases e:j=i
   ·subst e;omega
   ·exact hv j hj om
  refine nwo ?_;refine⟨k+1,⟨om,λj hj hjk=>?_⟩,om,v6.mk (pj [0,1]) rfl rfl⟩;by_cases e:j=k
  ·subst e;rw[<-hx];exact⟨om,om,λc hc=>by
    obtain⟨j,hj,rfl⟩:=Q1.1 hc;exact hv j hj om⟩
  ·exact ho j hj om
 have hf1 :∀x∈p.parts,Px x:=by
  intro x hx;obtain⟨j,hj,rfl⟩:=Q1.1 hx;exact ho j hj om
 clear ho hk e1;refine u6.mk Nat (λk=>[(1,.bx 1 0),(6,.v (iQ k))]) (λ_=>[.hp (Hp.whole w),.box b1 [sv p.nm,.slice a1 n1 c1,.slice a2 n2 c2,.slice a3 n3 c3,.slice a4 n4 c4,.slice a5 n5 c5] 30])
  (λk=>k<=n2/\∀j (hj:j < p.insts.length),j < k->Py p.insts[j]) (λk=>n2 - k) 0 ⟨f8 _,λ_ _ h=>absurd h (H5 _)⟩ (v6.mk (pj [0,1]) rfl rfl) ?_
 rintro k ⟨hk,ho⟩;dsimp only at hk ho ⊢;refine d8 (λe1=>?_) λe1=>?_
 ·have hkl:k < p.insts.length:=om
  obtain⟨x,hx⟩ :∃x,x=p.insts[k]:=⟨_,rfl⟩
  have hnm:(bs x.1).size=x.1.length:=B6 _;have hnm2:(bs x.2.1).size=x.2.1.length:=B6 _;refine I1 cQ (e:=93) rfl hI k rfl hkl λb9 o9 cs hcs hR hcell=>?_;rw[<-hx] at hR;have hR:cs = [sv x.1,sv x.2.1,iQ x.2.2.1.1,iQ x.2.2.1.2.1,iQ x.2.2.1.2.2.1,iQ x.2.2.1.2.2.2,sv x.2.2.2.1,sv x.2.2.2.2.1,sv x.2.2.2.2.2]:=hR;subst hR;refine T7 cQ (i:=0) rfl hcell rfl ?_;intro b7;refine o7 (λ_ kz=>kz _ _ ?_);refine o7 λq' hq'=>?_;refine d8 (λg1=>?_) λg1=>?_
  ·apply hq';exact⟨[],⟨false,rfl,rfl,nofun⟩,pk [0]⟩
  rw[hnm] at g1;refine d8 (λg2=>?_) λg2=>?_
  ·apply hq';exact⟨[],⟨false,rfl,rfl,nofun⟩,pk [0]⟩
  rw[hnm2] at g2;refine k7 _ (λw' hm=>mC x.2.2.2.1 w') ?_;refine s8 (λg3=>?_) λg3=>?_
  ·apply hq';exact⟨[],⟨false,rfl,rfl,nofun⟩,pk [0]⟩
  rw[iM] at g3;refine k7 _ (λw' hm=>mC x.2.2.2.2.1 w') ?_;refine s8 (λg4=>?_) λg4=>?_
  ·apply hq';exact⟨[],⟨false,rfl,rfl,nofun⟩,pk [0]⟩
  rw[iM] at g4;refine k7 _ (λw' hm=>mC x.2.2.2.2.2 w') ?_;apply hq';refine s8 (λg5=>?_) λg5=>?_
  ·exact⟨[],⟨false,rfl,rfl,nofun⟩,pk [0]⟩
  rw[iM] at g5;refine nwo ?_;refine⟨k+1,⟨om,λj hj hjk=>?_⟩,om,v6.mk (pj [0,1]) rfl rfl⟩;by_cases e:j=k
  ·subst e;rw[<-hx];exact⟨om,om,g3,g4,g5⟩
  ·exact ho j hj om
 have hf2 :∀x∈p.insts,Py x:=by
  intro x hx;obtain⟨j,hj,rfl⟩:=Q1.1 hx;exact ho j hj om
 clear ho hk e1;refine u6.mk Nat (λk=>[(1,.bx 1 0),(8,.v (iQ k))]) (λ_=>[.hp (Hp.whole w),.box b1 [sv p.nm,.slice a1 n1 c1,.slice a2 n2 c2,.slice a3 n3 c3,.slice a4 n4 c4,.slice a5 n5 c5] 30])
  (λk=>k<=n3/\∀j (hj:j < p.dims.length),j < k->Rf p.dims[j]) (λk=>n3 - k) 0 ⟨f8 _,λ_ _ h=>absurd h (H5 _)⟩ (v6.mk (pj [0,1]) rfl rfl) ?_
 rintro k ⟨hk,ho⟩;dsimp only at hk ho ⊢;refine d8 (λe1=>?_) λe1=>?_
 ·have hkl:k < p.dims.length:=om
  obtain⟨x,hx⟩ :∃x,x=p.dims[k]:=⟨_,rfl⟩
  have hnm:(bs x.1).size=x.1.length:=B6 _;refine I1 cQ (e:=48) rfl h3 k rfl hkl λb9 o9 cs hcs hR hcell=>?_;rw[<-hx] at hR;have hR:cs = [sv x.1,iQ x.2.1,iQ x.2.2.1,iQ x.2.2.2]:=hR;subst hR;refine lQ 0 (hcell 0 _ rfl) ?_;refine d8 (λg1=>?_) λg1=>?_
  ·exact⟨[],⟨false,rfl,rfl,nofun⟩,pk [0]⟩
  rw[hnm] at g1;refine nwo ?_;refine⟨k+1,⟨om,λj hj hjk=>?_⟩,om,v6.mk (pj [0,1]) rfl rfl⟩;by_cases e:j=k
  ·subst e;rw[<-hx];exact show x.1.length<=80 by omega
  ·exact ho j hj om
 have hf3 :∀x∈p.dims,Rf x:=by
  intro x hx;obtain⟨j,hj,rfl⟩:=Q1.1 hx;exact ho j hj om
 clear ho hk e1;refine u6.mk Nat (λk=>[(1,.bx 1 0),(9,.v (iQ k))]) (λ_=>[.hp (Hp.whole w),.box b1 [sv p.nm,.slice a1 n1 c1,.slice a2 n2 c2,.slice a3 n3 c3,.slice a4 n4 c4,.slice a5 n5 c5] 30])
  (λk=>k<=n4/\∀j (hj:j < p.cons.length),j < k->Rg p.cons[j]) (λk=>n4 - k) 0 ⟨f8 _,λ_ _ h=>absurd h (H5 _)⟩ (v6.mk (pj [0,1]) rfl rfl) ?_
 rintro k ⟨hk,ho⟩;dsimp only at hk ho ⊢;refine d8 (λe1=>?_) λe1=>?_
 ·have hkl:k < p.cons.length:=om
  obtain⟨x,hx⟩ :∃x,x=p.cons[k]:=⟨_,rfl⟩
  have hnm:(bs x.1).size=x.1.length:=B6 _;refine o7 λq' hq'=>?_;refine I1 cQ (e:=96) rfl h4 k rfl hkl λb9 o9 cs hcs hR hcell=>?_;rw[<-hx] at hR;obtain⟨a9,n9,c9,rfl,hT⟩:=hR;refine lQ 0 (hcell 0 _ rfl) ?_;refine d8 (λg1=>?_) λg1=>?_
  ·apply hq';exact⟨[],⟨false,rfl,rfl,nofun⟩,pk [0]⟩
  rw[hnm] at g1;refine I1 cQ (e:=96) rfl h4 k rfl hkl λb9 o9 cs hcs hR hcell=>?_;rw[<-hx] at hR;obtain⟨a9,n9,c9,rfl,hT⟩:=hR;refine T7 cQ (i:=0) rfl (cs:=[sv x.2.1,.slice a9 n9 c9]) (λj v hj=>by
   rw[nX];match j,hj with
   | 0,hj=>exact hcell 1 v hj
   | 1,hj=>exact hcell 2 v hj) rfl ?_
  refine k7 _ (λw' hm=>BG (f:=x.2) w' (hT.mono (j7 _) (hm 0 _ rfl).whole)) ?_;apply hq';refine s8 (λg2=>?_) λg2=>?_
  ·exact⟨[],⟨false,rfl,rfl,nofun⟩,pk [0]⟩
  rw[iM] at g2;refine nwo ?_;refine⟨k+1,⟨om,λj hj hjk=>?_⟩,om,v6.mk (pj [0,1]) rfl rfl⟩;by_cases e:j=k
  ·subst e;rw[<-hx];exact⟨om,g2⟩
  ·exact ho j hj om
 have hf4 :∀x∈p.cons,Rg x:=by
  intro x hx;obtain⟨j,hj,rfl⟩:=Q1.1 hx;exact ho j hj om
 clear ho hk e1;refine u6.mk Nat (λk=>[(1,.bx 1 0),(10,.v (iQ k))]) (λ_=>[.hp (Hp.whole w),.box b1 [sv p.nm,.slice a1 n1 c1,.slice a2 n2 c2,.slice a3 n3 c3,.slice a4 n4 c4,.slice a5 n5 c5] 30])
  (λk=>k<=n5/\∀j (hj:j < p.reqs.length),j < k->Re p.reqs[j]) (λk=>n5 - k) 0 ⟨f8 _,λ_ _ h=>absurd h (H5 _)⟩ (v6.mk (pj [0,1]) rfl rfl) ?_
 rintro k ⟨hk,ho⟩;dsimp only at hk ho ⊢;refine d8 (λe1=>?_) λe1=>?_
 ·have hkl:k < p.reqs.length:=om
  obtain⟨x,hx⟩ :∃x,x=p.reqs[k]:=⟨_,rfl⟩
  have hnm:(bs x.1).size=x.1.length:=B6 _;refine I1 cQ (e:=74) rfl h5 k rfl hkl λb9 o9 cs hcs hR hcell=>?_;rw[<-hx] at hR;obtain⟨xs,rfl,hX⟩:=hR;obtain⟨op,s1,a8,n8,c8,s2,a7,n7,c7,rfl⟩:=Rm hX;refine T7 cQ (i:=0) rfl hcell rfl ?_;intro b11;intro b12;refine o7 (λ_ kz=>kz _ _ ?_);refine o7 λq' hq'=>?_;refine d8 (λg1=>?_) λg1=>?_
  ·apply hq';exact⟨[],⟨false,rfl,rfl,nofun⟩,pk [0]⟩
  rw[hnm] at g1;refine k7 _ (λw' hm=>mC x.2.2.1 w') ?_;refine s8 (λg2=>?_) λg2=>?_
  ·apply hq';exact⟨[],⟨false,rfl,rfl,nofun⟩,pk [0]⟩
  rw[iM] at g2;refine k7 _ (λw' hm=>mC x.2.2.2 w') ?_;refine s8 (λg3=>?_) λg3=>?_
  ·apply hq';exact⟨[],⟨false,rfl,rfl,nofun⟩,pk [0]⟩
  rw[iM] at g3;refine jU (i:=3) rfl (λw0 w1 hok=>BH 10 d 70 1 x.2.1 _ w1 dc dc (hok.mem 3 _ rfl) (q7 _ _ _ _ _ (Hp.le_minus (hok.mem 0 _ rfl).whole (hok.disj 0 3 _ _ dc rfl rfl)) hX)) ?_;rintro _ _ ⟨rfl,l',rfl,_,_⟩;apply hq';refine s8 (λg4=>?_) λg4=>?_
  ·exact⟨[],⟨false,rfl,rfl,nofun⟩,pk [0]⟩
  rw[iM] at g4;refine nwo ?_;refine⟨k+1,⟨om,λj hj hjk=>?_⟩,om,v6.mk (pj [0,1]) rfl rfl⟩;by_cases e:j=k
  ·subst e;rw[<-hx];exact⟨om,g2,g3,g4⟩
  ·exact ho j hj om
 have hf5 :∀x∈p.reqs,Re x:=by
  intro x hx;obtain⟨j,hj,rfl⟩:=Q1.1 hx;exact ho j hj om
 clear ho hk e1;exact⟨[],⟨true,rfl,rfl,λ_=>⟨om,om,om,om,om,om,hf1,hf2,hf3,hf4,hf5⟩⟩,pk [0]⟩
end Go.Proofs.YtpjhmeicbjkcdaaGreatDoor
namespace Go.Proofs.YtpjhmeicbjkcdaaGreatDoor
open Go Go.RowKit Go.Dw
theorem qAdT {s:List Ch} {q:TV->Prop} {a b:List UInt8} (h:q (.v (sv (a++b)))) (hn:a.length+b.length < 9223372036854775808:=by first | omega | (simp only[d6,d7,d9];omega)):B7 Tryz.prog s (binOp .add 9 (sv a) (sv b)) q:=P0 hn h
section
variable {α:Type} {F:α->e8} {L:List α} {k:Nat} {x:α} {pre t T:e8}
theorem Pd (hk:k < L.length) (h0 : ¬ 0 < k) (ht:t=pre++O5 ((L.take k).map F)):t++F L[k]=pre++O5 ((L.take (k+1)).map F):=by
 have hz:k=0:=om
 subst hz;rw[I8 L 0 hk,ht];simp[O5]
theorem Pn (hk:k < L.length) (h0:0 < k) (ht:t=pre++O5 ((L.take k).map F)):t++[44,32]++F L[k]=pre++O5 ((L.take (k+1)).map F):=by
 have hne:(L.take k).map F≠[]:=by
  intro h;have:=congrArg F7 h;rw[l7,j8,d9] at this;omega
 rw[I8 L k hk,E9,N7,Pp,eZ,if_neg hne,ht];simp
theorem Qj (L:List α) (k:Nat):(O5 ((L.take k).map F)).length<=(O5 (L.map F)).length:=by
 have:=tA ((L.take k).map F) ((L.drop k).map F);rw[<-E9,E4] at this;exact this
theorem No (hk:k < L.length) (hx:x=L[k]) (ht:t=pre++(L.take k).flatMap F) (hT:T=t++F x):T=pre++(L.take (k+1)).flatMap F:=by rw[cW hk,hT,ht,hx,o6]
theorem Ns (hk:k < L.length) (hx:x=L[k]) (ht:t=pre++(L.take k).flatMap F) (hp:pre.length+(L.flatMap F).length < 1000000000):t.length+(F x).length < 1000000000:=by
 have:=sB (g:=F) hk;rw[ht,d6,hx];omega
end
set_option maxRecDepth 10000 in
theorem Np {a:Option Addr} {n c:Nat} (op en:e8) (L:List Int) (hz :∀z∈L,LV z) (w:World) (hL:Sl (B0 Gf) 1 (Hp.whole w) a n c L) (hn:L.length < 1000000) (hP:dT (Hp.whole w)) (hl:op.length+(O5 (L.map zT)).length+en.length < 1000000000) :
  j6 Tryz.prog 64 #[sv op,.slice a n c,sv en] w (v7 w (sv (op++O5 (L.map zT)++en))):=by
 have hll:=hL.len;refine enterZ (cx 30) [sv op,.slice a n c,sv en] [.tmp 6] Tryz.func64 ?_;refine u6.mk (Nat×e8) (λg=>[(1,.v (.slice a n c)),(2,.v (sv en)),(7,.v (sv g.2)),(8,.v (iQ g.1))]) (λ_=>[.hp (Hp.whole w)])
  (λg=>g.1<=n/\g.2=op++O5 ((L.take g.1).map zT)) (λg=>n - g.1) (0,op) ⟨f8 _,by show op=op++[];rw[p8]⟩ (v6.mk (λ_ _ h=>h) rfl rfl) ?_
 rintro⟨k,t⟩ ⟨hk,ht⟩;dsimp only at hk ht ⊢;have htl:=congrArg F7 ht;rw[d6] at htl;refine d8 (λh1=>?_) λh1=>?_
 ·have hkl:k < L.length:=om
  obtain⟨z,hzk⟩ :∃z,z=L[k]:=⟨_,rfl⟩
  have hz1:LV z:=hz z (by rw[hzk];exact j0 hkl);have hle:=Qj (F:=zT) L (k+1);refine d8 (λh2=>?_) λh2=>?_;focus
   have hnx:=Pn (F:=zT) hkl om ht;rw[<-hzk] at hnx;have hnl:=congrArg F7 hnx;simp only[d6,d7,d9] at hnl;refine qAdT ?_
  rotate_left
  focus
   have hnx:=Pd (F:=zT) hkl om ht;rw[<-hzk] at hnx;have hnl:=congrArg F7 hnx;simp only[d6] at hnl
  all_goals
   refine I1 cQ (e:=3) rfl hL k rfl hkl λb9 o9 cs hcs hR hcell=>?_;rw[<-hzk] at hR;subst hR;refine lQ 0 (hcell 0 _ rfl) ?_;refine k7 (sv (zT z)) (λw' hm=>fU z hz1 w' (hP.mono (hm 0 _ rfl).whole)) ?_;refine qAdT ?_;refine nwo ?_;exact⟨(k+1,_),⟨by dsimp only;omega,hnx⟩,by dsimp only;omega,v6.mk (λ_ _ h=>h) rfl rfl⟩
 ·have hk2:k=L.length:=om
  subst hk2;rw[p9] at ht htl;refine qAdT ?_;rw[ht];exact⟨[],⟨rfl,rfl⟩,pk [0]⟩
end Go.Proofs.YtpjhmeicbjkcdaaGreatDoor
namespace Go.Proofs.YtpjhmeicbjkcdaaGreatDoor
open Go Go.RowKit Go.Dw
theorem Qt {v:V3} (h:(-4096<=v.1/\v.1<=4096)/\(-4096<=v.2.1/\v.2.1<=4096)/\(-4096<=v.2.2/\v.2.2<=4096)) :∀z∈[v.1,v.2.1,v.2.2],LV z:=λz hz=>by
 simp only[A8,Q0,or_false] at hz;rcases hz with rfl | rfl | rfl <;> exact nJ om
theorem Pz {a b c d:Int} (h:(-12<=a/\a<=12)/\(-12<=b/\b<=12)/\(-12<=c/\c<=12)/\(-12<=d/\d<=12)) :∀z∈[a,b,c,d],LV z:=λz hz=>by
 simp only[A8,Q0,or_false] at hz;rcases hz with rfl | rfl | rfl | rfl <;> exact nJ om
theorem Pq {a b:Int} :∀i (hi:i < [a,b].length) j v,(Gf [a,b][i])[j]?=some v->[Value.int .i64 a,iQ b][0+i*1+j]?=some v:=λi hi j v hj=>by
 match i,j,hi,hj with
 | 0,0,_,hj=>exact hj
 | 1,0,_,hj=>exact hj
theorem Qx {a b c:Int} :∀i (hi:i < [a,b,c].length) j v,(Gf [a,b,c][i])[j]?=some v->[Value.int .i64 a,iQ b,iQ c][0+i*1+j]?=some v:=λi hi j v hj=>by
 match i,j,hi,hj with
 | 0,0,_,hj=>exact hj
 | 1,0,_,hj=>exact hj
 | 2,0,_,hj=>exact hj
theorem Qw {a b c d:Int} {s1 s2 s3 s4 s5:Value} :∀i (hi:i < [a,b,c,d].length) j v,(Gf [a,b,c,d][i])[j]?=some v->[s1,s2,Value.int .i64 a,iQ b,iQ c,iQ d,s3,s4,s5][2+i*1+j]?=some v:=λi hi j v hj=>by
 match i,j,hi,hj with
 | 0,0,_,hj=>exact hj
 | 1,0,_,hj=>exact hj
 | 2,0,_,hj=>exact hj
 | 3,0,_,hj=>exact hj
theorem Oz (a b:Int):O5 ([a,b].map zT)=zT a++44::32::zT b:=rfl
set_option maxRecDepth 20000 in
set_option maxHeartbeats 4000000 in
theorem Ou {d:Nat} {p:jL} {cs:List Value} (w:World) (hp:qB d (Hp.whole w) p cs) (hs:Oh p) (g:Bo p) (hT:kU (Hp.whole w)) (hP:dT (Hp.whole w)) :
  j6 Tryz.prog 14 #[.agg cs.toArray] w (v7 w (sv (QH p))):=by
 obtain⟨a1,n1,c1,a2,n2,c2,a3,n3,c3,a4,n4,c4,a5,n5,c5,rfl,hPt,hI,h3,h4,h5⟩:=hp.ex;have hlp:=hPt.len;have hli:=hI.len;have hl3:=h3.len;have hl4:=h4.len;have hl5:=h5.len;have hlen:=UR g;have hs0d:=hs.nd;have hs0c:=hs.nc;have hs0r:=hs.nr;have hs0p:=hs.np;have hs0i:=hs.ni;obtain⟨P0,hP0⟩ :∃P,P = [112,114,111,100,117,99,116,32]++P1 p.nm++[59,10]:=⟨_,rfl⟩
 have hall:QH p=P0++p.parts.flatMap oA++p.insts.flatMap oH++p.dims.flatMap sW++p.cons.flatMap (sZ p.dims)++p.reqs.flatMap (lW p.dims):=by rw[hP0];unfold QH;simp
 rw[hall] at hlen;simp only[d6] at hlen;have hP0l:=congrArg F7 hP0;simp only[d6,d7,d9] at hP0l;refine enterZ (cx 234) [.agg #[sv p.nm,.slice a1 n1 c1,.slice a2 n2 c2,.slice a3 n3 c3,.slice a4 n4 c4,.slice a5 n5 c5]] [.tmp 2] Tryz.func14 ?_;intro b1;refine k7 _ (λw' hm=>zA p.nm (by have:=hs.nm;omega) w' (hT.mono (hm 0 _ rfl).whole)) ?_;(iterate 2 refine qAdT ?_);rw[<-hP0];refine u6.mk (Nat×e8) (λg=>[(1,.bx 1 0),(3,.v (sv g.2)),(4,.v (iQ g.1))]) (λ_=>[.hp (Hp.whole w),.box b1 [sv p.nm,.slice a1 n1 c1,.slice a2 n2 c2,.slice a3 n3 c3,.slice a4 n4 c4,.slice a5 n5 c5] 30])
  (λg=>g.1<=n1/\g.2=P0++(p.parts.take g.1).flatMap oA) (λg=>n1 - g.1) (0,P0) ⟨f8 _,sQ⟩ (v6.mk (pj [0,1]) rfl rfl) ?_
 rintro⟨k,t1⟩ ⟨hk,ht1⟩;dsimp only at hk ht1 ⊢;have hkb:=show P0.length+(p.parts.flatMap oA).length < 1000000000 by omega
 refine d8 (λe1=>?_) λe1=>?_
 ·have hkl:k < p.parts.length:=om
  obtain⟨x,hx⟩ :∃x,x=p.parts[k]:=⟨_,rfl⟩
  have hxm:x∈p.parts:=by rw[hx];exact j0 hkl
  have gx:=bQ g.gp.2 _ hxm;have hb:=Ns hkl hx ht1 hkb;unfold oA at hb;simp only[d6,d7,d9] at hb;refine I1 cQ (e:=83) rfl hPt k rfl hkl λb9 o9 cs hcs hR hcell=>?_;rw[<-hx] at hR;obtain⟨a9,n9,c9,rfl,hV⟩:=hR;have hl9:=hV.len;have hc6:=gx.c;refine T7 cQ (i:=0) rfl hcell rfl ?_;intro b5;refine s6.by_order cQ (.take 0 <| .take 1 <| .take 2 <| .take 3 <| .take 7 <| .take 8 <| .run 4 <| .take 5 <| .take 6 <| .run 9 <| .take 10 <| .take 11 <| .take 12 <| .done) kr ?_;refine qAdT ?_;refine k7 _ (λw' hm=>zA x.1 (by have:=(hs.sp x hxm).1;omega) w' (hT.mono (hm 0 _ rfl).whole)) ?_;refine⟨sK,?_⟩;refine qAdT ?_;refine qAdT ?_;refine k7 (sv (zT x.2.1)) (λw' hm=>fU x.2.1 (nJ (by have:=gx.d;omega)) w' (hP.mono (hm 0 _ rfl).whole)) ?_;refine⟨sK,?_⟩;refine qAdT ?_;refine qAdT ?_;generalize hU:t1++[112,97,114,116,32]++P1 x.1++[32,100,101,110,115,105,116,121,32]++zT x.2.1++[32,123,10]=U;have hUl:=congrArg F7 hU;simp only[d6,d7,d9] at hUl;refine u6.mk (Nat×e8) (λg=>[(1,.bx 1 0),(3,.v (sv g.2)),(4,.v (iQ k)),(5,.bx 2 0),(6,.v (iQ g.1))]) (λ_=>[.hp (Hp.whole w),.box b1 [sv p.nm,.slice a1 n1 c1,.slice a2 n2 c2,.slice a3 n3 c3,.slice a4 n4 c4,.slice a5 n5 c5] 30,.box b5 [sv x.1,iQ x.2.1,.slice a9 n9 c9] 83])
   (λg=>g.1<=n9/\g.2=U++(x.2.2.take g.1).flatMap tD) (λg=>n9 - g.1) (0,U) ⟨f8 _,sQ⟩ (v6.mk (pj [0,1,2]) rfl rfl) ?_
  rintro⟨i,t2⟩ ⟨hi,ht2⟩;dsimp only at hi ht2 ⊢;have hib:=show U.length+(x.2.2.flatMap tD).length < 1000000000 by omega
  refine d8 (λe2=>?_) λe2=>?_
  ·have hil:i < x.2.2.length:=om
   obtain⟨c,hxi⟩ :∃c,c=x.2.2[i]:=⟨_,rfl⟩
   have hcm:c∈x.2.2:=by rw[hxi];exact j0 hil
   obtain⟨hcl,hvz⟩:=gx.v c hcm;have hb:=Ns hil hxi ht2 hib;unfold tD at hb;simp only[d6,d7,d9] at hb;refine qAdT ?_;generalize hW:t2++[32,32,99,101,108,108]=W;have hWl:=congrArg F7 hW;simp only[d6,d7,d9] at hWl;refine u6.mk (Nat×e8) (λg=>[(1,.bx 1 0),(3,.v (sv g.2)),(4,.v (iQ k)),(5,.bx 2 0),(6,.v (iQ i)),(7,.v (iQ g.1))]) (λ_=>[.hp (Hp.whole w),.box b1 [sv p.nm,.slice a1 n1 c1,.slice a2 n2 c2,.slice a3 n3 c3,.slice a4 n4 c4,.slice a5 n5 c5] 30,.box b5 [sv x.1,iQ x.2.1,.slice a9 n9 c9] 83])
    (λg=>g.1<=c.length/\g.2=W++(c.take g.1).flatMap tP) (λg=>c.length - g.1) (0,W) ⟨f8 _,sQ⟩ (v6.mk (pj [0,1,2]) rfl rfl) ?_
   rintro⟨j,t3⟩ ⟨hj,ht3⟩;dsimp only at hj ht3 ⊢;have hjb:=show W.length+(c.flatMap tP).length < 1000000000 by omega
   refine I1 cQ (e:=86) rfl hV i rfl hil λb9 o9 cs hcs hR hcell=>?_;rw[<-hxi] at hR;obtain⟨a6,n6,c6,rfl,hC⟩:=hR;have hl6:=hC.len;refine lQ 0 (hcell 0 _ rfl) ?_;refine d8 (λe3=>?_) λe3=>?_
   ·have hjl:j < c.length:=om
    obtain⟨v,hxj⟩ :∃v,v=c[j]:=⟨_,rfl⟩
    have hvm:v∈c:=by rw[hxj];exact j0 hjl
    have hb:=Ns hjl hxj ht3 hjb;unfold tP dL at hb;simp only[d6,d7,d9] at hb;refine I1 cQ (e:=86) rfl hV i rfl hil λb9 o9 cs hcs hR hcell=>?_;rw[<-hxi] at hR;obtain⟨a7,n7,c7,rfl,hC7⟩:=hR;refine lQ 0 (hcell 0 _ rfl) ?_;refine I1 cQ (e:=122) rfl hC7 j rfl hjl λb9 o9 cs hcs hR hcell=>?_;rw[<-hxj] at hR;have hR:cs = [iQ v.1,iQ v.2.1,iQ v.2.2]:=hR;subst hR;refine T7 cQ (i:=0) rfl hcell rfl ?_;intro b8;refine o7 (λ_ kz=>kz _ _ ?_);refine o7 λq' hq'=>?_;refine Je cQ rfl rfl (e:=3) rfl ?_;refine k7 _ (λw' hm=>Np [32,40] [41] [v.1,v.2.1,v.2.2] (Qt (hvz v hvm)) w' (Bx (f:=Gf) (off:=0) (cs:=[iQ v.1,iQ v.2.1,iQ v.2.2]) (L:=[v.1,v.2.1,v.2.2]) (hm 3 _ rfl) (λ_=>rfl) Qx) (by simp only[d7,d9];omega) (hP.mono (hm 0 _ rfl).whole) (by simp only[d7,d9];omega)) ?_;refine qAdT ?_;apply hq';refine nwo ?_;exact⟨(j+1,_),⟨by dsimp only;omega,No hjl hxj ht3 (by simp[tP,dL])⟩,by dsimp only;omega,v6.mk (pj [0,1,2]) rfl rfl⟩
   have hj2:j=c.length:=om
   subst hj2;rw[p9] at ht3;have ht3l:=congrArg F7 ht3;rw[d6] at ht3l;refine qAdT ?_;refine nwo ?_;exact⟨(i+1,_),⟨by dsimp only;omega,No hil hxi ht2 (by rw[ht3,<-hW];simp[tD])⟩,by dsimp only;omega,v6.mk (pj [0,1,2]) rfl rfl⟩
  have hi2:i=x.2.2.length:=om
  subst hi2;rw[p9] at ht2;have ht2l:=congrArg F7 ht2;rw[d6] at ht2l;refine qAdT ?_;refine nwo ?_;exact⟨(k+1,_),⟨by dsimp only;omega,No hkl hx ht1 (by rw[ht2,<-hU];simp[oA])⟩,by dsimp only;omega,v6.mk (pj [0,1]) rfl rfl⟩
 have hk2:k=p.parts.length:=om
 subst hk2;rw[p9] at ht1;have ht1l:=congrArg F7 ht1;rw[d6] at ht1l;refine u6.mk (Nat×e8) (λg=>[(1,.bx 1 0),(3,.v (sv g.2)),(9,.v (iQ g.1))]) (λ_=>[.hp (Hp.whole w),.box b1 [sv p.nm,.slice a1 n1 c1,.slice a2 n2 c2,.slice a3 n3 c3,.slice a4 n4 c4,.slice a5 n5 c5] 30])
  (λg=>g.1<=n2/\g.2=t1++(p.insts.take g.1).flatMap oH) (λg=>n2 - g.1) (0,t1) ⟨f8 _,sQ⟩ (v6.mk (pj [0,1]) rfl rfl) ?_
 rintro⟨k,t4⟩ ⟨hk,ht4⟩;dsimp only at hk ht4 ⊢;have hkb:=show t1.length+(p.insts.flatMap oH).length < 1000000000 by omega
 refine d8 (λe1=>?_) λe1=>?_
 ·have hkl:k < p.insts.length:=om
  obtain⟨x,hx⟩ :∃x,x=p.insts[k]:=⟨_,rfl⟩
  have hxm:x∈p.insts:=by rw[hx];exact j0 hkl
  have gx:=bQ g.gi.2 _ hxm;have hb:=Ns hkl hx ht4 hkb;unfold oH dL at hb;simp only[d6,d7,d9] at hb;refine I1 cQ (e:=93) rfl hI k rfl hkl λb9 o9 cs hcs hR hcell=>?_;rw[<-hx] at hR;have hR:cs = [sv x.1,sv x.2.1,iQ x.2.2.1.1,iQ x.2.2.1.2.1,iQ x.2.2.1.2.2.1,iQ x.2.2.1.2.2.2,sv x.2.2.2.1,sv x.2.2.2.2.1,sv x.2.2.2.2.2]:=hR;subst hR;refine T7 cQ (i:=0) rfl hcell rfl ?_;intro b10 b11;refine s6.by_order cQ (.take 0 <| .take 1 <| .take 2 <| .take 3 <| .take 7 <| .take 8 <| .take 11 <| .take 12 <| .take 13 <| .take 17 <| .take 18 <| .take 21 <| .take 22 <| .take 25 <| .take 26 <| .run 4 <| .take 5 <| .take 6 <| .run 9 <| .take 10 <| .run 14 <| .take 15 <| .take 16 <| .take 19 <| .take 20 <| .take 23 <| .take 24 <| .take 27 <| .take 28 <| .take 29 <| .done) kr ?_;refine qAdT ?_;refine Je cQ rfl rfl (e:=3) rfl ?_;refine k7 _ (λw' hm=>zA x.1 (by have:=(hs.si x hxm).1;omega) w' (hT.mono (hm 0 _ rfl).whole)) ?_;refine⟨sK,?_⟩;refine qAdT ?_;refine qAdT ?_;refine k7 _ (λw' hm=>zA x.2.1 (by have:=(hs.si x hxm).2.1;omega) w' (hT.mono (hm 0 _ rfl).whole)) ?_;refine⟨sK,?_⟩;refine qAdT ?_;refine k7 _ (λw' hm=>Np [32,116,117,114,110,32,40] [41] [x.2.2.1.1,x.2.2.1.2.1,x.2.2.1.2.2.1,x.2.2.1.2.2.2] (Pz gx.t) w' (Bx (f:=Gf) (off:=2) (cs:=[sv x.1,sv x.2.1,iQ x.2.2.1.1,iQ x.2.2.1.2.1,iQ x.2.2.1.2.2.1,iQ x.2.2.1.2.2.2,sv x.2.2.2.1,sv x.2.2.2.2.1,sv x.2.2.2.2.2]) (L:=[x.2.2.1.1,x.2.2.1.2.1,x.2.2.1.2.2.1,x.2.2.1.2.2.2]) (hm 2 _ rfl) (λ_=>rfl) Qw) (by simp only[d7,d9];omega) (hP.mono (hm 0 _ rfl).whole) (by simp only[d7,d9];omega)) ?_;refine⟨sK,?_⟩;refine qAdT ?_;refine qAdT ?_;refine qAdT ?_;refine qAdT ?_;refine qAdT ?_;refine qAdT ?_;refine qAdT ?_;refine qAdT ?_;refine nwo ?_;exact⟨(k+1,_),⟨by dsimp only;omega,No hkl hx ht4 (by simp[oH,dL])⟩,by dsimp only;omega,v6.mk (pj [0,1]) rfl rfl⟩
 have hk2:k=p.insts.length:=om
 subst hk2;rw[p9] at ht4;have ht4l:=congrArg F7 ht4;rw[d6] at ht4l;refine u6.mk (Nat×e8) (λg=>[(1,.bx 1 0),(3,.v (sv g.2)),(12,.v (iQ g.1))]) (λ_=>[.hp (Hp.whole w),.box b1 [sv p.nm,.slice a1 n1 c1,.slice a2 n2 c2,.slice a3 n3 c3,.slice a4 n4 c4,.slice a5 n5 c5] 30])
  (λg=>g.1<=n3/\g.2=t4++(p.dims.take g.1).flatMap sW) (λg=>n3 - g.1) (0,t4) ⟨f8 _,sQ⟩ (v6.mk (pj [0,1]) rfl rfl) ?_
 rintro⟨k,t5⟩ ⟨hk,ht5⟩;dsimp only at hk ht5 ⊢;have hkb:=show t4.length+(p.dims.flatMap sW).length < 1000000000 by omega
 refine d8 (λe1=>?_) λe1=>?_
 ·have hkl:k < p.dims.length:=om
  obtain⟨x,hx⟩ :∃x,x=p.dims[k]:=⟨_,rfl⟩
  have hxm:x∈p.dims:=by rw[hx];exact j0 hkl
  have gx:=(bQ g.gd.2 _ hxm).r;have hb:=Ns hkl hx ht5 hkb;unfold sW at hb;simp only[d6,d7,d9] at hb;have hc2:=congrArg F7 (Oz x.2.2.1 x.2.2.2);simp only[d6,d7] at hc2;have hz2 :∀z∈[x.2.2.1,x.2.2.2],LV z:=λz hz=>by
   simp only[A8,Q0,or_false] at hz;rcases hz with rfl | rfl <;> exact nJ om
  refine I1 cQ (e:=48) rfl h3 k rfl hkl λb9 o9 cs hcs hR hcell=>?_;rw[<-hx] at hR;have hR:cs = [sv x.1,iQ x.2.1,iQ x.2.2.1,iQ x.2.2.2]:=hR;subst hR;refine T7 cQ (i:=0) rfl hcell rfl ?_;intro b13;refine s6.cut Unit (λ_=>[(1,.bx 1 0),(3,.v (sv (t5++[100,105,109,101,110,115,105,111,110,32]++P1 x.1++[32,61,32]++zT x.2.1++([32,91]++O5 ([x.2.2.1,x.2.2.2].map zT)++[93,59,10])))),(12,.v (iQ k))]) (λ_=>[.hp (Hp.whole w),.box b1 [sv p.nm,.slice a1 n1 c1,.slice a2 n2 c2,.slice a3 n3 c3,.slice a4 n4 c4,.slice a5 n5 c5] 30]) (λ_=>True) (s6.by_order cQ (.take 0 <| .take 1 <| .take 2 <| .take 3 <| .take 7 <| .take 8 <| .take 11 <| .take 12 <| .take 13 <| .take 14 <| .two 4 (.take 5 <| .take 6 <| .two 9 (.take 10 <| .run 15 <| .run 16 <| .take 17 <| .take 18 <| .done) 15 (.run 9 <| .take 10 <| .run 16 <| .take 17 <| .take 18 <| .done)) 15 (.run 4 <| .take 5 <| .take 6 <| .run 9 <| .take 10 <| .run 16 <| .take 17 <| .take 18 <| .done)) kr ?_) ?_
  ·refine qAdT ?_;constructor
   ·refine k7 _ (λw' hm=>zA x.1 (by have:=hs.sd x hxm;omega) w' (hT.mono (hm 0 _ rfl).whole)) ?_;refine⟨sK,?_⟩;(iterate 2 refine qAdT ?_);constructor
    focus
     refine k7 (sv (zT x.2.1)) (λw' hm=>fU x.2.1 (nJ om) w' (hP.mono (hm 0 _ rfl).whole)) ?_;refine⟨sK,?_⟩;refine qAdT ?_;intro b158;refine⟨sK,?_⟩
    rotate_left
    focus
     intro b158;refine⟨sK,?_⟩;refine k7 (sv (zT x.2.1)) (λw' hm=>fU x.2.1 (nJ om) w' (hP.mono (hm 0 _ rfl).whole)) ?_;refine⟨sK,?_⟩;refine qAdT ?_
    all_goals
     refine k7 _ (λw' hm=>Np [32,91] [93,59,10] [x.2.2.1,x.2.2.2] hz2 w' (Bx (f:=Gf) (off:=0) (cs:=[iQ x.2.2.1,iQ x.2.2.2]) (L:=[x.2.2.1,x.2.2.2]) (hm 3 _ rfl) (λ_=>rfl) Pq) (by simp only[d7,d9];omega) (hP.mono (hm 0 _ rfl).whole) (by rw[Oz];simp only[d6,d7,d9];omega)) ?_;refine⟨sK,?_⟩;refine qAdT ?_;exact⟨(),trivial,v6.mk (pj [0,1]) rfl rfl⟩
   ·intro b158;refine⟨sK,?_⟩;refine k7 _ (λw' hm=>zA x.1 (by have:=hs.sd x hxm;omega) w' (hT.mono (hm 0 _ rfl).whole)) ?_;refine⟨sK,?_⟩;(iterate 2 refine qAdT ?_);refine k7 (sv (zT x.2.1)) (λw' hm=>fU x.2.1 (nJ om) w' (hP.mono (hm 0 _ rfl).whole)) ?_;refine⟨sK,?_⟩;refine qAdT ?_;refine k7 _ (λw' hm=>Np [32,91] [93,59,10] [x.2.2.1,x.2.2.2] hz2 w' (Bx (f:=Gf) (off:=0) (cs:=[iQ x.2.2.1,iQ x.2.2.2]) (L:=[x.2.2.1,x.2.2.2]) (hm 3 _ rfl) (λ_=>rfl) Pq) (by simp only[d7,d9];omega) (hP.mono (hm 0 _ rfl).whole) (by rw[Oz];simp only[d6,d7,d9];omega)) ?_;refine⟨sK,?_⟩;refine qAdT ?_;exact⟨(),trivial,v6.mk (pj [0,1]) rfl rfl⟩
  rintro⟨⟩ _ _;dsimp only;refine nwo ?_;exact⟨(k+1,_),⟨by dsimp only;omega,No hkl hx ht5 (by rw[Oz];simp[sW])⟩,by dsimp only;omega,v6.mk (pj [0,1]) rfl rfl⟩
 have hk2:k=p.dims.length:=om
 subst hk2;rw[p9] at ht5;have ht5l:=congrArg F7 ht5;rw[d6] at ht5l;refine u6.mk (Nat×e8) (λg=>[(1,.bx 1 0),(3,.v (sv g.2)),(14,.v (iQ g.1))]) (λ_=>[.hp (Hp.whole w),.box b1 [sv p.nm,.slice a1 n1 c1,.slice a2 n2 c2,.slice a3 n3 c3,.slice a4 n4 c4,.slice a5 n5 c5] 30])
  (λg=>g.1<=n4/\g.2=t5++(p.cons.take g.1).flatMap (sZ p.dims)) (λg=>n4 - g.1) (0,t5) ⟨f8 _,sQ⟩ (v6.mk (pj [0,1]) rfl rfl) ?_
 rintro⟨k,t6⟩ ⟨hk,ht6⟩;dsimp only at hk ht6 ⊢;have hkb:=show t5.length+(p.cons.flatMap (sZ p.dims)).length < 1000000000 by omega
 refine d8 (λe1=>?_) λe1=>?_
 ·have hkl:k < p.cons.length:=om
  obtain⟨x,hx⟩ :∃x,x=p.cons[k]:=⟨_,rfl⟩
  have hxm:x∈p.cons:=by rw[hx];exact j0 hkl
  have gx:=bQ (Q:=λx:kY=>H8 x.1=true/\wR p.dims.length x.2) g.gc.2 x hxm;have hb:=Ns hkl hx ht6 hkb;unfold sZ at hb;simp only[d6,d7,d9] at hb;refine s6.by_order cQ (.take 0 <| .take 1 <| .take 2 <| .take 3 <| .take 4 <| .take 5 <| .take 6 <| .take 7 <| .take 11 <| .take 12 <| .take 13 <| .take 14 <| .take 15 <| .take 16 <| .take 17 <| .take 18 <| .run 8 <| .take 9 <| .take 10 <| .run 19 <| .take 20 <| .take 21 <| .take 22 <| .done) kr ?_;refine qAdT ?_;refine I1 cQ (e:=96) rfl h4 k rfl hkl λb9 o9 cs hcs hR hcell=>?_;rw[<-hx] at hR;obtain⟨a9,n9,c9,rfl,hF⟩:=hR;refine lQ 0 (hcell 0 _ rfl) ?_;refine I1 cQ (e:=96) rfl h4 k rfl hkl λb9 o9 cs hcs hR hcell=>?_;rw[<-hx] at hR;obtain⟨a9,n9,c9,rfl,hF⟩:=hR;refine T7 cQ (i:=0) rfl (cs:=[sv x.2.1,.slice a9 n9 c9]) (λj v hj=>by
   rw[nX];match j,hj with
   | 0,hj=>exact hcell 1 v hj
   | 1,hj=>exact hcell 2 v hj) rfl ?_
  refine k7 _ (λw' hm=>zA x.1 (by have:=(hs.sc x hxm).1;omega) w' (hT.mono (hm 0 _ rfl).whole)) ?_;refine⟨sK,?_⟩;(iterate 2 refine qAdT ?_);refine k7 _ (λw' hm=>zC (f:=x.2) w' (h3.mono (j7 _) (hm 0 _ rfl).whole) (hF.mono (j7 _) (hm 0 _ rfl).whole) gx.2 (hs.con x hxm).len (λd hd=>by have:=hs.sd d hd;omega) (hT.mono (hm 0 _ rfl).whole) om) ?_;refine⟨sK,?_⟩;(iterate 2 refine qAdT ?_);refine nwo ?_;exact⟨(k+1,_),⟨by dsimp only;omega,No hkl hx ht6 (by simp[sZ])⟩,by dsimp only;omega,v6.mk (pj [0,1]) rfl rfl⟩
 have hk2:k=p.cons.length:=om
 subst hk2;rw[p9] at ht6;have ht6l:=congrArg F7 ht6;rw[d6] at ht6l;refine u6.mk (Nat×e8) (λg=>[(1,.bx 1 0),(3,.v (sv g.2)),(15,.v (iQ g.1))]) (λ_=>[.hp (Hp.whole w),.box b1 [sv p.nm,.slice a1 n1 c1,.slice a2 n2 c2,.slice a3 n3 c3,.slice a4 n4 c4,.slice a5 n5 c5] 30])
  (λg=>g.1<=n5/\g.2=t6++(p.reqs.take g.1).flatMap (lW p.dims)) (λg=>n5 - g.1) (0,t6) ⟨f8 _,sQ⟩ (v6.mk (pj [0,1]) rfl rfl) ?_
 rintro⟨k,t7⟩ ⟨hk,ht7⟩;dsimp only at hk ht7 ⊢;have hkb:=show t6.length+(p.reqs.flatMap (lW p.dims)).length < 1000000000 by omega
 refine d8 (λe1=>?_) λe1=>?_
 ·have hkl:k < p.reqs.length:=om
  obtain⟨x,hx⟩ :∃x,x=p.reqs[k]:=⟨_,rfl⟩
  have hxm:x∈p.reqs:=by rw[hx];exact j0 hkl
  have gx:=bQ g.gr.2 x hxm;have hb:=Ns hkl hx ht7 hkb;unfold lW at hb;simp only[d6,d7,d9] at hb;refine I1 cQ (e:=74) rfl h5 k rfl hkl λb9 o9 cs hcs hR hcell=>?_;rw[<-hx] at hR;obtain⟨xs,rfl,hX⟩:=hR;obtain⟨op,s1,a8,n8,c8,s2,a7,n7,c7,rfl⟩:=Rm hX;refine T7 cQ (i:=0) rfl hcell rfl ?_;intro b16;refine s6.by_order cQ (.take 0 <| .take 1 <| .take 2 <| .take 3 <| .take 7 <| .take 8 <| .take 9 <| .take 10 <| .run 4 <| .take 5 <| .take 6 <| .run 11 <| .take 12 <| .take 13 <| .done) kr ?_;refine qAdT ?_;refine k7 _ (λw' hm=>zA x.1 (by have:=(hs.sr x hxm).1;omega) w' (hT.mono (hm 0 _ rfl).whole)) ?_;refine⟨sK,?_⟩;refine qAdT ?_;refine qAdT ?_;refine k7 _ (λw' hm=>zD (λd hd=>by have:=hs.sd d hd;omega) 8 d x.2.1 _ w' (xC 8 0 _ gx.g) (hs.req x hxm).ex (q7 _ _ _ _ _ (hm 0 _ rfl).whole hX) (h3.mono (j7 _) (hm 0 _ rfl).whole) (hT.mono (hm 0 _ rfl).whole) om) ?_;refine⟨sK,?_⟩;refine qAdT ?_;refine cG (b:=[]) ?_;refine d8 (λe3=>?_) λe3=>?_
  ·rw[if_neg e3] at hb;simp only[d6,d7,d9] at hb;(iterate 2 refine qAdT ?_);refine cG (b:=[]) ?_;refine d8 (λe4=>?_) λe4=>?_
   ·rw[if_neg e4] at hb;simp only[d6,d7,d9] at hb;(iterate 3 refine qAdT ?_);refine nwo ?_;exact⟨(k+1,_),⟨by dsimp only;omega,No hkl hx ht7 (by unfold lW;rw[if_neg e3,if_neg e4];simp)⟩,by dsimp only;omega,v6.mk (pj [0,1]) rfl rfl⟩
   ·have e4:=j9 e4;rw[if_pos e4] at hb;simp only[d9] at hb;refine qAdT ?_;refine nwo ?_;exact⟨(k+1,_),⟨by dsimp only;omega,No hkl hx ht7 (by unfold lW;rw[if_neg e3,if_pos e4];simp)⟩,by dsimp only;omega,v6.mk (pj [0,1]) rfl rfl⟩
  ·have e3:=j9 e3;rw[if_pos e3] at hb;simp only[d9] at hb;refine cG (b:=[]) ?_;refine d8 (λe4=>?_) λe4=>?_
   ·rw[if_neg e4] at hb;simp only[d6,d7,d9] at hb;(iterate 3 refine qAdT ?_);refine nwo ?_;exact⟨(k+1,_),⟨by dsimp only;omega,No hkl hx ht7 (by unfold lW;rw[if_pos e3,if_neg e4];simp)⟩,by dsimp only;omega,v6.mk (pj [0,1]) rfl rfl⟩
   ·have e4:=j9 e4;rw[if_pos e4] at hb;simp only[d9] at hb;refine qAdT ?_;refine nwo ?_;exact⟨(k+1,_),⟨by dsimp only;omega,No hkl hx ht7 (by unfold lW;rw[if_pos e3,if_pos e4];simp)⟩,by dsimp only;omega,v6.mk (pj [0,1]) rfl rfl⟩
 have hk2:k=p.reqs.length:=om
 subst hk2;rw[p9] at ht7;have ht7l:=congrArg F7 ht7;rw[d6] at ht7l;have e:t7=QH p:=by rw[hall,ht7,ht6,ht5,ht4,ht1]
 rw[e];exact⟨[],⟨rfl,rfl⟩,pk [0]⟩
end Go.Proofs.YtpjhmeicbjkcdaaGreatDoor
namespace Go.Proofs.YtpjhmeicbjkcdaaGreatDoor
open Go Go.RowKit Go.Dw
set_option maxRecDepth 20000 in
set_option maxHeartbeats 2000000 in
theorem Pb {d:Nat} {p:jL} {cs:List Value} (w:World) (hp:qB d (Hp.whole w) p cs) (hT:kU (Hp.whole w)) (hP:dT (Hp.whole w)) :
  j6 Tryz.prog 3 #[.agg cs.toArray] w (v7 w (.bool true)):=by
 have hp0:=hp;obtain⟨a1,n1,c1,a2,n2,c2,a3,n3,c3,a4,n4,c4,a5,n5,c5,rfl,_⟩:=hp.ex;have hK:=λ(w':World) (hm:(Hp.whole w).In w')=>rV w' (hT.mono hm.whole) (hP.mono hm.whole);refine enterZ (cx 53) [.agg #[sv p.nm,.slice a1 n1 c1,.slice a2 n2 c2,.slice a3 n3 c3,.slice a4 n4 c4,.slice a5 n5 c5]] [.tmp 2] Tryz.func3 ?_;intro b1;refine o7 (λ_ kz=>kz _ _ ?_);refine o7 λq' hq'=>?_;refine k7 _ (λw' hm=>hK w' (hm 0 _ rfl)) ?_;refine call (λw' hm=>Pe w' (hp0.mono (hm 0 _ rfl).whole)) ?_;rintro _ _ ⟨b,rfl,rfl,hb⟩;apply hq';refine s8 (λh3=>?_) λh3=>?_
 ·refine k7 _ (λw' hm=>hK w' (hm 0 _ rfl)) ?_;exact⟨[],⟨rfl,rfl⟩,pk [0]⟩
 rw[iM] at h3;have hs:=hb h3;refine k7 _ (λw' hm=>Ov w' (hp0.mono (hm 0 _ rfl).whole) hs) ?_;refine k7 _ (λw' hm=>NA w' (hp0.mono (hm 0 _ rfl).whole) hs.prdS) ?_;refine d8 (λh7=>absurd rfl h7) λ_=>?_;have hpr:=λ(w':World) (hm:(Hp.whole w).In w')=>MT w' (hp0.mono hm.whole) hs.prdS (hP.mono hm.whole);have hpx:ZV p=if IW p≠0 then ([],IW p) else if 65536 < (QH p).length then ([],5) else (QH p,0):=rfl
 by_cases hg:IW p=0
 ·rw[if_neg (λh=>h hg)] at hpx;have htx:=λ(w':World) (hm:(Hp.whole w).In w')=>Ou w' (hp0.mono hm.whole) hs (GU hg) (hT.mono hm.whole) (hP.mono hm.whole);generalize QH p=T at hpx htx;have hz:(bs T).size=T.length:=B6 _;by_cases hl:65536 < T.length
  ·rw[if_pos hl] at hpx;rw[hpx] at hpr;dsimp only at hpr;refine k7 _ (λw' hm=>hpr w' (hm 0 _ rfl)) ?_;refine d8 (λh9=>absurd hg h9) λ_=>?_;refine k7 _ (λw' hm=>htx w' (hm 0 _ rfl)) ?_;refine d8 (λ_=>?_) (λh11=>by rw[hz] at h11;omega);refine Ea (a:=[]) ?_;exact⟨[],⟨rfl,rfl⟩,pk [0]⟩
  ·rw[if_neg hl] at hpx;rw[hpx] at hpr;dsimp only at hpr;refine k7 _ (λw' hm=>hpr w' (hm 0 _ rfl)) ?_;refine d8 (λh9=>absurd hg h9) λ_=>?_;refine k7 _ (λw' hm=>htx w' (hm 0 _ rfl)) ?_;refine d8 (λh11=>by rw[hz] at h11;omega) λ_=>?_;refine Ea (a:=T) ?_;exact⟨[],⟨rfl,rfl⟩,pk [0]⟩
 ·rw[if_pos hg] at hpx;rw[hpx] at hpr;dsimp only at hpr;refine k7 _ (λw' hm=>hpr w' (hm 0 _ rfl)) ?_;refine d8 (λ_=>?_) (λh=>absurd hg h);refine Ea (a:=[]) ?_;exact⟨[],⟨congrArg Value.bool (decide_eq_true rfl),rfl⟩,pk [0]⟩
end Go.Proofs.YtpjhmeicbjkcdaaGreatDoor
namespace Go.Proofs.YtpjhmeicbjkcdaaGreatDoor
open Go Go.RowKit Go.Dw Go.ChangeShapes Go.WideShapes Go.ChangeAt
set_option maxRecDepth 100000 in
theorem Nq (os:Os) (started:os.Started) (H:Type) (enc:TypeId×Value->H) :
  ReturnsInHanded {} Tryz.checked os 3 .any (λw args=>(Rows.documentChecksSpec.pre enc Tryz.prog Tryz.f3 [] false w args/\laidMetH Tryz.prog cI w)/\sizedMet enc Tryz.prog Tryz.f3 (OpenSpec.ofChange Rows.documentChecksSpec) false w args)
   (Rows.documentChecksSpec.post enc Tryz.prog Tryz.f3 false true false false):=by
 refine returnsInHanded_of_change_and (C:=Tryz.checked) (X:=λw _=>laidMetH Tryz.prog cI w) (λ_ _ _ hh h=>h.of_heap hh) own started kr Tryz.func3
  (ChangeSpec.witness_shaped (enc:=enc) (C:=Tryz.checked) (os:=os) (X:=λw _=>laidMetH Tryz.prog cI w) false (World.laidAll Tryz.prog os cI) #[.agg #[.string ⟨#[]⟩,zl,zl,zl,zl,zl]] 8 (World.laidAll_os _ _ _)
   (CN os _) kr kr kr (VK os _)) ?_
 intro W base args ds gs before hval0 hW _ _ hL _;have hval :∀(j:Nat) t v,Tryz.f3.params[j]?=some t->args[j]?=some v->Value.okWide Tryz.prog W .any base t v:=hval0;have hW':=hW;obtain⟨p,q,hA0,hV,rfl,hfz,hnd⟩:=hW;have hA:DataW.TrodAll enc Tryz.prog W 0 (λ_=>true) true Tryz.f3.params.toList args.toList ds p:=hA0;rw[Tryz.params3] at hA hval;obtain⟨v0,d0,rfl,rfl,h0⟩:=trodAll_one hA;obtain⟨e0,x0,cs0,rfl,hX0⟩:=Pm (hval 0 _ v0 rfl rfl) h0;exact IG rfl kr kr hW' rfl rfl rfl (Pb W hX0 (qV hL) (qW hL))
theorem Ob:Rows.DocumentChecksSaid:=
 OpenClaim.holds_of_wide 3 Tryz.f3 rfl rfl rfl rfl rfl rfl rfl ⟨rfl,rfl,rfl,rfl,rfl⟩ rfl rfl rfl rfl rfl kr Tryz.func3 documentChecks_facts
  (of_decide_eq_true kr) (by unfold Func.isWrapper;first | (rw[if_pos (by decide +kernel)];kernel_rfl) | (rw[if_neg (by decide +kernel)];exact⟨rfl,rfl⟩))
  (λos started H enc _=>Nq os started H enc)
theorem documentChecks_holds:Rows.DocumentChecksCardSaid:=
 Claim7.holds_tied_plain_at .later [] [.data,.data,.data,.data,.sentinel,.sentinel,.listed,.data,.pinned] true (true,"5524b49a99c14b84714612f17c4273e75e7ba66b67a78b9d8144231c70c6d12f") true
  Ob (λ_ h=>by cases h) kr (λ_ h=>by cases h) documentChecks_row_tie rfl ⟨rfl,rfl⟩ kr rfl
  (λf fn hf hfn=>by
   obtain rfl:f=3:=Y4 ((show Tryz.prog.funcNamed "dowel/dowellaw36.DocumentChecks" = some 3 by kernel_rfl).symm.trans hf) |>.symm
   obtain rfl:fn=Tryz.f3:=(Y4 (Tryz.func3.symm.trans hfn)).symm;exact⟨kr,λj t ht=>by
    rw[Tryz.params3] at ht;have hm:t∈[30]:=by simpa using Array.mem_of_getElem? ht
    have hall:([30].all λu=>!Tryz.prog.wantsStandIn u)=true:=kr
    exact (show Tryz.prog.wantsStandIn t=false by simpa using z6.1 hall t hm)⟩)
  documentChecks_goes.symm
end Go.Proofs.YtpjhmeicbjkcdaaGreatDoor
