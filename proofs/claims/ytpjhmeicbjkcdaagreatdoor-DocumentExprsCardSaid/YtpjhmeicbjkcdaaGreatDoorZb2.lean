/- Parts of one proof, joined. No condition of its own. -/
import Derived.Test.YtpjhmeicbjkcdaaGreatDoorZb1
import Derived.LaidMore
import Derived.OpenShut
import Derived.Stop.Joined
import Derived.MakeChecks
import Derived.LaidSub
import Derived.Lay
import Derived.LaidOnce
import Derived.ChangeMaps5
import Derived.Test.YtpjhmeicbjkcdaaGreatDoorTie
import Derived.Test.YtpjhmeicbjkcdaaGreatDoorCards
import Derived.Test.YtpjhmeicbjkcdaaGreatDoorVj
open Bool renaming and_eq_true->k6,and_false->uV,false_and->U4,false_or->AV,or_eq_true->U8,true_and->F6,false_ne_true->H0,not_eq_false'->iM,not_eq_true'->Z7,eq_iff_iff->L6
open Classical renaming not_not->l9
open Int renaming eq_ofNat_of_zero_le->aS
open List renaming getElem?_append_left->Y0,getElem?_append_right->N0,getElem?_eq_some_iff->q9,mem_cons->A8,getElem?_cons_zero->aQ,getElem?_drop->bV,getElem?_eq_getElem->i6,getElem?_map->G7,getElem?_range->qH,getElem?_take_of_lt->Na,length_map->l7,length_range->L9,range->z8,all_eq_true->z6,getElem_mem->j0,mem_iff_getElem->Q1,getD_eq_getElem?_getD->i7,drop_eq_getElem_cons->r5,drop_eq_nil_of_le->H4,length_eq_zero_iff->M0,length_cons->d7,flatMap_cons->I6,getElem?_eq_none->X4,length_append->d6,length_drop->k9,length_nil->d9,length_singleton->w7,map_cons->N7,mem_cons_of_mem->A9,mem_cons_self->bU,any_eq_false->J8,any_eq_true->E6,mem_take_iff_getElem->Mk,append_nil->p8,drop_zero->H6,length_pos_iff->G2,take_length->p9,length->F7,length_take->j8,map_append->E9,take_append_drop->E4
open List.cons renaming injEq->FK
open Nat renaming add_sub_cancel_left->BS,le_refl->k8,add_zero->G3,mul_one->E3,zero_le->f8,zero_mul->Z4,strongRecOn->gY,not_lt_zero->H5,lt_or_ge->K8,mul_le_mul_right->y9,succ_mul->Z5
open Option renaming bind_eq_some_iff->Nh
open Option.some renaming inj->Y4,injEq->m9
namespace Go.Proofs.YtpjhmeicbjkcdaaGreatDoor
open Go Go.RowKit Go.Dw
theorem Gu {α:Type} {R:uU α} {sz b T:Nat} {x y:α} {c d:List Value} {h:Hp} (hh:(Ch.box b (c++d) T).h.le h) (hc:c.length=sz) (hd:d.length=sz) (hx:R h x c) (hy:R h y d):Sl R sz h (some ⟨b,0,none⟩) 2 2 [x,y]:=by
 refine⟨rfl,k8 _,λi hi=>?_⟩;match i,hi with
 | 0,_=>
  refine⟨b,0,c,rfl,hc,hx,λj v hj=>hh.cell (J3 b T ?_)⟩;have hl:=(q9.1 hj).1;rw[show 0+0*sz+j=j by omega,Y0 hl];exact hj
 | 1,_=>
  refine⟨b,0,d,rfl,hd,hy,λj v hj=>hh.cell (J3 b T ?_)⟩;rw[show 0+1*sz+j=c.length+j by omega,N0 om,BS];exact hj
theorem R7 {d:Nat} {H:Hp} {p:jL} {xs:List Value} (h:qB d H p xs) :∃a1 n1 c1 a2 n2 c2 a3 n3 c3 a4 n4 c4 a5 n5 c5,xs = [sv p.nm,.slice a1 n1 c1,.slice a2 n2 c2,.slice a3 n3 c3,.slice a4 n4 c4,.slice a5 n5 c5]/\n1=p.parts.length/\n2=p.insts.length/\n3=p.dims.length/\n4=p.cons.length/\n5=p.reqs.length:=by
 obtain⟨a1,n1,c1,a2,n2,c2,a3,n3,c3,a4,n4,c4,a5,n5,c5,e,h1,h2,h3,h4,h5⟩:=h.ex;exact⟨a1,n1,c1,a2,n2,c2,a3,n3,c3,a4,n4,c4,a5,n5,c5,e,h1.len,h2.len,h3.len,h4.len,h5.len⟩
theorem US (s:e8) (h:s.length < 1000000):SJ ⟨s,[],[],[],[],[]⟩:=⟨h,sQ,sQ,sQ,sQ,sQ,nofun,nofun,nofun,nofun⟩
theorem Aj (w:World) (hP:dT (Hp.whole w)):j6 Tryz.prog 13 #[.agg #[sv [112],zl,zl,zl,zl,zl]] w (v7 w (.tuple #[sv [112,114,111,100,117,99,116,32,112,59,10],iQ 0])):=by
 have h:=MT (d:=0) (p:=⟨[112],[],[],[],[],[]⟩) (cs:=[sv [112],zl,zl,zl,zl,zl]) w ⟨⟨none,0,0,none,0,0,none,0,0,none,0,0,none,0,0,rfl,Sl.nil _ _ _ _ _,Sl.nil _ _ _ _ _,Sl.nil _ _ _ _ _,Sl.nil _ _ _ _ _,Sl.nil _ _ _ _ _⟩⟩ (US [112] dc) hP;rw[Eu] at h;exact h
theorem Jv:pB Ht=(UT,1,36,8):=by
 have h:=Ew;simp only[Prod.mk.injEq] at h;unfold pB;rw[if_pos (by rw[h.2.2];decide),h.1,h.2.1,h.2.2];rfl
theorem Hf:(pB Gd).1=UT/\(pB Gd).2.2.2=14:=by
 have h:=Ev;unfold pB;rw[if_pos (by rw[h];decide),h];exact⟨rfl,rfl⟩
theorem Ai {b1 b2 b3 T1 T2 T3:Nat} (w:World) (h1:(Ch.box b1 [sv [97],iQ 0,iQ 0,iQ 0] T1).h.In w) (h2:(Ch.box b2 [iQ 0,sv [49]] T2).h.In w)
  (h3:(Ch.box b3 [iQ 0,sv [48],.slice (some ⟨b2,0,none⟩) 1 1,zs,zl,iQ 0,sv [53],zl,zs,zl] T3).h.In w) :
  j6 Tryz.prog 19 #[.slice (some ⟨b1,0,none⟩) 1 1,.agg #[iQ 4,zs,zl,zs,.slice (some ⟨b3,0,none⟩) 2 2]] w (v7 w (.tuple #[sv [109,97,120,40,91,48,32,43,32,49,32,42,32,97,93,44,32,91,53,93,41],iQ 0])):=by
 have hD:Sl (B0 O1) 4 (Hp.whole w) (some ⟨b1,0,none⟩) 1 1 [([97],0,0,0)]:=Sl.box (f:=O1) (sz:=4) (λ_=>rfl) dc h1 [([97],0,0,0)] rfl rfl dc;have hT:Sl (B0 U0) 2 (Hp.whole w) (some ⟨b2,0,none⟩) 1 1 [(0,[49])]:=Sl.box (f:=U0) (sz:=2) (λ_=>rfl) dc h2 [(0,[49])] rfl rfl dc;have hA:Sl (P5 1) 5 (Hp.whole w) (some ⟨b3,0,none⟩) 2 2 [.mk 0 ([48],[(0,[49])]) [] [],.mk 0 ([53],[]) [] []]:=
  Gu (x:=Ex.mk 0 ([48],[(0,[49])]) [] []) (y:=Ex.mk 0 ([53],[]) [] []) (c:=[iQ 0,sv [48],.slice (some ⟨b2,0,none⟩) 1 1,zs,zl]) (d:=[iQ 0,sv [53],zl,zs,zl]) h3.whole rfl rfl
   ⟨_,_,_,none,0,0,rfl,hT,Sl.nil _ _ _ _ _⟩ ⟨none,0,0,none,0,0,rfl,Sl.nil _ _ _ _ _,Sl.nil _ _ _ _ _⟩
 have hx:AS Kf:=.mk ⟨dc,dc,nofun⟩ dc dc (by
  intro y hy;rcases A8.1 hy with rfl | hy
  ·exact .mk ⟨dc,dc,by intro t ht;rcases A8.1 ht with rfl | ht;decide;cases ht⟩ dc dc nofun
  ·rcases A8.1 hy with rfl | hy
   ·exact .mk ⟨dc,dc,nofun⟩ dc dc nofun
   ·cases hy)
 have h:=mU (e:=2) (D:=[([97],0,0,0)]) (x:=Kf) (cs:=[iQ 4,zs,zl,zs,.slice (some ⟨b3,0,none⟩) 2 2]) w hD ⟨none,0,0,_,_,_,rfl,Sl.nil _ _ _ _ _,hA⟩ hx dc (by intro d hd;rcases A8.1 hd with rfl | hd;decide;cases hd) (by decide +kernel);rw[Et] at h;exact h
set_option maxRecDepth 10000 in
theorem rV (w:World) (hT:kU (Hp.whole w)) (hP:dT (Hp.whole w)):j6 Tryz.prog 9 #[] w (v7 w (.bool true)):=by
 have hA:=λ(w':World) (hm:(Hp.whole w).In w')=>AO Ht w' (hT.mono hm.whole);have hB:=λ(w':World) (hm:(Hp.whole w).In w')=>AO Gd w' (hT.mono hm.whole);rw[Jv] at hA;rw[Hf.1,Hf.2] at hB;generalize (pB Gd).2.1=z1 at hB;generalize (pB Gd).2.2.1=z2 at hB;refine enterZ (cx 79) [] [.tmp 0] Tryz.func9 ?_;refine o7 (λ_ kz=>kz _ _ ?_);refine o7 λq' hq'=>?_;refine k7 _ (λw' hm=>Aj w' (hP.mono (hm 0 _ rfl).whole)) ?_;apply hq';refine o7 λq' hq'=>?_;refine call (λw' hm=>hA w' (hm 0 _ rfl)) ?_;rintro _ _ ⟨H1,xs,rfl,rfl,_,hp1⟩;obtain⟨a1,n1,c1,a2,n2,c2,a3,n3,c3,a4,n4,c4,a5,n5,c5,rfl,_⟩:=R7 hp1;intro b3;apply hq';refine o7 λq' hq'=>?_;refine call (λw' hm=>hB w' (hm 0 _ rfl)) ?_;rintro _ _ ⟨H2,ys,rfl,rfl,_,hp2⟩;obtain⟨u1,m1,e1,u2,m2,e2,u3,m3,e3,u4,m4,e4,u5,m5,e5,rfl,_⟩:=R7 hp2;intro b7;apply hq';refine nQ [.hp (Hp.whole w),.hp H1,.box b3 [zs,.slice a1 n1 c1,.slice a2 n2 c2,.slice a3 n3 c3,.slice a4 n4 c4,.slice a5 n5 c5] 30,.hp H2,.box b7 [zs,.slice u1 m1 e1,.slice u2 m2 e2,.slice u3 m3 e3,.slice u4 m4 e4,.slice u5 m5 e5] 30] λq' hq'=>?_;intro b32 b34 b39;refine k7 _ (λw' hm=>Ai (b1:=b32) (b2:=b34) (b3:=b39) w' (hm 5 _ rfl) (hm 6 _ rfl) (hm 7 _ rfl)) ?_;apply hq';show Q7 _ _ _ _ _ _
 (iterate 3 refine w1j λK hK=>?_;apply hK);refine wGYj λK hK=>?_;apply hK;refine wGYj λK hK=>?_;refine W8 (b:=[112,114,111,100,117,99,116,32,112,59,10]) ?_;(iterate 2 apply hK;refine w1j λK hK=>?_);(iterate 2 apply hK;refine wGYj λK hK=>?_);(iterate 2 apply hK;refine w1j λK hK=>?_);(iterate 2 apply hK;refine wGYj λK hK=>?_);(iterate 2 apply hK;refine w1j λK hK=>?_);(iterate 2 apply hK;refine wGYj λK hK=>?_);(iterate 2 apply hK;refine w1j λK hK=>?_);(iterate 2 apply hK;refine wGYj λK hK=>?_);(iterate 2 apply hK;refine w1j λK hK=>?_);(iterate 3 apply hK;refine wGYj λK hK=>?_);refine W8 (b:=[]) ?_;(iterate 2 apply hK;refine w1j λK hK=>?_);(iterate 2 apply hK;refine wGYj λK hK=>?_);(iterate 2 apply hK;refine w1j λK hK=>?_);(iterate 2 apply hK;refine wGYj λK hK=>?_);refine W8 (b:=[109,97,120,40,91,48,32,43,32,49,32,42,32,97,93,44,32,91,53,93,41]) ?_;(iterate 2 apply hK;refine w1j λK hK=>?_);apply hK;refine dA ?_;exact⟨[],⟨rfl,rfl⟩,pk [0]⟩
end Go.Proofs.YtpjhmeicbjkcdaaGreatDoor
namespace Go.Proofs.YtpjhmeicbjkcdaaGreatDoor
open Go Go.RowKit Go.Dw
theorem qA {n1:Bool} {a1 a2:Option Addr} {k1 c1 k2 c2 x:Nat} (w:World) (hM:bT (Hp.whole w) (.slice a1 k1 c1) x) :
  j6 Tryz.prog 144 #[cF n1 a1 k1 c1 false a2 k2 c2] w (v7 w (iQ (if x=0 then 0 else if n1=true then -1 else 1))):=by
 unfold cF;refine enterZ (cx 6) [.agg #[.bool n1,.slice a1 k1 c1,.bool false,.slice a2 k2 c2]] [.tmp 2] Tryz.func144 ?_;intro b1;refine k7 _ (λw' hm=>cD w' (hM.mono (hm 0 _ rfl).whole)) ?_;exact⟨[],⟨rfl,rfl⟩,pk [0]⟩
end Go.Proofs.YtpjhmeicbjkcdaaGreatDoor
namespace Go.Dw
open Go Go.RowKit Go.ChangeShapes Go.WideShapes Go.ChangeAt
section
variable {H:Type} {enc:TypeId×Value->H} {P:Program} {W:World} {sp:Nat->Bool} {held:Bool}
theorem yX {α β:Type} {g:α->Option β} :∀{l:List α} {cs:List β},l.mapM g=some cs->cs.length=l.length/\∀(j:Nat) (v:β),cs[j]?=some v->∃i,l[j]?=some i/\g i=some v
 | [],cs,h=>by
  rw[List.mapM_nil] at h;cases h;exact⟨rfl,λj v h=>by simp at h⟩
 | x::l,cs,h=>by
  simp only[List.mapM_cons,Option.bind_eq_bind,Nh,Option.pure_def,m9] at h;obtain⟨y,hy,ys,hys,rfl⟩:=h;obtain⟨h1,h2⟩:=yX hys;refine⟨by simp[h1],λj v hj=>?_⟩;match j,hj with
  | 0,hj=>cases hj;exact⟨x,rfl,hy⟩
  | j+1,hj=>exact h2 j v hj
theorem V4 {α:Type} [Inhabited α] {R:uU α} {t e:TypeId} {n:Nat} (ht:P.underlying t=some (.slice e)) (hc:P.cellsOf e=n) (hn:0 < n)
  (hf :∀fuel cs (y:DataW H×List MemPlace),DataW.trod enc P W 0 sp held fuel e cs=some y->∃x:α,R (Hp.whole W) x cs)
  {fuel:Nat} {cs:List Value} {y:DataW H×List MemPlace} (h:DataW.trod enc P W 0 sp held fuel t cs=some y) :
  ∃a m c L,cs = [.slice a m c]/\Sl R n (Hp.whole W) a m c L:=by
 rcases DataW.trod_slice ht h with ⟨h0,_⟩ | ⟨a,len,cap,elems,rest,k,_,rfl,_,hb,hl,_,hlen,hel,_,_⟩
 ·exact⟨none,0,0,[],h0,Sl.nil _ _ _ _ _⟩
 rw[hc] at hel;have each :∀i,i < len->∃(x:α×List Value),R (Hp.whole W) x.1 x.2/\x.2.length=n/\∀j v,x.2[j]?=some v->W.cell? ((a.add (i*n)).add j)=some v:=by
  intro i hi;have h1:=hel i hi;rw[i6 om,Nh] at h1;obtain⟨cs',hcs,hy⟩:=h1;obtain⟨x,hx⟩:=hf _ _ _ hy;unfold World.cells? at hcs;rw[if_pos (f8 _)] at hcs;obtain⟨g1,g2⟩:=yX hcs;rw[L9] at g1;refine⟨(x,cs'),hx,g1,λj v hj=>?_⟩;obtain⟨q,hq,hv⟩:=g2 j v hj;have hjn:j < n:=by rw[<-g1];exact (q9.1 hj).1
  rw[qH hjn] at hq;cases hq;exact hv
 obtain⟨g,hg⟩ :∃g:Nat->α×List Value,∀i,i < len->R (Hp.whole W) (g i).1 (g i).2/\(g i).2.length=n/\∀j v,(g i).2[j]?=some v->W.cell? ((a.add (i*n)).add j)=some v:=by
  refine⟨λi=>if h:i < len then (each i h).choose else (default,[]),λi hi=>?_⟩;simp only[hi,↓reduceDIte];exact (each i hi).choose_spec
 refine⟨some a,len,cap,(z8 len).map λi=>(g i).1,rfl,sQ,hl,λi hi=>?_⟩;simp only[l7,L9] at hi;obtain⟨b,off,rfl⟩ :∃b off,a=⟨b,off,none⟩:=by
  obtain⟨_,h1,h2⟩:=hg 0 om;have:=h2 0 _ (i6 om);rw[Z4] at this;simp only[Addr.add,↓reduceIte] at this;exact DA this
 obtain⟨h0,h1,h2⟩:=hg i hi;refine⟨b,off,(g i).2,rfl,h1,by simpa using h0,λj v hj=>?_⟩;have:=h2 j v hj;rw[Addr.add_mk,Addr.add_mk] at this;exact this
theorem xT {t:TypeId} {fs:Array Field} {fuel:Nat} {cs:List Value} {x:DataW H×List MemPlace} (ht:P.underlying t=some (.struct fs)) (h:DataW.trod enc P W 0 sp held fuel t cs=some x) :
  cs.length=P.cellsOf t/\∃n,∀(i:Nat) (f:Field),fs[i]?=some f->∃y,DataW.trod enc P W 0 sp held n f.type ((cs.drop f.offset).take (P.cellsOf f.type))=some y:=by
 obtain⟨xs,n,_,rfl,hl,hlen,hf⟩:=DataW.trod_struct ht h;refine⟨hl,n,λi f hi=>?_⟩;have h1:=hf i f hi;have hi':i < xs.length:=by rw[hlen];exact (Array.getElem?_eq_some_iff.1 hi).1
 rw[i6 hi'] at h1;exact⟨_,h1⟩
theorem BV {t:TypeId} {F0 F1:Field} {fuel:Nat} {cs:List Value} {x:DataW H×List MemPlace} (ht:P.underlying t=some (.struct #[F0,F1])) (h:DataW.trod enc P W 0 sp held fuel t cs=some x) :
  cs.length=P.cellsOf t/\∃n,(∃y,DataW.trod enc P W 0 sp held n F0.type ((cs.drop F0.offset).take (P.cellsOf F0.type))=some y)/\(∃y,DataW.trod enc P W 0 sp held n F1.type ((cs.drop F1.offset).take (P.cellsOf F1.type))=some y):=by
 obtain⟨h1,n,h2⟩:=xT ht h;exact⟨h1,n,h2 0 F0 rfl,h2 1 F1 rfl⟩
theorem PK {t:TypeId} {F0 F1 F2 F3:Field} {fuel:Nat} {cs:List Value} {x:DataW H×List MemPlace} (ht:P.underlying t=some (.struct #[F0,F1,F2,F3])) (h:DataW.trod enc P W 0 sp held fuel t cs=some x) :
  cs.length=P.cellsOf t/\∃n,(∃y,DataW.trod enc P W 0 sp held n F0.type ((cs.drop F0.offset).take (P.cellsOf F0.type))=some y)/\(∃y,DataW.trod enc P W 0 sp held n F1.type ((cs.drop F1.offset).take (P.cellsOf F1.type))=some y)/\(∃y,DataW.trod enc P W 0 sp held n F2.type ((cs.drop F2.offset).take (P.cellsOf F2.type))=some y)/\(∃y,DataW.trod enc P W 0 sp held n F3.type ((cs.drop F3.offset).take (P.cellsOf F3.type))=some y):=by
 obtain⟨h1,n,h2⟩:=xT ht h;exact⟨h1,n,h2 0 F0 rfl,h2 1 F1 rfl,h2 2 F2 rfl,h2 3 F3 rfl⟩
theorem Hm {cs:List Value} (h:cs.length=2) :∃p q,cs = [p,q]:=by
 match cs,h with
 | [p,q],_=>exact⟨p,q,rfl⟩
theorem Hl {cs:List Value} (h:cs.length=4) :∃p q s u,cs = [p,q,s,u]:=by
 match cs,h with
 | [p,q,s,u],_=>exact⟨p,q,s,u,rfl⟩
theorem Hk {cs:List Value} (h:cs.length=5) :∃p q s u z,cs = [p,q,s,u,z]:=by
 match cs,h with
 | [p,q,s,u,z],_=>exact⟨p,q,s,u,z,rfl⟩
end
end Go.Dw
namespace Go.Proofs.YtpjhmeicbjkcdaaGreatDoor
open Go Go.RowKit Go.Dw Go.ChangeShapes Go.WideShapes Go.ChangeAt
def cI:List (String×DataW Unit):=[("math/bits.deBruijn32tab",Rows.laid_math_bits_deBruijn32tab),("math/bits.deBruijn64tab",Rows.laid_math_bits_deBruijn64tab),("internal/strconv.uint64pow10",Rows.laid_internal_strconv_uint64pow10),("unicode/utf8.acceptRanges",Rows.laid_unicode_utf8_acceptRanges),("strconv.ErrRange",Rows.laid_strconv_ErrRange),("strconv.ErrSyntax",Rows.laid_strconv_ErrSyntax),("unicode.White_Space",Rows.laid_unicode_White_Space),("strings.asciiSpace",Rows.laid_strings_asciiSpace),("unicode/utf8.first",Rows.laid_unicode_utf8_first)]
set_option maxRecDepth 100000 in
theorem CN (os:Os) (args:Array Value):((World.laidAll Tryz.prog os cI).forCall (λ_ _=>0) ⟨#[],args,[]⟩).Shaped Tryz.prog:=World.shaped_of_ZipB kr kr
set_option maxRecDepth 100000 in
theorem VK (os:Os) (args:Array Value):laidMetH Tryz.prog cI ((World.laidAll Tryz.prog os cI).forCall (λ_ _=>0) ⟨#[],args,[]⟩).memory:=by
 rw[MakeChecks.laidMetH_plain _ _ _ kr];exact laidMet_laidAll _ kr kr
theorem TP:Tryz.prog.globalNamed "strings.asciiSpace" = some 2:=kr
theorem Dp:(Tryz.prog.globals[2]?).map (·.type)=some 346:=kr
theorem ZD:(Rows.laid_strings_asciiSpace:DataW Unit)=.agg ((z8 256).map λn:Nat=>.lit (.int .u8 (if Lib.isSp (UInt8.ofNat n) then 1 else 0))):=kr
set_option maxRecDepth 100000 in
theorem qV {W:World} (hh:laidMetH Tryz.prog cI W):kU (Hp.whole W):=by
 have h:laidMetH Tryz.prog [("strings.asciiSpace",Rows.laid_strings_asciiSpace)] W:=hh.filter λx=>x.1 == "strings.asciiSpace";rw[MakeChecks.laidMetH_plain _ _ _ kr] at h;obtain⟨ps,⟨g0,t0,cs0,f0,p0,q0,hg0,ht0,hv0,hd0,_,_⟩,_,_⟩:=h;obtain rfl:=Y4 (TP.symm.trans hg0);obtain rfl:=Y4 (Dp.symm.trans ht0);obtain⟨xs,m1,rfl,hx1,hlen,hn,hel⟩:=DataW.trod_array Tryz.underlying346 hd0;have ce:Tryz.prog.cellsOf 5=1:=kr
 simp only[Prod.mk.injEq] at hx1;rw[ZD,DataW.agg.injEq] at hx1;intro j hj;have h0:=hel j hj;rw[ce,E3] at h0;have hjx:j < xs.length:=om
 rw[i6 hjx] at h0;obtain⟨n,e1,e2,_⟩:=DataW.trod_int Tryz.underlying5 h0;have hd:(xs.map (·.1))[j]?=some (.lit (.int .u8 n)):=by
  rw[G7,i6 hjx,e2];rfl
 rw[<-hx1.1,G7,qH hj] at hd;have hn2:(if Lib.isSp (UInt8.ofNat j) then (1:Int) else 0)=n:=by
  simpa using hd
 have hc:=World.var?_cell hg0 hv0 j;have hcj:cs0[j]?=some (.int .u8 n):=by
  have:=congrArg (·[0]?) e1;simp only[aQ,Na (show 0 < 1 by decide),bV,G3,Array.getElem?_toList] at this;exact this
 rw[hcj] at hc;rw[hn2];exact hc
theorem UM:Tryz.prog.globalNamed "internal/strconv.uint64pow10" = some 0:=kr
theorem Eb:(Tryz.prog.globals[0]?).map (·.type)=some 319:=kr
theorem ZU:(Rows.laid_internal_strconv_uint64pow10:DataW Unit)=Lib.tabData .u64 Lib.pow10Tab:=kr
set_option maxRecDepth 100000 in
theorem qW {W:World} (hh:laidMetH Tryz.prog cI W):dT (Hp.whole W):=by
 have h:laidMetH Tryz.prog [("internal/strconv.uint64pow10",Rows.laid_internal_strconv_uint64pow10)] W:=hh.filter λx=>x.1 == "internal/strconv.uint64pow10";rw[MakeChecks.laidMetH_plain _ _ _ kr,ZU] at h;exact dT.of (Lib.tabIs_of_head UM Eb Tryz.underlying319 Tryz.underlying248 kr kr h)
section
variable {H:Type} {enc:TypeId×Value->H} {W:World} {r:Reach} {b0:Nat} {v:Value} {d:DataW H} {ps:List MemPlace} {sp:Nat->Bool} {held:Bool}
end
end Go.Proofs.YtpjhmeicbjkcdaaGreatDoor
namespace Go.Proofs.YtpjhmeicbjkcdaaGreatDoor
open Go Go.RowKit Go.Dw
theorem CU {d:Nat} {h:Hp} {x:Ex} {cs:List Value} (hx:P5 d h x cs) :∃p q r s t,cs = [p,q,r,s,t]:=by
 cases d with
 | zero=>exact hx.elim
 | succ d=>
  obtain⟨op,f,fac,args⟩:=x;obtain⟨a,n,c,a',n',c',h1,_,_⟩:=hx;exact⟨_,_,_,_,_,h1⟩
end Go.Proofs.YtpjhmeicbjkcdaaGreatDoor
namespace Go.Dw
open Go Go.RowKit Go.ChangeShapes Go.WideShapes Go.ChangeAt
section
variable {H:Type} {enc:TypeId×Value->H} {P:Program} {W:World} {sp:Nat->Bool} {held:Bool}
theorem GZ {α:Type} [Inhabited α] {R:uU α} {t e:TypeId} {n:Nat} (ht:P.underlying t=some (.slice e)) (hc:P.cellsOf e=n) (hn:0 < n) {fuel:Nat}
  (hf :∀m cs (y:DataW H×List MemPlace),m < fuel->DataW.trod enc P W 0 sp held m e cs=some y->∃x:α,R (Hp.whole W) x cs)
  {cs:List Value} {y:DataW H×List MemPlace} (h:DataW.trod enc P W 0 sp held fuel t cs=some y) :
  ∃a m c L,cs = [.slice a m c]/\Sl R n (Hp.whole W) a m c L:=by
 rcases DataW.trod_slice ht h with ⟨h0,_⟩ | ⟨a,len,cap,elems,rest,k,hk,rfl,_,hb,hl,_,hlen,hel,_,_⟩
 ·exact⟨none,0,0,[],h0,Sl.nil _ _ _ _ _⟩
 rw[hc] at hel;have each :∀i,i < len->∃(x:α×List Value),R (Hp.whole W) x.1 x.2/\x.2.length=n/\∀j v,x.2[j]?=some v->W.cell? ((a.add (i*n)).add j)=some v:=by
  intro i hi;have h1:=hel i hi;rw[i6 om,Nh] at h1;obtain⟨cs',hcs,hy⟩:=h1;obtain⟨x,hx⟩:=hf k _ _ om hy;unfold World.cells? at hcs;rw[if_pos (f8 _)] at hcs;obtain⟨g1,g2⟩:=yX hcs;rw[L9] at g1;refine⟨(x,cs'),hx,g1,λj v hj=>?_⟩;obtain⟨q,hq,hv⟩:=g2 j v hj;have hjn:j < n:=by rw[<-g1];exact (q9.1 hj).1
  rw[qH hjn] at hq;cases hq;exact hv
 obtain⟨g,hg⟩ :∃g:Nat->α×List Value,∀i,i < len->R (Hp.whole W) (g i).1 (g i).2/\(g i).2.length=n/\∀j v,(g i).2[j]?=some v->W.cell? ((a.add (i*n)).add j)=some v:=by
  refine⟨λi=>if h:i < len then (each i h).choose else (default,[]),λi hi=>?_⟩;simp only[hi,↓reduceDIte];exact (each i hi).choose_spec
 refine⟨some a,len,cap,(z8 len).map λi=>(g i).1,rfl,sQ,hl,λi hi=>?_⟩;simp only[l7,L9] at hi;obtain⟨b,off,rfl⟩ :∃b off,a=⟨b,off,none⟩:=by
  obtain⟨_,h1,h2⟩:=hg 0 om;have:=h2 0 _ (i6 om);rw[Z4] at this;simp only[Addr.add,↓reduceIte] at this;exact DA this
 obtain⟨h0,h1,h2⟩:=hg i hi;refine⟨b,off,(g i).2,rfl,h1,by simpa using h0,λj v hj=>?_⟩;have:=h2 j v hj;rw[Addr.add_mk,Addr.add_mk] at this;exact this
theorem PI {t:TypeId} {fs:Array Field} {fuel:Nat} {cs:List Value} {x:DataW H×List MemPlace} (ht:P.underlying t=some (.struct fs)) (h:DataW.trod enc P W 0 sp held fuel t cs=some x) :
  cs.length=P.cellsOf t/\∃n,fuel=n+1/\∀(i:Nat) (f:Field),fs[i]?=some f->∃y,DataW.trod enc P W 0 sp held n f.type ((cs.drop f.offset).take (P.cellsOf f.type))=some y:=by
 obtain⟨xs,n,hn,rfl,hl,hlen,hf⟩:=DataW.trod_struct ht h;refine⟨hl,n,hn,λi f hi=>?_⟩;have h1:=hf i f hi;have hi':i < xs.length:=by rw[hlen];exact (Array.getElem?_eq_some_iff.1 hi).1
 rw[i6 hi'] at h1;exact⟨_,h1⟩
theorem TD {t:TypeId} {F0 F1 F2 F3:Field} {fuel:Nat} {cs:List Value} {x:DataW H×List MemPlace} (ht:P.underlying t=some (.struct #[F0,F1,F2,F3])) (h:DataW.trod enc P W 0 sp held fuel t cs=some x) :
  cs.length=P.cellsOf t/\∃n,fuel=n+1/\(∃y,DataW.trod enc P W 0 sp held n F0.type ((cs.drop F0.offset).take (P.cellsOf F0.type))=some y)/\(∃y,DataW.trod enc P W 0 sp held n F1.type ((cs.drop F1.offset).take (P.cellsOf F1.type))=some y)/\(∃y,DataW.trod enc P W 0 sp held n F2.type ((cs.drop F2.offset).take (P.cellsOf F2.type))=some y)/\(∃y,DataW.trod enc P W 0 sp held n F3.type ((cs.drop F3.offset).take (P.cellsOf F3.type))=some y):=by
 obtain⟨h1,n,h0,h2⟩:=PI ht h;exact⟨h1,n,h0,h2 0 F0 rfl,h2 1 F1 rfl,h2 2 F2 rfl,h2 3 F3 rfl⟩
theorem BW {t:TypeId} {fuel:Nat} {cs:List Value} {x:DataW H×List MemPlace} (ht:P.underlying t=some .string) (h:DataW.trod enc P W 0 sp held fuel t cs=some x) :∃s:List UInt8,cs = [sv s]:=by
 obtain⟨s,e,_⟩:=DataW.trod_string ht h;exact⟨s.data.toList,e⟩
end
end Go.Dw
namespace Go.Proofs.YtpjhmeicbjkcdaaGreatDoor
open Go Go.RowKit Go.Dw Go.ChangeShapes Go.WideShapes Go.ChangeAt
section
variable {H:Type} {enc:TypeId×Value->H} {W:World} {r:Reach} {b0:Nat} {v:Value} {d:DataW H} {ps:List MemPlace} {sp:Nat->Bool} {held:Bool}
theorem XM:Tryz.prog.cellsOf 3=1:=kr
theorem Ih:Tryz.prog.cellsOf 9=1:=kr
theorem XL:Tryz.prog.cellsOf 38=1:=kr
theorem Cp:Tryz.prog.cellsOf 80=2:=kr
theorem Fk:Tryz.prog.cellsOf 39=1:=kr
theorem Cq:Tryz.prog.cellsOf 41=2:=kr
theorem Im:Tryz.prog.cellsOf 42=1:=kr
theorem Io:Tryz.prog.cellsOf 44=5:=kr
theorem Cr:Tryz.prog.cellsOf 48=4:=kr
theorem JU {fuel:Nat} {cs:List Value} {y:DataW H×List MemPlace} (h:DataW.trod enc Tryz.prog W 0 sp held fuel 38 cs=some y) :∃s:e8,cs = [sv s]:=BW Tryz.underlying38 h
theorem Dg {fuel:Nat} {cs:List Value} {y:DataW H×List MemPlace} (h:DataW.trod enc Tryz.prog W 0 sp held fuel 9 cs=some y) :∃s:e8,cs = [sv s]:=BW Tryz.underlying9 h
theorem xW {fuel:Nat} {cs:List Value} {y:DataW H×List MemPlace} (h:DataW.trod enc Tryz.prog W 0 sp held fuel 3 cs=some y) :∃z:Int,cs = [iQ z]:=by
 obtain⟨z,e,_⟩:=DataW.trod_int Tryz.underlying3 h;exact⟨z,e⟩
set_option maxRecDepth 100000 in
theorem Df {fuel:Nat} {cs:List Value} {y:DataW H×List MemPlace} (h:DataW.trod enc Tryz.prog W 0 sp held fuel 80 cs=some y) :∃x:JL,B0 U0 (Hp.whole W) x cs:=by
 obtain⟨hl,n,⟨y0,k0⟩,⟨y1,k1⟩⟩:=BV Tryz.underlying80 h;dsimp only at k0 k1;rw[Cp] at hl;obtain⟨p0,p1,rfl⟩:=Hm hl;rw[XM] at k0;rw[XL] at k1;obtain⟨z,e0⟩:=xW k0;obtain⟨s,e1⟩:=JU k1;simp at e0 e1;exact⟨(z,s),by rw[e0,e1];rfl⟩
set_option maxRecDepth 100000 in
theorem Dh {fuel:Nat} {cs:List Value} {y:DataW H×List MemPlace} (h:DataW.trod enc Tryz.prog W 0 sp held fuel 41 cs=some y) :∃f:gG,Kr (Hp.whole W) f cs:=by
 obtain⟨hl,n,⟨y0,k0⟩,⟨y1,k1⟩⟩:=BV Tryz.underlying41 h;dsimp only at k0 k1;rw[Cq] at hl;obtain⟨p0,p1,rfl⟩:=Hm hl;rw[XL] at k0;rw[Fk] at k1;obtain⟨s,e0⟩:=JU k0;obtain⟨a,m,c,L,e1,hs⟩:=V4 (α:=JL) (R:=B0 U0) Tryz.underlying39 Cp dc (λ_ _ _ h=>Df h) k1;simp at e0 e1;exact⟨(s,L),a,m,c,by rw[e0,e1],hs⟩
instance:Inhabited Ex:=⟨.mk 0 ([],[]) [] []⟩
set_option maxRecDepth 100000 in
theorem Gs :∀(fuel:Nat) (cs:List Value) (y:DataW H×List MemPlace),DataW.trod enc Tryz.prog W 0 sp held fuel 44 cs=some y->∃x:Ex,P5 fuel (Hp.whole W) x cs:=by
 intro fuel;induction fuel using gY with
 | ind fuel ih=>
 intro cs y h;obtain⟨hl,n,rfl,⟨y0,k0⟩,⟨y1,k1⟩,⟨y2,k2⟩,⟨y3,k3⟩⟩:=TD Tryz.underlying44 h;dsimp only at k0 k1 k2 k3;rw[Io] at hl;obtain⟨p0,p1,p2,p3,p4,rfl⟩:=Hk hl;rw[XM] at k0;rw[Cq] at k1;rw[XL] at k2;rw[Im] at k3;obtain⟨op,e0⟩:=xW k0;obtain⟨f,a,m,c,e1,hs⟩:=Dh k1;obtain⟨fac,e2⟩:=JU k2;obtain⟨a1,m1,c1,L,e3,hs1⟩:=GZ (α:=Ex) (R:=P5 n) Tryz.underlying42 Io dc (λm cs y hm h=>by
  obtain⟨x,hx⟩:=ih m om cs y h;exact⟨x,Az om hx⟩) k3
 simp at e0 e1 e2 e3;exact⟨.mk op f fac L,a,m,c,a1,m1,c1,by rw[e0,e1.1,e1.2,e2,e3],hs,hs1⟩
set_option maxRecDepth 100000 in
theorem Di {fuel:Nat} {cs:List Value} {y:DataW H×List MemPlace} (h:DataW.trod enc Tryz.prog W 0 sp held fuel 48 cs=some y) :∃x:S1,B0 O1 (Hp.whole W) x cs:=by
 obtain⟨hl,n,⟨y0,k0⟩,⟨y1,k1⟩,⟨y2,k2⟩,⟨y3,k3⟩⟩:=PK Tryz.underlying48 h;dsimp only at k0 k1 k2 k3;rw[Cr] at hl;obtain⟨p0,p1,p2,p3,rfl⟩:=Hl hl;rw[Ih] at k0;rw[XM] at k1 k2 k3;obtain⟨s,e0⟩:=Dg k0;obtain⟨z1,e1⟩:=xW k1;obtain⟨z2,e2⟩:=xW k2;obtain⟨z3,e3⟩:=xW k3;simp at e0 e1 e2 e3;exact⟨(s,z1,z2,z3),by rw[e0,e1,e2,e3];rfl⟩
set_option maxRecDepth 100000 in
theorem UY (hval:Value.okWide Tryz.prog W r b0 26 v) (hd:DataW.Trod enc Tryz.prog W 0 (λ_=>true) true 26 v d ps) :∃(D:List S1) (a:Option Addr) (n c:Nat),v=.slice a n c/\Sl (B0 O1) 4 (Hp.whole W) a n c D:=by
 obtain⟨a,n,c,rfl⟩:=Go.Dw.okWide_slice Tryz.underlying26 hval;obtain⟨fuel,hf⟩:=hd;obtain⟨a',n',c',D,e,hs⟩:=V4 (α:=S1) (R:=B0 O1) Tryz.underlying26 Cr dc (λ_ _ _ h=>Di h) hf;have e':[Value.slice a n c] = [.slice a' n' c']:=e;simp only[FK,Value.slice.injEq,and_true] at e';obtain⟨rfl,rfl,rfl⟩:=e';exact⟨D,a,n,c,rfl,hs⟩
set_option maxRecDepth 100000 in
theorem Ee (hval:Value.okWide Tryz.prog W r b0 44 v) (hd:DataW.Trod enc Tryz.prog W 0 (λ_=>true) true 44 v d ps) :∃(e:Nat) (x:Ex) (cs:List Value),v=.agg cs.toArray/\P5 e (Hp.whole W) x cs:=by
 obtain⟨xs,rfl,_⟩:=okWide_struct Tryz.underlying44 hval;obtain⟨fuel,hf⟩:=hd;obtain⟨x,h1⟩:=Gs fuel _ _ hf;exact⟨fuel,x,xs.toList,sQ,h1⟩
end
end Go.Proofs.YtpjhmeicbjkcdaaGreatDoor
namespace Go.Proofs.YtpjhmeicbjkcdaaGreatDoor
open Go Go.RowKit Go.Dw
def iT (s:e8):Bool:=decide (s.length<=80) || (decide (400<=s.length) && decide (s.length<=402))
def uD (f:gG):Bool:=decide (f.2.length<=66) && (iT f.1 && f.2.all λt=>iT t.2)
theorem DS {s:e8} (h:iT s=true):s.length < 1000000:=by
 unfold iT at h;simp only[U8,k6,decide_eq_true_eq] at h;omega
theorem Fa {f:gG} (h:uD f=true):AR f:=by
 unfold uD at h;simp only[k6,decide_eq_true_eq,z6] at h;exact⟨DS h.2.1,om,λt ht=>DS (h.2.2 t ht)⟩
theorem mC (s:e8) (w:World):j6 Tryz.prog 29 #[sv s] w (v7 w (.bool (iT s))):=by
 have hl:(bs s).size=s.length:=B6 s;unfold iT;refine enterZ (cx 16) [sv s] [.tmp 2] Tryz.func29 ?_;refine d8 (λh1=>?_) λh1=>?_
 ·rw[hl] at h1;rw[decide_eq_true (show s.length<=80 by omega)];exact⟨[],⟨rfl,rfl⟩,pk [0]⟩
 rw[hl] at h1;rw[decide_eq_false (show ¬ s.length<=80 by omega),AV];refine d8 (λh2=>?_) λh2=>?_
 ·rw[hl] at h2;rw[decide_eq_true (show 400<=s.length by omega),F6];exact⟨[],⟨congrArg Value.bool (by rw[hl,decide_eq_decide];omega),rfl⟩,pk [0]⟩
 ·rw[hl] at h2;rw[decide_eq_false (show ¬ 400<=s.length by omega),U4];exact⟨[],⟨rfl,rfl⟩,pk [0]⟩
theorem rT (s:e8) (hs:s.length < 1000000) (w:World):j6 Tryz.prog 104 #[sv s] w (v7 w (iQ (I7 s))):=by
 refine enterZ (cx 11) [sv s] [.tmp 2] Tryz.func104 ?_;refine call (λw' hm=>R3 s hs w') ?_;rintro _ _ ⟨g,rfl,n1,a1,k1,c1,a2,k2,c2,x,y,rfl,h⟩;intro b3;exact⟨[],⟨rfl,rfl⟩,pk [0]⟩
set_option maxRecDepth 10000 in
theorem BG {a:Option Addr} {n c:Nat} {f:gG} (w:World) (hT:Sl (B0 U0) 2 (Hp.whole w) a n c f.2) :
  j6 Tryz.prog 30 #[.agg #[sv f.1,.slice a n c]] w (v7 w (.bool (uD f))):=by
 obtain⟨fc,L⟩:=f;have hlen:=hT.len;dsimp only at hT hlen ⊢;refine enterZ (cx 29) [.agg #[sv fc,.slice a n c]] [.tmp 2] Tryz.func30 ?_;intro b1;refine d8 (λh1=>?_) λh1=>?_
 ·refine⟨[],⟨congrArg Value.bool ?_,rfl⟩,pk [0]⟩;unfold uD;rw[decide_eq_false (show ¬ (fc,L).2.length<=66 by dsimp only;omega)];rfl
 refine k7 _ (λw' hm=>mC fc w') ?_;refine s8 (λh2=>?_) λh2=>?_
 ·refine⟨[],⟨congrArg Value.bool ?_,rfl⟩,pk [0]⟩;unfold uD;rw[show iT (fc,L).1=false by simpa using h2,U4,uV]
 have h2:iT fc=true:=by simpa using h2
 refine u6.mk Nat (λk=>[(1,.bx 1 0),(3,.v (iQ k))]) (λ_=>[.hp (Hp.whole w),.box b1 [sv fc,.slice a n c] 41])
  (λk=>k<=n/\∀j (hj:j < L.length),j < k->iT L[j].2=true) (λk=>n - k) 0 ⟨f8 _,λ_ _ h=>absurd h (H5 _)⟩ (v6.mk (λ_ _ h=>h) rfl rfl) ?_
 rintro k ⟨hk,ho⟩;refine d8 (λh3=>?_) λh3=>?_
 ·have hkl:k < L.length:=om
  refine I1 cQ (e:=80) rfl hT k rfl hkl λb9 o9 cs hcs hR hcell4=>?_;subst hR;refine lQ 0 (hcell4 1 _ rfl) ?_;refine k7 _ (λw' hm=>mC _ w') ?_;refine s8 (λh5=>?_) λh5=>?_
  ·refine⟨[],⟨congrArg Value.bool ?_,rfl⟩,pk [0]⟩;unfold uD;have:(L.all λt=>iT t.2)=false:=by
    rw[List.all_eq_false];exact⟨L[k],j0 hkl,by simpa using h5⟩
   rw[show ((fc,L).2.all λt=>iT t.2)=false from this,uV,uV]
  ·refine nwo ?_;refine⟨k+1,⟨om,λj hj hjk=>?_⟩,om,v6.mk (λ_ _ h=>h) rfl rfl⟩;by_cases e:j=k
   ·subst e;simpa using h5
   ·exact ho j hj om
 ·refine⟨[],⟨congrArg Value.bool ?_,rfl⟩,pk [0]⟩;unfold uD;have:(L.all λt=>iT t.2)=true:=by
   rw[z6];intro t ht;obtain⟨j,hj,rfl⟩:=Q1.1 ht;exact ho j hj om
  rw[show ((fc,L).2.all λt=>iT t.2)=true from this,show iT (fc,L).1=true from h2,decide_eq_true (show (fc,L).2.length<=66 by dsimp only;omega)];rfl
end Go.Proofs.YtpjhmeicbjkcdaaGreatDoor
namespace Go.Proofs.YtpjhmeicbjkcdaaGreatDoor
open Go Go.RowKit Go.Dw
theorem Gw {x:Nat} {n:Bool}:(if x=0 then (0:Int) else if n=true then -1 else 1)=0↔x=0:=by
 by_cases h:x=0
 ·simp[h]
 ·rw[if_neg h];cases n <;> simp[h]
set_option maxHeartbeats 1000000 in
theorem LG {a:Option Addr} {n c:Nat} {f:gG} (dims:Nat) (w:World) (hT:Sl (B0 U0) 2 (Hp.whole w) a n c f.2) (hf:AR f) (_hd:dims < 1000000) :
  j6 Tryz.prog 106 #[iQ dims,.agg #[sv f.1,.slice a n c]] w (v7 w (iQ (jD dims f))):=by
 obtain⟨fc,L⟩:=f;obtain⟨hf1,hf2,hf3⟩:=hf;have hlen:=hT.len;dsimp only at hT hf1 hf2 hf3 hlen ⊢;have hE:jD dims (fc,L)=if I7 fc≠0 then I7 fc else if 64 < L.length then 6 else mO (lJ dims L) L.length:=rfl
 refine enterZ (cx 67) [iQ dims,.agg #[sv fc,.slice a n c]] [.tmp 4] Tryz.func106 ?_;intro b2;refine k7 _ (λw' hm=>rT fc hf1 w') ?_;refine d8 (λh1=>?_) λh1=>?_
 ·rw[hE,if_pos h1];exact⟨[],⟨rfl,rfl⟩,pk [0]⟩
 rw[if_neg h1] at hE;refine d8 (λh2=>?_) λh2=>?_
 ·rw[hE,if_pos om];exact⟨[],⟨rfl,rfl⟩,pk [0]⟩
 rw[if_neg om] at hE;refine u6.mk Nat (λk=>[(0,.v (iQ dims)),(3,.bx 1 0),(6,.v (iQ k))]) (λ_=>[.hp (Hp.whole w),.box b2 [sv fc,.slice a n c] 41])
  (λk=>k<=n/\∀j,j < k->lJ dims L j=0) (λk=>n - k) 0 ⟨f8 _,λj hj=>absurd hj (H5 _)⟩ (v6.mk (λ_ _ h=>h) rfl rfl) ?_
 rintro k ⟨hk,hz⟩;dsimp only at hk hz ⊢;refine d8 (λh3=>?_) λh3=>?_
 ·have hkn:k < L.length:=om
  obtain⟨t,ht⟩ :∃t,t=L[k]:=⟨_,rfl⟩
  have htm:t∈L:=by rw[ht];exact j0 hkn
  have hts:t.2.length < 1000000:=hf3 t htm;have hgd:L.getD k (0,[])=t:=by rw[i7,i6 hkn,ht];rfl
  have hK:lJ dims L k=if t.1 < 0\/(dims:Int)<=t.1 then 10 else if 0 < k/\t.1<=(L.getD (k - 1) (0,[])).1 then 8 else if I7 t.2≠0 then I7 t.2 else if t.2 = [48] then 19 else 0:=by
   unfold lJ;rw[hgd]
  have hout:lJ dims L k≠0->jD dims (fc,L)=lJ dims L k:=λg=>by rw[hE,nM hz g hkn]
  obtain⟨t1,t2⟩:=t;dsimp only at hts hK;refine I1 cQ (e:=80) rfl hT k rfl hkn λb9 o9 cs hcs hR hcell4=>?_;rw[<-ht] at hR;subst hR;refine T7 cQ (i:=0) rfl hcell4 rfl ?_;intro b7;refine d8 (λh5=>?_) λh5=>?_
  ·rw[hout (by rw[hK,if_pos (Or.inl h5)];decide),hK,if_pos (Or.inl h5)];exact⟨[],⟨rfl,rfl⟩,pk [0]⟩
  refine d8 (λh6=>?_) λh6=>?_
  ·rw[hout (by rw[hK,if_pos (Or.inr h6)];decide),hK,if_pos (Or.inr h6)];exact⟨[],⟨rfl,rfl⟩,pk [0]⟩
  rw[if_neg om] at hK;refine s6.cut Bool (λq=>[(0,.v (iQ dims)),(3,.bx 1 0),(6,.v (iQ k)),(7,.bx 2 0),(54,.v (.bool q))]) (λ_=>[.hp (Hp.whole w),.box b2 [sv fc,.slice a n c] 41,.box b7 [iQ t1,sv t2] 80]) (λq=>q=true↔(0 < k/\t1<=(L.getD (k - 1) (0,[])).1)) (s6.by_order cQ (.take 0 <| .take 1 <| .take 2 <| .take 3 <| .take 4 <| .take 5 <| .take 6 <| .take 7 <| .take 8 <| .take 9 <| .take 10 <| .take 11 <| .take 12 <| .take 13 <| .done) kr ?_) ?_
  ·refine d8 (λh7=>?_) λh7=>?_
   ·have hk0:0 < k:=om
    have hk1:k - 1 < L.length:=om
    obtain⟨u,hu⟩ :∃u,u=L[k - 1]:=⟨_,rfl⟩
    have hgu:L.getD (k - 1) (0,[])=u:=by rw[i7,i6 hk1,hu];rfl
    refine nwo ?_;refine I1 cQ (e:=80) rfl hT (k - 1) om hk1 λb9 o9 cs hcs hR hcell8=>?_;rw[<-hu] at hR;obtain⟨u1,u2⟩:=u;subst hR;refine lQ 0 (hcell8 0 _ rfl) ?_;refine⟨decide (t1<=u1),?_,v6.mk (pj [0,1,2]) rfl rfl⟩;rw[hgu,decide_eq_true_eq];exact⟨λg=>⟨hk0,g⟩,λg=>g.2⟩
   ·refine⟨false,?_,v6.mk (pj [0,1,2]) rfl rfl⟩;exact⟨λg=>(H0 g).elim,λg=>absurd g.1 om⟩
  rintro q hq hsat;dsimp only;refine s8 (λh9=>?_) λh9=>?_
  ·have h9:=hq.1 h9;rw[hout (by rw[hK,if_pos h9];decide),hK,if_pos h9];exact⟨[],⟨rfl,rfl⟩,pk [0]⟩
  rw[if_neg (λg=>by rw[hq.2 g] at h9;cases h9)] at hK;refine call (λw' hm=>R3 t2 hts w') ?_;rintro _ _ ⟨g,rfl,n1,a1,k1,c1,a2,k2,c2,x,y,rfl,m1,m2,hp,h0,hnz⟩;intro b8;refine d8 (λh10=>?_) λh10=>?_
  ·have h10:I7 t2≠0:=h10;rw[if_pos h10] at hK;rw[hout (by rw[hK];exact h10),hK];exact⟨[],⟨rfl,rfl⟩,pk [0]⟩
  have h10 : ¬ I7 t2≠0:=h10;rw[if_neg h10] at hK;have hx:x=0↔t2 = [48]:=by
   rw[(h0 (l9.1 h10)).2.1];exact (VA (l9.1 h10)).symm
  refine k7 _ (λw' hm=>qA w' (m1.mono (hm 3 _ rfl).whole)) ?_;refine d8 (λh11=>?_) λh11=>?_
  ·have h11:t2 = [48]:=hx.1 (Gw.1 h11);rw[if_pos h11] at hK;rw[hout (by rw[hK];decide),hK];exact⟨[],⟨rfl,rfl⟩,pk [0]⟩
  have h11 : ¬ t2 = [48]:=λg=>h11 (Gw.2 (hx.2 g));rw[if_neg h11] at hK;refine nwo ?_;exact⟨k+1,⟨om,λj hj=>(K8 j k).elim (hz j) (λg=>by rw[show j=k by omega];exact hK)⟩,by (try dsimp only);omega,v6.mk (pj [0,1]) rfl rfl⟩
 ·rw[hE,V8.2 (λj hj=>hz j om)];exact⟨[],⟨rfl,rfl⟩,pk [0]⟩
end Go.Proofs.YtpjhmeicbjkcdaaGreatDoor
namespace Go.Proofs.YtpjhmeicbjkcdaaGreatDoor
open Go Go.RowKit Go.Dw
theorem U7 {n:Int} {d k:Nat} {op:Int} {f:gG} {fac:e8} {args:List Ex} {z:Int} (hk : ¬ 64<=k) (hz:bH n op f fac args.length=z) (h0:z≠0):M9 n (d+1) k (.mk op f fac args)=(z,k+1):=by
 rw[zS,if_neg hk,if_pos (by rw[hz];exact h0),hz]
theorem xE {n:Int} {d k:Nat} {op:Int} {f:gG} {fac:e8} {args:List Ex} (hk : ¬ 64<=k) (hz:bH n op f fac args.length=0):M9 n (d+1) k (.mk op f fac args)=Z2 (M9 n d) (k+1) args:=by
 rw[zS,if_neg hk,if_neg (by rw[hz];exact λh=>h rfl)]
def XW (dims d l:Nat) (x:Ex) (v:Value) (cs:List Value):Prop:=v=iQ (M9 dims d (64 - l) x).1/\∃l':Nat,cs = [iQ l']/\l'<=64/\((M9 dims d (64 - l) x).1=0->l'=64 - (M9 dims d (64 - l) x).2)
theorem V6 {dims d l l':Nat} {x:Ex} {z:Int} {k:Nat} (h:M9 dims d (64 - l) x=(z,k)) (hz:z≠0) (hl:l'<=64):XW dims d l x (iQ z) [iQ l']:=⟨by rw[h],l',rfl,hl,λe=>by rw[h] at e;exact absurd e hz⟩
theorem LN {dims d l l' k:Nat} {x:Ex} (h:M9 dims d (64 - l) x=(0,k)) (hl:l'<=64) (hk:l'=64 - k:=by omega):XW dims d l x (iQ 0) [iQ l']:=⟨by rw[h],l',rfl,hl,λ_=>by rw[h];exact hk⟩
theorem VN {dims d l p:Nat} {op:Int} {f:gG} {fac:e8} {args:List Ex} {z:Int} (hk : ¬ 64<=64 - l) (ha:args = []) (hz:bH dims op f fac args.length=z) (hp:l=p+1) (hl:l<=64):XW dims (d+1) l (.mk op f fac args) (iQ z) [iQ p]:=by
 by_cases h:z=0
 ·subst h;have h1:M9 dims (d+1) (64 - l) (.mk op f fac args)=(0,64 - l+1):=by rw[xE hk hz,ha,jG]
  exact⟨by rw[h1],p,rfl,om,λ_=>by rw[h1];dsimp only;omega⟩
 ·exact V6 (U7 hk hz h) h om
theorem zG {dims d l l':Nat} {x:Ex} {r:Int×Nat} (h:M9 dims d (64 - l) x=r) (hz:r.1≠0) (hl:l'<=64):XW dims d l x (iQ r.1) [iQ l']:=by
 subst h;exact⟨rfl,l',rfl,hl,λe=>absurd e hz⟩
theorem OV {g:Nat->Ex->Int×Nat} (hg :∀k x,k<=64->(g k x).2<=64) :∀(L:List Ex) (k:Nat),k<=64->(Z2 g k L).2<=64
 | [],k,hk=>by rw[jG];exact hk
 | x::r,k,hk=>by
  rw[jH];split
  ·exact hg k x hk
  ·exact OV hg r _ (hg k x hk)
theorem xD (n:Int) :∀(d k:Nat) (x:Ex),k<=64->(M9 n d k x).2<=64
 | 0,k,x,hk=>by rw[LY];exact hk
 | d+1,k,.mk op f fac args,hk=>by
  rw[zS];split
  ·exact hk
  ·split
   ·dsimp only;omega
   ·exact OV (xD n d) args _ om
theorem rS {n op:Int} {f:gG} {fac:e8} {k:Nat} {z:Int} (h:bH n op f fac k=z:=by
 first
  | exact yT om
  | (rw[LB om om];first | (rw[if_pos (Or.inl om)];done) | (rw[if_pos (Or.inr (by assumption))];done) | (rw[if_neg (by rintro (g | g) <;> first | omega | contradiction)];done))
  | (rw[LA om om];first
    | (rw[if_pos (Or.inl (Or.inl (by assumption)))];done)
    | (rw[if_pos (Or.inl (Or.inr om))];done)
    | (rw[if_pos (Or.inr ⟨by assumption,by assumption⟩)];done)
    | (rw[if_neg (by rintro ((g | g) | ⟨g,g2⟩) <;> first | omega | contradiction)];first
      | (rw[if_pos om];done)
      | (rw[if_neg om,if_neg om];done)
      | (rw[if_neg om,if_pos om];first | done | (exact l9.1 (by assumption)))))):bH n op f fac k=z:=h
set_option maxRecDepth 20000 in
set_option maxHeartbeats 4000000 in
theorem LI {bv dims:Nat} (hd:dims < 1000000) :∀(d e l lv:Nat) (x:Ex) (cs:List Value) (w:World),lv+d=9->l<=64->AS x->(Ch.box bv [iQ l] 3).h.In w->P5 e ((Hp.whole w).minus (Ch.box bv [iQ l] 3).h) x cs->
  j6 Tryz.prog 66 #[iQ dims,.agg cs.toArray,iQ lv,pQ bv] w
   (O6 w (Ch.box bv [iQ l] 3).h λv h' cs2=>cs2 = []/\∃cs',(Ch.box bv cs' 3).h.le h'/\XW dims d l x v cs'):=by
 intro d;induction d with
 | zero=>
  intro e l lv x cs w hlv hl hx hin he;match e,he with
  | e+1,he=>
  obtain⟨op,f,fac,args⟩:=x;obtain⟨a,n,c,a1,n1,c1,rfl,hf,ha⟩:=he;have hE:=LY dims (64 - l) (.mk op f fac args);obtain⟨c0,hc0⟩ :∃c0,c0=(Hp.whole w).minus (Ch.box bv [iQ l] 3).h:=⟨_,rfl⟩
  have ok0:Ok w [.hp c0,.box bv [iQ l] 3] w:=by rw[hc0];exact Ok.same (s:=[.hp ((Hp.whole w).minus (Ch.box bv [iQ l] 3).h),.hp (Ch.box bv [iQ l] 3).h]) (i:=1) (c:=.hp (Ch.box bv [iQ l] 3).h) (d:=.box bv [iQ l] 3) rfl rfl (Ok.start2 w hin)
  refine enterMSZ (cx 120) [iQ dims,.agg #[iQ op,sv f.1,.slice a n c,sv fac,.slice a1 n1 c1],iQ lv,pQ bv] ok0 [.tmp 8] Tryz.func66 ?_;rw[<-hc0] at hf ha ⊢;intro b5;refine d8 (λh1=>?_) (λh1=>by omega);exact⟨(Ch.box bv [iQ l] 3).h,[],⟨rfl,_,λ_ _ h=>h,V6 hE dc hl⟩,λw' h=>(h.pick [0,1] rfl rfl).boxHp⟩
 | succ d ih=>
  intro e l lv x cs w hlv hl hx hin he;match e,he with
  | e+1,he=>
  obtain⟨op,f,fac,args⟩:=x;obtain⟨a,n,c,a1,n1,c1,rfl,hf,ha⟩:=he;cases hx with
  | mk hxf hxs hxn hxa=>
  have hla:=ha.len;have hlf:=hf.len;obtain⟨c0,hc0⟩ :∃c0,c0=(Hp.whole w).minus (Ch.box bv [iQ l] 3).h:=⟨_,rfl⟩
  have ok0:Ok w [.hp c0,.box bv [iQ l] 3] w:=by rw[hc0];exact Ok.same (s:=[.hp ((Hp.whole w).minus (Ch.box bv [iQ l] 3).h),.hp (Ch.box bv [iQ l] 3).h]) (i:=1) (c:=.hp (Ch.box bv [iQ l] 3).h) (d:=.box bv [iQ l] 3) rfl rfl (Ok.start2 w hin)
  refine enterMSZ (cx 120) [iQ dims,.agg #[iQ op,sv f.1,.slice a n c,sv fac,.slice a1 n1 c1],iQ lv,pQ bv] ok0 [.tmp 8] Tryz.func66 ?_;rw[<-hc0] at hf ha ⊢;intro b5;refine d8 (λh1=>by omega) λh1=>?_;refine lR 1 0 ?_;refine d8 (λh2=>?_) λh2=>?_
  ·have hE:M9 dims (d+1) (64 - l) (.mk op f fac args)=(6,64 - l):=by rw[zS,if_pos om]
   exact⟨(Ch.box bv [iQ l] 3).h,[],⟨rfl,_,λ_ _ h=>h,V6 hE dc hl⟩,λw' h=>(h.pick [0,1] rfl rfl).boxHp⟩
  have hk : ¬ 64<=64 - l:=om
  refine d8 (λh3=>?_) λh3=>?_
  ·exact⟨(Ch.box bv [iQ l] 3).h,[],⟨rfl,_,λ_ _ h=>h,V6 (U7 hk (yT (.inl h3)) dc) dc hl⟩,λw' h=>(h.pick [0,1] rfl rfl).boxHp⟩
  refine d8 (λh4=>?_) λh4=>?_
  ·exact⟨(Ch.box bv [iQ l] 3).h,[],⟨rfl,_,λ_ _ h=>h,V6 (U7 hk (yT (.inr h4)) dc) dc hl⟩,λw' h=>(h.pick [0,1] rfl rfl).boxHp⟩
  obtain⟨p,hp⟩ :∃p:Nat,l=p+1:=⟨l - 1,om⟩
  refine o7 λq' hq'=>?_;refine lR 1 0 ?_;refine tY (y:=(p:Int)) om om om ?_;refine fI cQ (i:=1) (j:=0) rfl rfl rfl sQ rfl rfl ?_;apply hq';refine X9 [.hp c0,.box bv [iQ p] 3,.box b5 [iQ op,sv f.1,.slice a n c,sv fac,.slice a1 n1 c1] 44] rfl ?_;have hl1:p<=64:=om
  refine d8 (λh5=>?_) λh5=>?_
  ·refine o7 λq' hq'=>?_;refine d8 (λh6=>?_) λh6=>?_
   ·apply hq';exact⟨(Ch.box bv [iQ p] 3).h,[],⟨rfl,_,λ_ _ h=>h,V6 (U7 hk rS dc) dc hl1⟩,λw' h=>(h.pick [0,1] rfl rfl).boxHp⟩
   refine cG (b:=[]) ?_;apply hq';refine d8 (λh7=>?_) λh7=>?_
   ·exact⟨(Ch.box bv [iQ p] 3).h,[],⟨rfl,_,λ_ _ h=>h,V6 (U7 hk rS dc) dc hl1⟩,λw' h=>(h.pick [0,1] rfl rfl).boxHp⟩
   refine k7 _ (λw' hm=>LG dims w' (hf.mono (j7 _) (hm 0 _ rfl).whole) hxf hd) ?_;exact⟨(Ch.box bv [iQ p] 3).h,[],⟨rfl,_,λ_ _ h=>h,VN hk (M0.1 om) rS hp hl⟩,λw' h=>(h.pick [0,1] rfl rfl).boxHp⟩
  refine o7 λq' hq'=>?_;refine cG (b:=[]) ?_;refine d8 (λh8=>?_) λh8=>?_
  ·apply hq';exact⟨(Ch.box bv [iQ p] 3).h,[],⟨rfl,_,λ_ _ h=>h,V6 (U7 hk rS dc) dc hl1⟩,λw' h=>(h.pick [0,1] rfl rfl).boxHp⟩
  refine d8 (λh9=>?_) λh9=>?_
  ·apply hq';exact⟨(Ch.box bv [iQ p] 3).h,[],⟨rfl,_,λ_ _ h=>h,V6 (U7 hk rS dc) dc hl1⟩,λw' h=>(h.pick [0,1] rfl rfl).boxHp⟩
  refine d8 (λh10=>?_) λh10=>?_
  ·refine cG (b:=[]) ?_;apply hq';refine d8 (λh11=>?_) λh11=>?_
   ·exact⟨(Ch.box bv [iQ p] 3).h,[],⟨rfl,_,λ_ _ h=>h,V6 (U7 hk rS dc) dc hl1⟩,λw' h=>(h.pick [0,1] rfl rfl).boxHp⟩
   refine o7 λq' hq'=>?_;refine d8 (λh12=>?_) λh12=>?_
   ·apply hq';exact⟨(Ch.box bv [iQ p] 3).h,[],⟨rfl,_,λ_ _ h=>h,V6 (U7 hk rS dc) dc hl1⟩,λw' h=>(h.pick [0,1] rfl rfl).boxHp⟩
   refine d8 (λh13=>by omega) λh13=>?_;refine d8 (λh14=>?_) λh14=>?_
   ·apply hq';refine d8 (λh15=>?_) λh15=>?_
    ·exact⟨(Ch.box bv [iQ p] 3).h,[],⟨rfl,_,λ_ _ h=>h,V6 (U7 hk rS dc) dc hl1⟩,λw' h=>(h.pick [0,1] rfl rfl).boxHp⟩
    refine d8 (λh16=>by omega) λh16=>?_;have hgo:=xE (d:=d) hk (show bH dims op f fac args.length=0 from rS);refine u6.mk (Nat×Nat) (λg=>[(0,.v (iQ dims)),(2,.v (iQ lv)),(3,.v (pQ bv)),(5,.bx 2 0),(10,.v (iQ g.1))]) (λg=>[.hp c0,.box bv [iQ g.2] 3,.box b5 [iQ op,sv f.1,.slice a n c,sv fac,.slice a1 n1 c1] 44])
     (λg=>g.1<=n1/\g.2<=64/\Z2 (M9 dims d) (64 - l+1) args=Z2 (M9 dims d) (64 - g.2) (args.drop g.1)) (λg=>n1 - g.1) (0,p) ⟨f8 _,hl1,by rw[show 64 - l+1=64 - p by omega];rfl⟩ (v6.mk (pj [0,1,2]) rfl rfl) ?_
    rintro⟨i,m⟩ ⟨hi,hm64,hE⟩;dsimp only at hi hm64 hE ⊢;refine d8 (λh17=>?_) λh17=>?_
    ·have hil:i < args.length:=om
     obtain⟨y,hy⟩ :∃y,y=args[i]:=⟨_,rfl⟩
     have hym:y∈args:=by rw[hy];exact j0 hil
     rw[r5 hil,<-hy,jH] at hE;refine I1 cQ (e:=44) rfl ha i rfl hil λb9 o9 cs hcs hR9 hcell=>?_;rw[<-hy] at hR9;obtain⟨p1,p2,p3,p4,p5,rfl⟩:=CU hR9;refine T7 cQ (i:=0) rfl hcell rfl ?_;refine nwo ?_;refine jU (i:=1) rfl (λw0 w1 hok=>ih e m (lv+1) _ _ w1 om hm64 (hxa _ hym) (hok.mem 1 _ rfl) (q7 _ _ _ _ _ (Hp.le_minus (hok.mem 0 _ rfl).whole (hok.disj 0 1 _ _ dc rfl rfl)) hR9)) ?_;rintro _ _ ⟨rfl,l',rfl,hl',hz⟩;refine d8 (λh19=>?_) λh19=>?_
     ·rw[if_pos h19] at hE;exact⟨(Ch.box bv [iQ l'] 3).h,[],⟨rfl,_,λ_ _ h=>h,zG (hgo.trans hE) h19 hl'⟩,λw' h=>(h.pick [0,1] rfl rfl).boxHp⟩
     ·rw[if_neg h19] at hE;refine nwo ?_;have hz':=hz (l9.1 h19);have hq:=xD dims d (64 - m) y om;exact⟨(i+1,l'),⟨om,hl',by dsimp only;rw[hE,show (M9 dims d (64 - m) y).2=64 - l' by omega]⟩,om,v6.mk (pj [0,1,2]) rfl rfl⟩
    ·rw[H4 om,jG] at hE;exact⟨(Ch.box bv [iQ m] 3).h,[],⟨rfl,_,λ_ _ h=>h,LN (hgo.trans hE) hm64⟩,λw' h=>(h.pick [0,1] rfl rfl).boxHp⟩
   ·apply hq';refine d8 (λh16=>by omega) λh16=>?_;have hgo:=xE (d:=d) hk (show bH dims op f fac args.length=0 from rS);refine u6.mk (Nat×Nat) (λg=>[(0,.v (iQ dims)),(2,.v (iQ lv)),(3,.v (pQ bv)),(5,.bx 2 0),(10,.v (iQ g.1))]) (λg=>[.hp c0,.box bv [iQ g.2] 3,.box b5 [iQ op,sv f.1,.slice a n c,sv fac,.slice a1 n1 c1] 44])
     (λg=>g.1<=n1/\g.2<=64/\Z2 (M9 dims d) (64 - l+1) args=Z2 (M9 dims d) (64 - g.2) (args.drop g.1)) (λg=>n1 - g.1) (0,p) ⟨f8 _,hl1,by rw[show 64 - l+1=64 - p by omega];rfl⟩ (v6.mk (pj [0,1,2]) rfl rfl) ?_
    rintro⟨i,m⟩ ⟨hi,hm64,hE⟩;dsimp only at hi hm64 hE ⊢;refine d8 (λh17=>?_) λh17=>?_
    ·have hil:i < args.length:=om
     obtain⟨y,hy⟩ :∃y,y=args[i]:=⟨_,rfl⟩
     have hym:y∈args:=by rw[hy];exact j0 hil
     rw[r5 hil,<-hy,jH] at hE;refine I1 cQ (e:=44) rfl ha i rfl hil λb9 o9 cs hcs hR9 hcell=>?_;rw[<-hy] at hR9;obtain⟨p1,p2,p3,p4,p5,rfl⟩:=CU hR9;refine T7 cQ (i:=0) rfl hcell rfl ?_;refine nwo ?_;refine jU (i:=1) rfl (λw0 w1 hok=>ih e m (lv+1) _ _ w1 om hm64 (hxa _ hym) (hok.mem 1 _ rfl) (q7 _ _ _ _ _ (Hp.le_minus (hok.mem 0 _ rfl).whole (hok.disj 0 1 _ _ dc rfl rfl)) hR9)) ?_;rintro _ _ ⟨rfl,l',rfl,hl',hz⟩;refine d8 (λh19=>?_) λh19=>?_
     ·rw[if_pos h19] at hE;exact⟨(Ch.box bv [iQ l'] 3).h,[],⟨rfl,_,λ_ _ h=>h,zG (hgo.trans hE) h19 hl'⟩,λw' h=>(h.pick [0,1] rfl rfl).boxHp⟩
     ·rw[if_neg h19] at hE;refine nwo ?_;have hz':=hz (l9.1 h19);have hq:=xD dims d (64 - m) y om;exact⟨(i+1,l'),⟨om,hl',by dsimp only;rw[hE,show (M9 dims d (64 - m) y).2=64 - l' by omega]⟩,om,v6.mk (pj [0,1,2]) rfl rfl⟩
    ·rw[H4 om,jG] at hE;exact⟨(Ch.box bv [iQ m] 3).h,[],⟨rfl,_,λ_ _ h=>h,LN (hgo.trans hE) hm64⟩,λw' h=>(h.pick [0,1] rfl rfl).boxHp⟩
  ·apply hq';refine o7 λq' hq'=>?_;refine d8 (λh12=>?_) λh12=>?_
   ·apply hq';exact⟨(Ch.box bv [iQ p] 3).h,[],⟨rfl,_,λ_ _ h=>h,V6 (U7 hk rS dc) dc hl1⟩,λw' h=>(h.pick [0,1] rfl rfl).boxHp⟩
   refine d8 (λh13=>?_) (λh13=>by omega);apply hq';refine d8 (λh15=>?_) λh15=>?_
   ·exact⟨(Ch.box bv [iQ p] 3).h,[],⟨rfl,_,λ_ _ h=>h,V6 (U7 hk rS dc) dc hl1⟩,λw' h=>(h.pick [0,1] rfl rfl).boxHp⟩
   refine d8 (λh16=>?_) (λh16=>by omega);refine k7 _ (λw' hm=>rT fac hxs w') ?_;refine d8 (λh18=>?_) λh18=>?_
   ·exact⟨(Ch.box bv [iQ p] 3).h,[],⟨rfl,_,λ_ _ h=>h,V6 (U7 hk rS h18) h18 hl1⟩,λw' h=>(h.pick [0,1] rfl rfl).boxHp⟩
   have hgo:=xE (d:=d) hk (show bH dims op f fac args.length=0 from rS);refine u6.mk (Nat×Nat) (λg=>[(0,.v (iQ dims)),(2,.v (iQ lv)),(3,.v (pQ bv)),(5,.bx 2 0),(10,.v (iQ g.1))]) (λg=>[.hp c0,.box bv [iQ g.2] 3,.box b5 [iQ op,sv f.1,.slice a n c,sv fac,.slice a1 n1 c1] 44])
    (λg=>g.1<=n1/\g.2<=64/\Z2 (M9 dims d) (64 - l+1) args=Z2 (M9 dims d) (64 - g.2) (args.drop g.1)) (λg=>n1 - g.1) (0,p) ⟨f8 _,hl1,by rw[show 64 - l+1=64 - p by omega];rfl⟩ (v6.mk (pj [0,1,2]) rfl rfl) ?_
   rintro⟨i,m⟩ ⟨hi,hm64,hE⟩;dsimp only at hi hm64 hE ⊢;refine d8 (λh17=>?_) λh17=>?_
   ·have hil:i < args.length:=om
    obtain⟨y,hy⟩ :∃y,y=args[i]:=⟨_,rfl⟩
    have hym:y∈args:=by rw[hy];exact j0 hil
    rw[r5 hil,<-hy,jH] at hE;refine I1 cQ (e:=44) rfl ha i rfl hil λb9 o9 cs hcs hR9 hcell=>?_;rw[<-hy] at hR9;obtain⟨p1,p2,p3,p4,p5,rfl⟩:=CU hR9;refine T7 cQ (i:=0) rfl hcell rfl ?_;refine nwo ?_;refine jU (i:=1) rfl (λw0 w1 hok=>ih e m (lv+1) _ _ w1 om hm64 (hxa _ hym) (hok.mem 1 _ rfl) (q7 _ _ _ _ _ (Hp.le_minus (hok.mem 0 _ rfl).whole (hok.disj 0 1 _ _ dc rfl rfl)) hR9)) ?_;rintro _ _ ⟨rfl,l',rfl,hl',hz⟩;refine d8 (λh19=>?_) λh19=>?_
    ·rw[if_pos h19] at hE;exact⟨(Ch.box bv [iQ l'] 3).h,[],⟨rfl,_,λ_ _ h=>h,zG (hgo.trans hE) h19 hl'⟩,λw' h=>(h.pick [0,1] rfl rfl).boxHp⟩
    ·rw[if_neg h19] at hE;refine nwo ?_;have hz':=hz (l9.1 h19);have hq:=xD dims d (64 - m) y om;exact⟨(i+1,l'),⟨om,hl',by dsimp only;rw[hE,show (M9 dims d (64 - m) y).2=64 - l' by omega]⟩,om,v6.mk (pj [0,1,2]) rfl rfl⟩
   ·rw[H4 om,jG] at hE;exact⟨(Ch.box bv [iQ m] 3).h,[],⟨rfl,_,λ_ _ h=>h,LN (hgo.trans hE) hm64⟩,λw' h=>(h.pick [0,1] rfl rfl).boxHp⟩
end Go.Proofs.YtpjhmeicbjkcdaaGreatDoor
namespace Go.Proofs.YtpjhmeicbjkcdaaGreatDoor
open Go Go.RowKit Go.Dw
def uF (g:Nat->Ex->Bool×Nat):Nat->List Ex->Bool×Nat
 | l,[]=>(true,l)
 | l,x::r=>if (g l x).1=true then uF g (g l x).2 r else (false,(g l x).2)
def jF:Nat->Nat->Ex->Bool×Nat
 | 0,l,_=>(false,l)
 | d+1,l,.mk _ f fac args=>if l=0 then (false,l) else if (uD f && iT fac)=true then uF (jF d) (l - 1) args else (false,l)
theorem II (g:Nat->Ex->Bool×Nat) (l:Nat):uF g l []=(true,l):=rfl
theorem uE (g:Nat->Ex->Bool×Nat) (l:Nat) (x:Ex) (r:List Ex):uF g l (x::r)=if (g l x).1=true then uF g (g l x).2 r else (false,(g l x).2):=rfl
theorem EV (l:Nat) (x:Ex):jF 0 l x=(false,l):=by cases x;rfl
theorem WG (d l:Nat) (op:Int) (f:gG) (fac:e8) (args:List Ex):jF (d+1) l (.mk op f fac args)=if l=0 then (false,l) else if (uD f && iT fac)=true then uF (jF d) (l - 1) args else (false,l):=rfl
theorem sE {g:Nat->Ex->Bool×Nat} (hg :∀l x,(g l x).1=true->(g l x).2+1<=l) :∀(L:List Ex) (l:Nat),(uF g l L).1=true->(uF g l L).2+L.length<=l/\∀x∈L,∃l',l'<=l/\(g l' x).1=true
 | [],l,_=>⟨k8 _,nofun⟩
 | x::r,l,h=>by
  rw[uE] at h ⊢;by_cases h1:(g l x).1=true
  ·rw[if_pos h1] at h ⊢;have h2:=hg l x h1;obtain⟨h3,h4⟩:=sE hg r _ h;refine⟨by simp only[d7];omega,λy hy=>?_⟩;rcases A8.1 hy with rfl | hy
   ·exact⟨l,k8 _,h1⟩
   ·obtain⟨l',h5,h6⟩:=h4 y hy;exact⟨l',om,h6⟩
  ·rw[if_neg h1] at h;exact absurd h H0
theorem zQ {d l:Nat} {op:Int} {f:gG} {fac:e8} {args:List Ex} (h:(jF (d+1) l (.mk op f fac args)).1=true):0 < l/\uD f=true/\iT fac=true/\jF (d+1) l (.mk op f fac args)=uF (jF d) (l - 1) args:=by
 rw[WG] at h ⊢;by_cases h1:l=0
 ·rw[if_pos h1] at h;exact absurd h H0
 rw[if_neg h1] at h ⊢;by_cases h2:(uD f && iT fac)=true
 ·rw[if_pos h2];rw[k6] at h2;exact⟨om,h2.1,h2.2,rfl⟩
 ·rw[if_neg h2] at h;exact absurd h H0
theorem sD :∀(d l:Nat) (x:Ex),(jF d l x).1=true->(jF d l x).2+1<=l
 | 0,l,x,h=>by rw[EV] at h;exact absurd h H0
 | d+1,l,.mk op f fac args,h=>by
  obtain⟨h1,_,_,h2⟩:=zQ h;rw[h2] at h ⊢;have:=(sE (sD d) args _ h).1;omega
theorem WH :∀(d l:Nat) (x:Ex),l < 1000->(jF d l x).1=true->AS x
 | 0,l,x,_,h=>by rw[EV] at h;exact absurd h H0
 | d+1,l,.mk op f fac args,hl,h=>by
  obtain⟨h1,hf,hs,h2⟩:=zQ h;rw[h2] at h;obtain⟨h3,h4⟩:=sE (sD d) args _ h;refine .mk (Fa hf) (DS hs) om λy hy=>?_;obtain⟨l',h5,h6⟩:=h4 y hy;exact WH d l' y om h6
def Fz (d l:Nat) (x:Ex) (v:Value) (cs:List Value):Prop:=v=.bool (jF d l x).1/\∃l':Nat,cs = [iQ l']/\l'<=70/\((jF d l x).1=true->l'=(jF d l x).2)
theorem uC {d l l':Nat} {x:Ex} (hl:l'<=70) (h:(jF d l x).1=false):Fz d l x (.bool false) [iQ l']:=⟨by rw[h],l',rfl,hl,λe=>by rw[h] at e;exact absurd e H0⟩
theorem Am {d l l':Nat} {x:Ex} (hl:l'<=70) (h:jF d l x=(true,l')):Fz d l x (.bool true) [iQ l']:=⟨by rw[h],l',rfl,hl,λ_=>by rw[h]⟩
set_option maxRecDepth 20000 in
set_option maxHeartbeats 2000000 in
theorem BH {bv:Nat} :∀(d e l lv:Nat) (x:Ex) (cs:List Value) (w:World),lv+d=11->l<=70->(Ch.box bv [iQ l] 3).h.In w->P5 e ((Hp.whole w).minus (Ch.box bv [iQ l] 3).h) x cs->
  j6 Tryz.prog 15 #[.agg cs.toArray,iQ lv,pQ bv] w
   (O6 w (Ch.box bv [iQ l] 3).h λv h' cs2=>cs2 = []/\∃cs',(Ch.box bv cs' 3).h.le h'/\Fz d l x v cs'):=by
 intro d;induction d with
 | zero=>
  intro e l lv x cs w hlv hl hin he;match e,he with
  | e+1,he=>
  obtain⟨op,f,fac,args⟩:=x;obtain⟨a,n,c,a1,n1,c1,rfl,hf,ha⟩:=he;have hE:(jF 0 l (.mk op f fac args)).1=false:=by rw[EV]
  obtain⟨c0,hc0⟩ :∃c0,c0=(Hp.whole w).minus (Ch.box bv [iQ l] 3).h:=⟨_,rfl⟩
  have ok0:Ok w [.hp c0,.box bv [iQ l] 3] w:=by rw[hc0];exact Ok.same (s:=[.hp ((Hp.whole w).minus (Ch.box bv [iQ l] 3).h),.hp (Ch.box bv [iQ l] 3).h]) (i:=1) (c:=.hp (Ch.box bv [iQ l] 3).h) (d:=.box bv [iQ l] 3) rfl rfl (Ok.start2 w hin)
  refine enterMSZ (cx 50) [.agg #[iQ op,sv f.1,.slice a n c,sv fac,.slice a1 n1 c1],iQ lv,pQ bv] ok0 [.tmp 6] Tryz.func15 ?_;rw[<-hc0] at hf ha ⊢;intro b5;refine o7 (λ_ kz=>kz _ _ ?_);refine o7 λq' hq'=>?_;refine lR 1 0 ?_;refine d8 (λh1=>?_) λh1=>?_
  ·apply hq';exact⟨(Ch.box bv [iQ l] 3).h,[],⟨rfl,_,λ_ _ h=>h,uC hl hE⟩,λw' h=>(h.pick [0,1] rfl rfl).boxHp⟩
  refine d8 (λh2=>?_) (λh2=>by omega);apply hq';exact⟨(Ch.box bv [iQ l] 3).h,[],⟨rfl,_,λ_ _ h=>h,uC hl hE⟩,λw' h=>(h.pick [0,1] rfl rfl).boxHp⟩
 | succ d ih=>
  intro e l lv x cs w hlv hl hin he;match e,he with
  | e+1,he=>
  obtain⟨op,f,fac,args⟩:=x;obtain⟨a,n,c,a1,n1,c1,rfl,hf,ha⟩:=he;have hla:=ha.len;have hE:=WG d l op f fac args;obtain⟨c0,hc0⟩ :∃c0,c0=(Hp.whole w).minus (Ch.box bv [iQ l] 3).h:=⟨_,rfl⟩
  have ok0:Ok w [.hp c0,.box bv [iQ l] 3] w:=by rw[hc0];exact Ok.same (s:=[.hp ((Hp.whole w).minus (Ch.box bv [iQ l] 3).h),.hp (Ch.box bv [iQ l] 3).h]) (i:=1) (c:=.hp (Ch.box bv [iQ l] 3).h) (d:=.box bv [iQ l] 3) rfl rfl (Ok.start2 w hin)
  refine enterMSZ (cx 50) [.agg #[iQ op,sv f.1,.slice a n c,sv fac,.slice a1 n1 c1],iQ lv,pQ bv] ok0 [.tmp 6] Tryz.func15 ?_;rw[<-hc0] at hf ha ⊢;intro b5;refine o7 (λ_ kz=>kz _ _ ?_);refine o7 λq' hq'=>?_;refine lR 1 0 ?_;refine d8 (λh1=>?_) λh1=>?_
  ·rw[if_pos om] at hE;apply hq';exact⟨(Ch.box bv [iQ l] 3).h,[],⟨rfl,_,λ_ _ h=>h,uC hl (by rw[hE])⟩,λw' h=>(h.pick [0,1] rfl rfl).boxHp⟩
  rw[if_neg om] at hE;refine d8 (λh2=>by omega) λh2=>?_;refine k7 _ (λw' hm=>BG (f:=f) w' (hf.mono (j7 _) (hm 0 _ rfl).whole)) ?_;refine s8 (λh3=>?_) λh3=>?_
  ·rw[Z7] at h3;rw[h3,U4,if_neg H0] at hE;apply hq';exact⟨(Ch.box bv [iQ l] 3).h,[],⟨rfl,_,λ_ _ h=>h,uC hl (by rw[hE])⟩,λw' h=>(h.pick [0,1] rfl rfl).boxHp⟩
  rw[iM] at h3;rw[h3,F6] at hE;refine k7 _ (λw' hm=>mC fac w') ?_;apply hq';refine s8 (λh4=>?_) λh4=>?_
  ·rw[Z7] at h4;rw[h4,if_neg H0] at hE;exact⟨(Ch.box bv [iQ l] 3).h,[],⟨rfl,_,λ_ _ h=>h,uC hl (by rw[hE])⟩,λw' h=>(h.pick [0,1] rfl rfl).boxHp⟩
  rw[iM] at h4;rw[if_pos h4] at hE;obtain⟨p,hp⟩ :∃p:Nat,l=p+1:=⟨l - 1,om⟩
  have hl1:p<=70:=om
  rw[show l - 1=p by omega] at hE;refine o7 λq' hq'=>?_;refine lR 1 0 ?_;refine tY (y:=(p:Int)) om om om ?_;refine fI cQ (i:=1) (j:=0) rfl rfl rfl sQ rfl rfl ?_;apply hq';refine X9 [.hp c0,.box bv [iQ p] 3,.box b5 [iQ op,sv f.1,.slice a n c,sv fac,.slice a1 n1 c1] 44] rfl ?_;refine u6.mk (Nat×Nat) (λg=>[(1,.v (iQ lv)),(2,.v (pQ bv)),(3,.bx 2 0),(7,.v (iQ g.1))]) (λg=>[.hp c0,.box bv [iQ g.2] 3,.box b5 [iQ op,sv f.1,.slice a n c,sv fac,.slice a1 n1 c1] 44])
   (λg=>g.1<=n1/\g.1+g.2<=70/\uF (jF d) p args=uF (jF d) g.2 (args.drop g.1)) (λg=>n1 - g.1) (0,p) ⟨f8 _,by dsimp only;omega,rfl⟩ (v6.mk (pj [0,1,2]) rfl rfl) ?_
  rintro⟨i,m⟩ ⟨hi,him,hD⟩;dsimp only at hi him hD ⊢;have hm70:m<=70:=om
  refine d8 (λh5=>?_) λh5=>?_
  ·have hil:i < args.length:=om
   obtain⟨y,hy⟩ :∃y,y=args[i]:=⟨_,rfl⟩
   rw[r5 hil,<-hy,uE] at hD;refine I1 cQ (e:=44) rfl ha i rfl hil λb9 o9 cs hcs hR9 hcell=>?_;rw[<-hy] at hR9;obtain⟨p1,p2,p3,p4,p5,rfl⟩:=CU hR9;refine T7 cQ (i:=0) rfl hcell rfl ?_;refine nwo ?_;refine jU (i:=1) rfl (λw0 w1 hok=>ih e m (lv+1) _ _ w1 om hm70 (hok.mem 1 _ rfl) (q7 _ _ _ _ _ (Hp.le_minus (hok.mem 0 _ rfl).whole (hok.disj 0 1 _ _ dc rfl rfl)) hR9)) ?_;rintro _ _ ⟨rfl,l',rfl,hl',hz⟩;refine s8 (λh7=>?_) λh7=>?_
   ·rw[Z7] at h7;rw[if_neg (by rw[h7];decide)] at hD;exact⟨(Ch.box bv [iQ l'] 3).h,[],⟨rfl,_,λ_ _ h=>h,uC hl' (by rw[hE,hD])⟩,λw' h=>(h.pick [0,1] rfl rfl).boxHp⟩
   ·rw[iM] at h7;have hlt:=sD d m y h7;rw[if_pos h7,<-hz h7] at hD;rw[<-hz h7] at hlt;refine nwo ?_;exact⟨(i+1,l'),⟨om,by dsimp only;omega,hD⟩,om,v6.mk (pj [0,1,2]) rfl rfl⟩
  ·rw[H4 om,II] at hD;exact⟨(Ch.box bv [iQ m] 3).h,[],⟨rfl,_,λ_ _ h=>h,Am hm70 (by rw[hE,hD])⟩,λw' h=>(h.pick [0,1] rfl rfl).boxHp⟩
end Go.Proofs.YtpjhmeicbjkcdaaGreatDoor
namespace Go.Proofs.YtpjhmeicbjkcdaaGreatDoor
open Go Go.RowKit Go.Dw
theorem Hb (s:e8) (hs:s.length<=100):(GO s).1.length<=1000:=by
 unfold GO;rw[if_neg om];split
 ·exact f8 _
 ·have:=EW s;show (G4 s++[34]).length+1<=1000
  rw[d6];simp only[w7];omega
theorem VH {s:e8} (h:s.length<=80):(P1 s).length<=1000:=by
 unfold P1;split
 ·omega
 ·exact Hb s om
theorem WW {D:List S1} (h :∀d∈D,d.1.length<=80) (i:Int):(D6 D i).length<=1000:=by
 unfold D6;refine VH ?_;rw[i7];by_cases hi:i.toNat < D.length
 ·rw[i6 hi];exact h _ (j0 hi)
 ·rw[X4 om];exact f8 _
theorem vT {α:Type} {f:α->e8} {K:Nat} :∀{L:List α},(∀x∈L,(f x).length<=K)->(L.flatMap f).length<=L.length*K
 | [],_=>f8 _
 | x::r,h=>by
  have h1:=h x (bU ..);have h2:=vT (L:=r) (λy hy=>h y (A9 _ hy));rw[I6,d6,d7,Z5];omega
theorem XH {x:e8} {L:List e8}:(O5 (x::L)).length<=x.length+2+(O5 L).length:=by
 cases L with
 | nil=>show x.length<=_;omega
 | cons y r=>
  show (x++44::32::O5 (y::r)).length<=_
  simp only[d6,d7];omega
theorem DV {s:e8} (h:iT s=true):s.length<=402:=by
 unfold iT at h;simp only[U8,k6,decide_eq_true_eq] at h;omega
theorem WB {nm:Int->e8} (hn :∀i,(nm i).length<=1000) {f:gG} (h:uD f=true):(bZ nm f).length<=95000:=by
 unfold uD at h;simp only[k6,decide_eq_true_eq,z6] at h;obtain⟨h1,h2,h3⟩:=h;have h4:=DV h2;have h5:(f.2.flatMap (dV nm)).length<=f.2.length*1408:=by
  refine vT λt ht=>?_;have h6:=DV (h3 t ht);have h7:=hn t.1;unfold dV;split <;> simp only[d6,d7,d9,k9] <;> omega
 have h8:f.2.length*1408<=66*1408:=y9 _ h1;unfold bZ;simp only[d6,d7,d9];omega
theorem ZZ (op:Int):(jP op).length<=5:=by
 unfold jP;repeat' split
 all_goals decide
theorem OT {g:Nat->Ex->Bool×Nat} {F:Ex->e8} (h :∀l x,(g l x).1=true->(F x).length+2+100000*(g l x).2<=100000*l) :∀(L:List Ex) (l:Nat),(uF g l L).1=true->(O5 (L.map F)).length+100000*(uF g l L).2<=100000*l
 | [],l,_=>by rw[II];show 0+_<=_;dsimp only;omega
 | x::r,l,h1=>by
  rw[uE] at h1 ⊢;by_cases h2:(g l x).1=true
  ·rw[if_pos h2] at h1 ⊢;have h3:=OT h r _ h1;have h4:=h l x h2;have h5:=XH (x:=F x) (L:=r.map F);rw[N7];omega
  ·rw[if_neg h2] at h1;exact absurd h1 H0
theorem IL {nm:Int->e8} (hn :∀i,(nm i).length<=1000) :∀(e d l:Nat) (x:Ex),(jF d l x).1=true->(E7 nm e x).length+2+100000*(jF d l x).2<=100000*l
 | _,0,l,x,h=>by rw[EV] at h;exact absurd h H0
 | 0,d+1,l,x,h=>by
  have:=sD (d+1) l x h;show 0+2+_<=_
  omega
 | e+1,d+1,l,.mk op f fac args,h=>by
  obtain⟨h1,h2,h3,h4⟩:=zQ h;rw[h4] at h ⊢;have h5:=OT (F:=E7 nm e) (λl x=>IL hn e d l x) args _ h;have h6:=WB hn h2;have h7:=ZZ op;have h8:=DV h3;show (if op=0 then bZ nm f else jP op++((if op=2 then 32::(fac++[32]) else [])++(40::(O5 (args.map (E7 nm e))++[41])))).length+2+_<=_
  split
  ·have:=(sE (sD d) args _ h).1;omega
  ·split <;> simp only[d6,d7,d9] <;> omega
end Go.Proofs.YtpjhmeicbjkcdaaGreatDoor
namespace Go.Proofs.YtpjhmeicbjkcdaaGreatDoor
open Go Go.RowKit Go.Dw
set_option maxRecDepth 10000 in
theorem QW {dims e:Nat} {x:Ex} {cs:List Value} (w:World) (hd:dims < 1000000) (hx:AS x) (he:P5 e (Hp.whole w) x cs) :
  j6 Tryz.prog 16 #[iQ dims,.agg cs.toArray] w (v7 w (iQ (pL dims x))):=by
 match e,he with
 | e+1,he=>
 obtain⟨op,f,fac,args⟩:=x;have he':=he;obtain⟨a,n,c,a1,n1,c1,rfl,hf,ha⟩:=he;refine enterZ (cx 9) [iQ dims,.agg #[iQ op,sv f.1,.slice a n c,sv fac,.slice a1 n1 c1]] [.tmp 4] Tryz.func16 ?_;intro b3 b5;refine jU (i:=2) rfl (λw0 w1 hok=>LI hd 8 (e+1) 64 1 _ _ w1 dc dc hx (hok.mem 2 _ rfl)
  (q7 _ _ _ _ _ (Hp.le_minus (hok.mem 0 _ rfl).whole (hok.disj 0 2 _ _ dc rfl rfl)) he')) ?_
 rintro _ _ ⟨rfl,l',rfl,_,_⟩;exact⟨[],⟨rfl,rfl⟩,pk [0]⟩
end Go.Proofs.YtpjhmeicbjkcdaaGreatDoor
namespace Go.Proofs.YtpjhmeicbjkcdaaGreatDoor
open Go Go.RowKit Go.Dw
theorem CK {s:e8} {i:Nat} (hi:i < s.length) (h:jW (s.getD i 0)=true):H8 s=false:=by
 unfold H8;have:s.any jW=true:=by
  rw[E6];refine⟨s[i],j0 hi,?_⟩;rw[i7,i6 hi] at h;exact h
 rw[this];simp
theorem VG {s:e8} (h :∀j,j < s.length->jW (s.getD j 0)=false):H8 s=(decide (0 < s.length) && decide (s.length<=40)):=by
 unfold H8;have:s.any jW=false:=by
  rw[J8];intro c hc;obtain⟨j,hj,rfl⟩:=Q1.1 hc;have:=h j hj;rw[i7,i6 hj] at this;simpa using this
 rw[this];cases s <;> simp
set_option maxRecDepth 10000 in
theorem LF (s:e8) (hs:s.length < 1000000) (w:World):j6 Tryz.prog 31 #[sv s] w (v7 w (.bool (H8 s))):=by
 have hl:(bs s).size=s.length:=B6 s;refine enterZ (cx 28) [sv s] [.tmp 2] Tryz.func31 ?_;refine u6.mk Nat (λk=>[(0,.v (sv s)),(3,.v (iQ k))]) (λ_=>[.hp (Hp.whole w)])
  (λk=>k<=s.length/\∀j,j < k->jW (s.getD j 0)=false) (λk=>s.length - k) 0 ⟨f8 _,λ_ h=>absurd h (H5 _)⟩ (v6.mk (λ_ _ h=>h) rfl rfl) ?_
 rintro k ⟨hk,ho⟩;refine d8 (λh1=>?_) λh1=>?_
 ·rw[hl] at h1;have hkl:k < s.length:=om
  refine X0 cQ (S:=9) rfl rfl k rfl hkl ?_;refine d8 (λh3=>?_) λh3=>?_
  ·rw[CK hkl (by unfold jW;rw[decide_eq_true (show (s.getD k 0).toNat < 33 by omega)];rfl)];exact⟨[],⟨rfl,rfl⟩,pk [0]⟩
  refine X0 cQ (S:=9) rfl rfl k rfl hkl ?_;refine d8 (λh5=>?_) λh5=>?_
  ·rw[CK hkl (by unfold jW;rw[decide_eq_true (show 126 < (s.getD k 0).toNat by omega)];simp)];exact⟨[],⟨rfl,rfl⟩,pk [0]⟩
  ·refine nwo ?_;refine⟨k+1,⟨om,λj hj=>?_⟩,om,v6.mk (λ_ _ h=>h) rfl rfl⟩;by_cases e:j=k
   ·subst e;unfold jW;rw[decide_eq_false (show ¬ (s.getD j 0).toNat < 33 by omega),decide_eq_false (show ¬ 126 < (s.getD j 0).toNat by omega)];rfl
   ·exact ho j om
 ·rw[hl] at h1;rw[VG (λj hj=>ho j om)];refine d8 (λh6=>?_) λh6=>?_
  ·rw[hl] at h6;rw[decide_eq_true (show 0 < s.length by omega),F6];exact⟨[],⟨congrArg Value.bool (by rw[hl,decide_eq_decide];omega),rfl⟩,pk [0]⟩
  ·rw[hl] at h6;rw[decide_eq_false (show ¬ 0 < s.length by omega),U4];exact⟨[],⟨rfl,rfl⟩,pk [0]⟩
set_option maxRecDepth 10000 in
theorem LJ {a:Option Addr} {n c:Nat} {L:List S1} (w:World) (hL:Sl (B0 O1) 4 (Hp.whole w) a n c L) (hs :∀d∈L,d.1.length < 1000000) :
  j6 Tryz.prog 18 #[.slice a n c] w (v7 w (iQ (HD L))):=by
 have hlen:=hL.len;unfold HD;refine enterZ (cx 44) [.slice a n c] [.tmp 2] Tryz.func18 ?_;refine d8 (λh1=>?_) λh1=>?_
 ·rw[if_pos om];exact⟨[],⟨rfl,rfl⟩,pk [0]⟩
 rw[if_neg om];refine u6.mk Nat (λk=>[(0,.v (.slice a n c)),(3,.v (iQ k))]) (λ_=>[.hp (Hp.whole w)])
  (λk=>k<=n/\∀j (hj:j < L.length),j < k->H8 L[j].1=true) (λk=>n - k) 0 ⟨f8 _,λ_ _ h=>absurd h (H5 _)⟩ (v6.mk (λ_ _ h=>h) rfl rfl) ?_
 rintro k ⟨hk,ho⟩;refine d8 (λh2=>?_) λh2=>?_
 ·have hkl:k < L.length:=om
  refine I1 cQ (e:=48) rfl hL k rfl hkl λb9 o9 cs hcs hR hcell3=>?_;subst hR;refine lQ 0 (hcell3 0 _ rfl) ?_;refine k7 _ (λw' hm=>LF _ (hs _ (j0 hkl)) w') ?_;refine s8 (λh4=>?_) λh4=>?_
  ·have:L.any (λd=>!H8 d.1)=true:=E6.2 ⟨L[k],j0 hkl,h4⟩;rw[if_pos this];exact⟨[],⟨rfl,rfl⟩,pk [0]⟩
  ·refine nwo ?_;refine⟨k+1,⟨om,λj hj hjk=>?_⟩,om,v6.mk (λ_ _ h=>h) rfl rfl⟩;by_cases e:j=k
   ·subst e;simpa using h4
   ·exact ho j hj om
 have hnb : ¬ L.any (λd=>!H8 d.1)=true:=by
  intro h;obtain⟨d,hd,h⟩:=E6.1 h;obtain⟨j,hj,rfl⟩:=Q1.1 hd;rw[ho j hj om] at h;cases h
 rw[if_neg hnb];clear ho hk h2;refine u6.mk Nat (λk=>[(0,.v (.slice a n c)),(4,.v (iQ k))]) (λ_=>[.hp (Hp.whole w)])
  (λk=>k<=n/\∀j,j < k->LZ L j=0) (λk=>n - k) 0 ⟨f8 _,λj hj=>absurd hj (H5 _)⟩ (v6.mk (λ_ _ h=>h) rfl rfl) ?_
 rintro k ⟨hk,hz⟩;refine d8 (λh5=>?_) λh5=>?_
 ·have hkl:k < L.length:=om
  have hgd:L.getD k ([],0,0,0)=L[k]:=by rw[i7,i6 hkl];rfl
  have hK:LZ L k=if (L.take k).any (λe=>decide (e.1=L[k].1))=true then 9 else 0:=by unfold LZ;rw[hgd]
  refine u6.mk Nat (λi=>[(0,.v (.slice a n c)),(4,.v (iQ k)),(5,.v (iQ i))]) (λ_=>[.hp (Hp.whole w)])
   (λi=>i<=k/\∀j (hj:j < L.length),j < i->L[j].1≠L[k].1) (λi=>k - i) 0 ⟨f8 _,λ_ _ h=>absurd h (H5 _)⟩ (v6.mk (λ_ _ h=>h) rfl rfl) ?_
  rintro i ⟨hi,hq⟩;refine d8 (λh6=>?_) λh6=>?_
  ·have hil:i < L.length:=om
   refine s6.by_order cQ (.take 0 <| .take 1 <| .take 2 <| .take 3 <| .take 4 <| .take 5 <| .take 6 <| .take 7 <| .take 8 <| .take 9 <| .take 10 <| .done) kr ?_;refine I1 cQ (e:=48) rfl hL i rfl hil λb9 o9 cs hcs hR hcell7=>?_;subst hR;refine lQ 0 (hcell7 0 _ rfl) ?_;refine I1 cQ (e:=48) rfl hL k rfl hkl λb9 o9 cs hcs hR hcell8=>?_;subst hR;refine lQ 0 (hcell8 0 _ rfl) ?_;refine W8 ?_;refine d8 (λh9=>?_) λh9=>?_
   ·have hh:(L.take k).any (λe=>decide (e.1=L[k].1))=true:=by
     refine E6.2 ⟨L[i],?_,decide_eq_true h9⟩;rw[Mk];exact⟨i,om,rfl⟩
    rw[if_pos hh] at hK;rw[nM hz (by rw[hK];decide) hkl,hK];exact⟨[],⟨rfl,rfl⟩,pk [0]⟩
   ·refine nwo ?_;refine⟨i+1,⟨om,λj hj hjk=>?_⟩,om,v6.mk (λ_ _ h=>h) rfl rfl⟩;by_cases e:j=i
    ·subst e;exact h9
    ·exact hq j hj om
  ·refine nwo ?_;have hh : ¬ (L.take k).any (λe=>decide (e.1=L[k].1))=true:=by
    intro h;obtain⟨d,hd,h⟩:=E6.1 h;rw[Mk] at hd;obtain⟨j,hj,rfl⟩:=hd;exact hq j om om (of_decide_eq_true h)
   rw[if_neg hh] at hK;exact⟨k+1,⟨om,λj hj=>(K8 j k).elim (hz j) (λg=>by rw[show j=k by omega];exact hK)⟩,om,v6.mk (λ_ _ h=>h) rfl rfl⟩
 ·rw[V8.2 (λj hj=>hz j om)];exact⟨[],⟨rfl,rfl⟩,pk [0]⟩
end Go.Proofs.YtpjhmeicbjkcdaaGreatDoor
namespace Go.Proofs.YtpjhmeicbjkcdaaGreatDoor
open Go
theorem TX {f:UInt8->Bool} {l:e8} (h:s9 f l=l.length):l.all f=true:=by
 have:=gQ f l;rw[h,p9] at this;exact this
theorem YG {s:e8} (h:tO s=true):A6 s=(s.length,1,s,0)/\0 < s.length/\P4 (s.getD 0 0)=true:=by
 unfold tO at h;simp only[k6,decide_eq_true_eq] at h;obtain⟨h1,h2,h3,h4⟩:=h;have h0:0 < s.length:=G2.2 h1;have hr:=nD h4;refine⟨?_,h0,h3⟩;unfold A6;dsimp only;rw[if_neg (show ¬ s.getD 0 0=34 from λe=>by rw[e] at h3;exact absurd h3 dc),if_pos h3,hr,if_neg om,p9]
theorem xZ {n m:Nat} {k j:Int} {a b:e8} {e f:Int} (h:(n,k,a,e)=(m,j,b,f)):k=j/\e=f:=by cases h;exact⟨rfl,rfl⟩
theorem TH {c:UInt8} (h:P4 c=true):JV c:=⟨λe=>by rw[e] at h;exact absurd h dc,λe=>by rw[e] at h;exact absurd h dc,λe=>by rw[e] at h;exact absurd h dc⟩
theorem TT {s:e8} (h:tO s=true) (hs:s.length<=1000) :∃p c:Nat,aK s=([(1,s,1,1),(5,[],p,c)],0,0,0):=by
 obtain⟨ht,h0,h3⟩:=YG h;rw[GE om];have:=NL h0 (TH h3) (1,1) [];rw[H6,ht,if_neg (λg=>g rfl)] at this;rw[this,NM (by dsimp only;omega)];exact⟨_,_,rfl⟩
theorem SU {s:e8} (hs:s.length<=1000) {x:kX} {r:List kX} (h0:(aK s).2.2.2=0) (h1:(aK s).1=x::r) (h2:x.1=1) (h3:x.2.1=s):tO s=true:=by
 rw[GE om] at h0 h1;obtain⟨T,q,e1,e2,_,e4,_⟩:=nC s s.length 0 (1,1) [] om h0;rw[e1] at h1;dsimp only at h1;have hx:x∈T:=by
  cases T with
  | nil=>
   simp at h1;rw[h1.1,h2] at e4;exact absurd e4 dc
  | cons y T=>
   simp at h1;rw[h1.1];exact bU
 have hA:=e2 x hx;rw[h2,h3] at hA;have ht:=hA.t [] (.inl rfl);have htx:PH 1 s=s:=by unfold PH;rw[if_neg dc]
 have hb:=hA.b.1;rw[htx] at ht hb;rw[p8] at ht;unfold A6 at ht;dsimp only at ht;have k34 : ¬ s.getD 0 0=34:=λe=>by
  rw[if_pos e] at ht;exact absurd (xZ ht).1 dc
 rw[if_neg k34] at ht;by_cases hl:P4 (s.getD 0 0)=true
 ·rw[if_pos hl] at ht;by_cases h40:40 < s9 K7 s
  ·rw[if_pos h40] at ht;exact absurd (xZ ht).2 dc
  ·rw[if_neg h40] at ht;have hr:s9 K7 s=s.length:=congrArg (λz:Nat×Int×e8×Int=>z.1) ht;unfold tO;simp only[k6,decide_eq_true_eq];exact⟨G2.1 hb,om,hl,TX hr⟩
 ·exfalso
  rw[if_neg hl] at ht;by_cases hd:l8 (s.getD 0 0)=true
  ·rw[if_pos hd] at ht;split at ht
   ·exact absurd (xZ ht).1 dc
   ·split at ht <;> exact absurd (xZ ht).1 dc
  ·rw[if_neg hd] at ht;split at ht <;> exact absurd (xZ ht).1 dc
def YI (s:e8):Bool:=decide ((aK s).2.2.2=0) && (decide ((aK s).1.length=2) && (decide (((aK s).1.getD 0 (0,[],0,0)).1=1) && decide (((aK s).1.getD 0 (0,[],0,0)).2.1=s)))
theorem YH {s:e8} (hs:s.length<=1000):YI s=tO s:=by
 rw[L6];constructor
 ·intro h;unfold YI at h;simp only[k6,decide_eq_true_eq] at h;obtain⟨h1,h2,h3,h4⟩:=h;cases hL:(aK s).1 with
  | nil=>rw[hL] at h2;exact absurd h2 dc
  | cons x r=>
   rw[hL] at h3 h4;exact SU hs h1 hL h3 h4
 ·intro h;obtain⟨p,c,e⟩:=TT h hs;unfold YI;rw[e];simp
end Go.Proofs.YtpjhmeicbjkcdaaGreatDoor
namespace Go.Proofs.YtpjhmeicbjkcdaaGreatDoor
open Go Go.RowKit Go.Dw
set_option maxRecDepth 10000 in
theorem zA (s:e8) (hs:s.length<=1000) (w:World) (hT:kU (Hp.whole w)):j6 Tryz.prog 63 #[sv s] w (v7 w (sv (P1 s))):=by
 have hw:=YH hs;unfold YI at hw;unfold P1;rw[<-hw];have hSc:=λ(w':World) (hm:(Hp.whole w).In w')=>DE s w' (hT.mono hm.whole);clear hw;generalize aK s=z at hSc ⊢;have hQ:=λ(w':World)=>AN s om w';generalize GO s=Q at hQ ⊢;obtain⟨R,hR⟩ :∃R,R=if (decide (z.2.2.2=0) && (decide (z.1.length=2) && (decide ((z.1.getD 0 (0,[],0,0)).1=1) && decide ((z.1.getD 0 (0,[],0,0)).2.1=s))))=true then s else Q.1:=⟨_,rfl⟩
 rw[<-hR];refine enterZ (cx 45) [sv s] [.tmp 2] Tryz.func63 ?_;refine o7 (λ_ kz=>kz _ _ ?_);refine o7 λq' hq'=>?_;refine call (λw' hm=>hSc w' (hm 0 _ rfl)) ?_;rintro _ _ ⟨⟨oa,on,oc,oh⟩,rfl,rfl,ho⟩;have hs0:=w8.sl (f:=fT) (sz:=4) (λ_=>rfl) dc ho;have hl:=ho.len;dsimp only at hs0 hl;apply hq';refine o7 λq' hq'=>?_;refine d8 (λh1=>?_) λh1=>?_
 ·refine d8 (λh2=>?_) λh2=>?_;focus
   dsimp only at h2;have hl0:0 < z.1.length:=om
   have hg:z.1.getD 0 (0,[],0,0)=z.1[0]:=by rw[i7,i6 hl0];rfl
   have hl2:z.1.length=2:=om
   rw[hg] at hR;refine I1 cQ (e:=211) rfl hs0 0 rfl hl0 λb9 o9 cs hcs hRr hcell3=>?_;subst hRr;refine lQ 1 (hcell3 0 _ rfl) ?_;refine d8 (λh4=>?_) λh4=>?_
   ·refine I1 cQ (e:=211) rfl hs0 0 rfl hl0 λb9 o9 cs hcs hRr hcell5=>?_;subst hRr;refine lQ 1 (hcell5 1 _ rfl) ?_;refine W8 ?_;apply hq';refine d8 (λh6=>?_) λh6=>?_
    ·rw[if_pos (by rw[decide_eq_true h1,decide_eq_true hl2,decide_eq_true h4,decide_eq_true h6];rfl)] at hR;exact⟨[],⟨by rw[hR],rfl⟩,pk [0]⟩
    ·rw[if_neg (by rw[decide_eq_false h6];simp)] at hR;refine k7 _ (λw' hm=>hQ w') ?_;exact⟨[],⟨by rw[hR],rfl⟩,pk [0]⟩
   focus
    rw[if_neg (by rw[decide_eq_false h4];simp)] at hR
  rotate_left
  focus
   dsimp only at h2;rw[if_neg (by rw[decide_eq_false (show ¬ z.1.length=2 by omega)];simp)] at hR
  all_goals
   apply hq';refine k7 _ (λw' hm=>hQ w') ?_;exact⟨[],⟨by rw[hR],rfl⟩,pk [0]⟩
 ·rw[if_neg (by rw[decide_eq_false h1];simp)] at hR;apply hq';refine k7 _ (λw' hm=>hQ w') ?_;exact⟨[],⟨by rw[hR],rfl⟩,pk [0]⟩
end Go.Proofs.YtpjhmeicbjkcdaaGreatDoor
namespace Go.Proofs.YtpjhmeicbjkcdaaGreatDoor
open Go Go.RowKit Go.Dw
theorem Ac {s:e8} (h:I7 s=0):0 < s.length:=by
 cases s with
 | nil=>exact absurd h (by decide +kernel)
 | cons c r=>simp
theorem Gj {c:UInt8} (h:(c.toNat:Int)=45):c=45:=by
 apply UInt8.toNat_inj.1;have:(45:UInt8).toNat=45:=rfl;omega
theorem Ba {D:List S1} {m:Nat} (hm:m < D.length):D6 D (m:Int)=P1 D[m].1:=by
 unfold D6;rw[i7,show (m:Int).toNat=m from rfl,i6 hm];rfl
theorem TL {fc:e8} {L:List JL} {nm:Int->e8} {k:Nat} {t y sg q:e8} (hk:k < L.length) (ht:t=91::(fc++(L.take k).flatMap (dV nm))) (hy:dV nm L[k]=sg++q++[32,42,32]++y):t++sg++q++[32,42,32]++y=91::(fc++(L.take (k+1)).flatMap (dV nm)):=by
 rw[cW hk,hy,ht];simp
set_option maxRecDepth 10000 in
theorem zC {ad a:Option Addr} {nd cd n c:Nat} {D:List S1} {f:gG} (w:World) (hD:Sl (B0 O1) 4 (Hp.whole w) ad nd cd D) (hT:Sl (B0 U0) 2 (Hp.whole w) a n c f.2) (hg:wR D.length f) (hn:f.2.length < 1000000) (hdn :∀d∈D,d.1.length<=1000) (hS:kU (Hp.whole w)) (hlen:(bZ (D6 D) f).length < 1000000000) :
  j6 Tryz.prog 65 #[.slice ad nd cd,.agg #[sv f.1,.slice a n c]] w (v7 w (sv (bZ (D6 D) f))):=by
 obtain⟨fc,L⟩:=f;dsimp only at hT hn;have hll:=hT.len;have hfl:(bZ (D6 D) (fc,L)).length=fc.length+(L.flatMap (dV (D6 D))).length+2:=by unfold bZ;simp;omega
 refine enterZ (cx 50) [.slice ad nd cd,.agg #[sv fc,.slice a n c]] [.tmp 4] Tryz.func65 ?_;intro b3;refine P0 (ty:=9) (a:=[91]) (b:=fc) (by simp only[d7,d9];omega) ?_;refine u6.mk (Nat×e8) (λg=>[(0,.v (.slice ad nd cd)),(3,.bx 1 0),(5,.v (sv g.2)),(6,.v (iQ g.1))]) (λg=>[.hp (Hp.whole w),.box b3 [sv fc,.slice a n c] 41])
  (λg=>g.1<=n/\g.2=91::(fc++(L.take g.1).flatMap (dV (D6 D)))) (λg=>n - g.1) (0,[91]++fc) ⟨f8 _,sQ⟩ (v6.mk (λ_ _ h=>h) rfl rfl) ?_
 rintro⟨k,t⟩ ⟨hk,ht⟩;dsimp only at hk ht ⊢;refine d8 (λh1=>?_) λh1=>?_
 ·have hkl:k < L.length:=om
  obtain⟨⟨ix,x⟩,hx⟩ :∃x,x=L[k]:=⟨_,rfl⟩
  have hgk:=hg.at hkl;dsimp only at hgk;rw[<-hx] at hgk;obtain⟨hx0,hx1,hx2,_,_⟩:=hgk;dsimp only at hx0 hx1 hx2;have hx3:=Ac hx2;obtain⟨m,rfl⟩:=aS hx0;have hm:m < D.length:=om
  have hnm:=Ba hm;have hfle:=sB (g:=dV (D6 D)) hkl;have htl:t.length=1+(fc.length+((L.take k).flatMap (dV (D6 D))).length):=by rw[ht];simp;omega
  obtain⟨d,hd⟩ :∃d,d=D[m]:=⟨_,rfl⟩
  have hdl:d.1.length<=1000:=hdn d (by rw[hd];exact j0 hm);rw[<-hd] at hnm;refine I1 cQ (e:=80) rfl hT k rfl hkl λb9 o9 cs hcs hR hcell2=>?_;rw[<-hx] at hR;have hR:cs = [iQ m,sv x]:=hR;subst hR;refine lQ 0 (hcell2 1 _ rfl) ?_;refine X0 cQ (S:=9) rfl rfl 0 rfl hx3 ?_;refine d8 (λh4=>?_) λh4=>?_;focus
   have htr:dV (D6 D) L[k] = [32,45,32]++x.drop 1++[32,42,32]++P1 d.1:=by
    rw[<-hx];unfold dV;dsimp only;rw[if_pos (Gj h4),hnm];simp
   have htn:(dV (D6 D) L[k]).length=3+(x.drop 1).length+3+(P1 d.1).length:=by rw[htr];simp only[d6,d7,d9]
   refine s6.by_order cQ (.take 0 <| .take 1 <| .take 2 <| .take 3 <| .done) kr ?_;refine lY cQ (S:=9) rfl rfl 1 x.length (.inr ⟨_,_,rfl,rfl⟩) (.inl ⟨rfl,rfl⟩) hx3 (k8 _) ?_;rw[p9];refine P0 (ty:=9) (a:=t) (b:=[32,45,32]) (by simp only[d7,d9];omega) ?_;refine P0 (ty:=9) (a:=t++[32,45,32]) (b:=x.drop 1) (by simp only[d6,d7,d9];omega) ?_;refine P0 (ty:=9) (a:=t++[32,45,32]++x.drop 1) (b:=[32,42,32]) (by simp only[d6,d7,d9];omega) ?_;refine I1 cQ (e:=80) rfl hT k rfl hkl λb9 o9 cs hcs hR hcell5=>?_;rw[<-hx] at hR;have hR:cs = [iQ m,sv x]:=hR;subst hR;refine lQ 0 (hcell5 0 _ rfl) ?_;refine I1 cQ (e:=48) rfl hD m rfl hm λb9 o9 cs hcs hR hcell6=>?_;rw[<-hd] at hR;subst hR;refine lQ 0 (hcell6 0 _ rfl) ?_;refine k7 _ (λw' hm=>zA d.1 hdl w' (hS.mono (hm 0 _ rfl).whole)) ?_;refine P0 (ty:=9) (a:=t++[32,45,32]++x.drop 1++[32,42,32]) (b:=P1 d.1) (by simp only[d6,d7,d9];omega) ?_
  rotate_left
  focus
   have htr:dV (D6 D) L[k] = [32,43,32]++x++[32,42,32]++P1 d.1:=by
    rw[<-hx];unfold dV;dsimp only;rw[if_neg (λe=>h4 (by rw[e];rfl)),hnm];simp
   have htn:(dV (D6 D) L[k]).length=3+x.length+3+(P1 d.1).length:=by rw[htr];simp only[d6,d7,d9]
   refine P0 (ty:=9) (a:=t) (b:=[32,43,32]) (by simp only[d7,d9];omega) ?_;refine P0 (ty:=9) (a:=t++[32,43,32]) (b:=x) (by simp only[d6,d7,d9];omega) ?_;refine P0 (ty:=9) (a:=t++[32,43,32]++x) (b:=[32,42,32]) (by simp only[d6,d7,d9];omega) ?_;refine I1 cQ (e:=80) rfl hT k rfl hkl λb9 o9 cs hcs hR hcell5=>?_;rw[<-hx] at hR;have hR:cs = [iQ m,sv x]:=hR;subst hR;refine lQ 0 (hcell5 0 _ rfl) ?_;refine I1 cQ (e:=48) rfl hD m rfl hm λb9 o9 cs hcs hR hcell6=>?_;rw[<-hd] at hR;subst hR;refine lQ 0 (hcell6 0 _ rfl) ?_;refine k7 _ (λw' hm=>zA d.1 hdl w' (hS.mono (hm 0 _ rfl).whole)) ?_;refine P0 (ty:=9) (a:=t++[32,43,32]++x++[32,42,32]) (b:=P1 d.1) (by simp only[d6,d7,d9];omega) ?_
  all_goals
   refine nwo ?_;exact⟨(k+1,_),⟨by dsimp only;omega,TL hkl ht htr⟩,by dsimp only;omega,v6.mk (λ_ _ h=>h) rfl rfl⟩
 ·have hk2:k=L.length:=om
  subst hk2;rw[p9] at ht;have htl:t.length=1+(fc.length+(L.flatMap (dV (D6 D))).length):=by rw[ht];simp;omega
  refine P0 (ty:=9) (a:=t) (b:=[93]) (by simp only[d7,d9];omega) ?_;have e:t++[93]=bZ (D6 D) (fc,L):=by rw[ht];unfold bZ;simp
  rw[e];exact⟨[],⟨rfl,rfl⟩,pk [0]⟩
end Go.Proofs.YtpjhmeicbjkcdaaGreatDoor
namespace Go.Proofs.YtpjhmeicbjkcdaaGreatDoor
open Go Go.RowKit Go.Dw
def FI (op:Int) (fac:e8):e8:=jP op++((if op=2 then 32::(fac++[32]) else [])++[40])
theorem Ap {nm:Int->e8} {d:Nat} {op:Int} {f:gG} {fac:e8} {args:List Ex} (h:op≠0):E7 nm (d+1) (.mk op f fac args)=FI op fac++O5 (args.map (E7 nm d))++[41]:=by
 show (if op=0 then _ else _)=_
 rw[if_neg h];unfold FI;simp
theorem lI {F:Ex->e8} {L:List Ex} {k:Nat} {t S:e8} (hk:k < L.length) (h0 : ¬ 0 < k) (ht:t=S++O5 ((L.take k).map F)):t++F L[k]=S++O5 ((L.take (k+1)).map F):=by
 have hz:k=0:=om
 subst hz;rw[I8 L 0 hk,ht];simp[O5]
theorem qQ {F:Ex->e8} {L:List Ex} {k:Nat} {t S:e8} (hk:k < L.length) (h0:0 < k) (ht:t=S++O5 ((L.take k).map F)):t++[44,32]++F L[k]=S++O5 ((L.take (k+1)).map F):=by
 have hne:(L.take k).map F≠[]:=by
  intro h;have:=congrArg F7 h;rw[l7,j8,d9] at this;omega
 rw[I8 L k hk,E9,N7,List.map_nil,eZ,if_neg hne,ht];simp
theorem xS {F:Ex->e8} (L:List Ex) (k:Nat):(O5 ((L.take k).map F)).length<=(O5 (L.map F)).length:=by
 have:=tA ((L.take k).map F) ((L.drop k).map F);rw[<-E9,E4] at this;exact this
set_option maxRecDepth 20000 in
set_option maxHeartbeats 2000000 in
theorem zD {ad:Option Addr} {nd cd:Nat} {D:List S1} (hdn :∀d∈D,d.1.length<=1000) :∀(d e:Nat) (x:Ex) (cs:List Value) (w:World),XY D.length d x->AS x->P5 e (Hp.whole w) x cs->Sl (B0 O1) 4 (Hp.whole w) ad nd cd D->kU (Hp.whole w)->(E7 (D6 D) d x).length < 1000000000->
  j6 Tryz.prog 20 #[.slice ad nd cd,.agg cs.toArray] w (v7 w (sv (E7 (D6 D) d x))):=by
 intro d;induction d with
 | zero=>intro e x cs w hg;exact hg.elim
 | succ d ih=>
  intro e x cs w hg hx he hD hS hlen;match e,he with
  | e+1,he=>
  obtain⟨op,f,fac,args⟩:=x;obtain⟨a,n,c,a1,n1,c1,rfl,hf,ha⟩:=he;cases hx with
  | mk hxf hxs hxn hxa=>
  obtain⟨hnode,hall⟩:=hg;have hla:=ha.len;have hop:0<=op/\op<=5:=by
   by_cases h:op < 0\/5 < op
   ·rw[yT h] at hnode;exact absurd hnode (show ¬ (12:Int)=0 by decide)
   ·omega
  refine enterZ (cx 49) [.slice ad nd cd,.agg #[iQ op,sv f.1,.slice a n c,sv fac,.slice a1 n1 c1]] [.tmp 4] Tryz.func20 ?_;intro b3;refine d8 (λh1=>?_) λh1=>?_
  ·subst h1;have hE:E7 (D6 D) (d+1) (.mk 0 f fac args)=bZ (D6 D) f:=rfl;rw[hE] at hlen ⊢;refine k7 _ (λw' hm=>zC w' (hD.mono (j7 _) (hm 0 _ rfl).whole) (hf.mono (j7 _) (hm 0 _ rfl).whole) (yS hnode).1 hxf.len hdn (hS.mono (hm 0 _ rfl).whole) hlen) ?_;exact⟨[],⟨rfl,rfl⟩,pk [0]⟩
  have hE:=Ap (nm:=D6 D) (d:=d) (f:=f) (fac:=fac) (args:=args) h1;rw[hE] at hlen ⊢;rw[d6,d6] at hlen;refine d8 (λh2=>?_) λh2=>?_
  ·have hs:[97,100,100,40]=FI op fac:=by rw[h2];rfl
   refine u6.mk (Nat×e8) (λg=>[(0,.v (.slice ad nd cd)),(3,.bx 1 0),(5,.v (sv g.2)),(6,.v (iQ g.1))]) (λg=>[.hp (Hp.whole w),.box b3 [iQ op,sv f.1,.slice a n c,sv fac,.slice a1 n1 c1] 44])
    (λg=>g.1<=n1/\g.2=FI op fac++O5 ((args.take g.1).map (E7 (D6 D) d))) (λg=>n1 - g.1) (0,[97,100,100,40]) ⟨f8 _,by show [97,100,100,40]=FI op fac++[];rw[p8,hs]⟩ (v6.mk (pj [0,1]) rfl rfl) ?_
   rintro⟨k,t⟩ ⟨hk,ht⟩;dsimp only at hk ht ⊢;have htk:=congrArg F7 ht;rw[d6] at htk;refine d8 (λg1=>?_) λg1=>?_
   ·have hkl:k < args.length:=om
    obtain⟨y,hy⟩ :∃y,y=args[k]:=⟨_,rfl⟩
    have hym:y∈args:=by rw[hy];exact j0 hkl
    have hle:=xS (F:=E7 (D6 D) d) args (k+1);refine d8 (λg2=>?_) λg2=>?_
    ·have hnx:=qQ (F:=E7 (D6 D) d) hkl om ht;rw[<-hy] at hnx;have hnl:=congrArg F7 hnx;simp only[d6,d7,d9] at hnl;refine P0 (ty:=9) (a:=t) (b:=[44,32]) (by simp only[d7,d9];omega) ?_;refine I1 cQ (e:=44) rfl ha k rfl hkl λb9 o9 cs hcs hR9 hcell=>?_;rw[<-hy] at hR9;obtain⟨p1,p2,p3,p4,p5,rfl⟩:=CU hR9;refine T7 cQ (i:=0) rfl hcell rfl ?_;refine k7 _ (λw' hm=>ih e y _ w' (hall y hym) (hxa y hym) (q7 _ _ _ _ _ (hm 0 _ rfl).whole hR9) (hD.mono (j7 _) (hm 0 _ rfl).whole) (hS.mono (hm 0 _ rfl).whole) om) ?_;refine P0 (ty:=9) (a:=t++[44,32]) (b:=E7 (D6 D) d y) (by simp only[d6,d7,d9];omega) ?_;refine nwo ?_;exact⟨(k+1,_),⟨by dsimp only;omega,hnx⟩,by dsimp only;omega,v6.mk (pj [0,1]) rfl rfl⟩
    ·have hnx:=lI (F:=E7 (D6 D) d) hkl om ht;rw[<-hy] at hnx;have hnl:=congrArg F7 hnx;simp only[d6] at hnl;refine I1 cQ (e:=44) rfl ha k rfl hkl λb9 o9 cs hcs hR9 hcell=>?_;rw[<-hy] at hR9;obtain⟨p1,p2,p3,p4,p5,rfl⟩:=CU hR9;refine T7 cQ (i:=0) rfl hcell rfl ?_;refine k7 _ (λw' hm=>ih e y _ w' (hall y hym) (hxa y hym) (q7 _ _ _ _ _ (hm 0 _ rfl).whole hR9) (hD.mono (j7 _) (hm 0 _ rfl).whole) (hS.mono (hm 0 _ rfl).whole) om) ?_;refine P0 (ty:=9) (a:=t) (b:=E7 (D6 D) d y) om ?_;refine nwo ?_;exact⟨(k+1,_),⟨by dsimp only;omega,hnx⟩,by dsimp only;omega,v6.mk (pj [0,1]) rfl rfl⟩
   ·have hk2:k=args.length:=om
    subst hk2;rw[p9] at ht htk;refine P0 (ty:=9) (a:=t) (b:=[41]) (by simp only[d7,d9];omega) ?_;rw[ht];exact⟨[],⟨rfl,rfl⟩,pk [0]⟩
  refine d8 (λh3=>?_) λh3=>?_
  ·have hs:([115,99,97,108,101,32]++fac++[32,40])=FI op fac:=by rw[h3];simp[FI,jP]
   refine P0 (ty:=9) (a:=[115,99,97,108,101,32]) (b:=fac) (by simp only[d7,d9];omega) ?_;refine P0 (ty:=9) (a:=[115,99,97,108,101,32]++fac) (b:=[32,40]) (by simp only[d6,d7,d9];omega) ?_;refine u6.mk (Nat×e8) (λg=>[(0,.v (.slice ad nd cd)),(3,.bx 1 0),(5,.v (sv g.2)),(6,.v (iQ g.1))]) (λg=>[.hp (Hp.whole w),.box b3 [iQ op,sv f.1,.slice a n c,sv fac,.slice a1 n1 c1] 44])
    (λg=>g.1<=n1/\g.2=FI op fac++O5 ((args.take g.1).map (E7 (D6 D) d))) (λg=>n1 - g.1) (0,([115,99,97,108,101,32]++fac++[32,40])) ⟨f8 _,by show ([115,99,97,108,101,32]++fac++[32,40])=FI op fac++[];rw[p8,hs]⟩ (v6.mk (pj [0,1]) rfl rfl) ?_
   rintro⟨k,t⟩ ⟨hk,ht⟩;dsimp only at hk ht ⊢;have htk:=congrArg F7 ht;rw[d6] at htk;refine d8 (λg1=>?_) λg1=>?_
   ·have hkl:k < args.length:=om
    obtain⟨y,hy⟩ :∃y,y=args[k]:=⟨_,rfl⟩
    have hym:y∈args:=by rw[hy];exact j0 hkl
    have hle:=xS (F:=E7 (D6 D) d) args (k+1);refine d8 (λg2=>?_) λg2=>?_
    ·have hnx:=qQ (F:=E7 (D6 D) d) hkl om ht;rw[<-hy] at hnx;have hnl:=congrArg F7 hnx;simp only[d6,d7,d9] at hnl;refine P0 (ty:=9) (a:=t) (b:=[44,32]) (by simp only[d7,d9];omega) ?_;refine I1 cQ (e:=44) rfl ha k rfl hkl λb9 o9 cs hcs hR9 hcell=>?_;rw[<-hy] at hR9;obtain⟨p1,p2,p3,p4,p5,rfl⟩:=CU hR9;refine T7 cQ (i:=0) rfl hcell rfl ?_;refine k7 _ (λw' hm=>ih e y _ w' (hall y hym) (hxa y hym) (q7 _ _ _ _ _ (hm 0 _ rfl).whole hR9) (hD.mono (j7 _) (hm 0 _ rfl).whole) (hS.mono (hm 0 _ rfl).whole) om) ?_;refine P0 (ty:=9) (a:=t++[44,32]) (b:=E7 (D6 D) d y) (by simp only[d6,d7,d9];omega) ?_;refine nwo ?_;exact⟨(k+1,_),⟨by dsimp only;omega,hnx⟩,by dsimp only;omega,v6.mk (pj [0,1]) rfl rfl⟩
    ·have hnx:=lI (F:=E7 (D6 D) d) hkl om ht;rw[<-hy] at hnx;have hnl:=congrArg F7 hnx;simp only[d6] at hnl;refine I1 cQ (e:=44) rfl ha k rfl hkl λb9 o9 cs hcs hR9 hcell=>?_;rw[<-hy] at hR9;obtain⟨p1,p2,p3,p4,p5,rfl⟩:=CU hR9;refine T7 cQ (i:=0) rfl hcell rfl ?_;refine k7 _ (λw' hm=>ih e y _ w' (hall y hym) (hxa y hym) (q7 _ _ _ _ _ (hm 0 _ rfl).whole hR9) (hD.mono (j7 _) (hm 0 _ rfl).whole) (hS.mono (hm 0 _ rfl).whole) om) ?_;refine P0 (ty:=9) (a:=t) (b:=E7 (D6 D) d y) om ?_;refine nwo ?_;exact⟨(k+1,_),⟨by dsimp only;omega,hnx⟩,by dsimp only;omega,v6.mk (pj [0,1]) rfl rfl⟩
   ·have hk2:k=args.length:=om
    subst hk2;rw[p9] at ht htk;refine P0 (ty:=9) (a:=t) (b:=[41]) (by simp only[d7,d9];omega) ?_;rw[ht];exact⟨[],⟨rfl,rfl⟩,pk [0]⟩
  refine d8 (λh4=>?_) λh4=>?_
  ·have hs:[109,105,110,40]=FI op fac:=by rw[h4];rfl
   refine u6.mk (Nat×e8) (λg=>[(0,.v (.slice ad nd cd)),(3,.bx 1 0),(5,.v (sv g.2)),(6,.v (iQ g.1))]) (λg=>[.hp (Hp.whole w),.box b3 [iQ op,sv f.1,.slice a n c,sv fac,.slice a1 n1 c1] 44])
    (λg=>g.1<=n1/\g.2=FI op fac++O5 ((args.take g.1).map (E7 (D6 D) d))) (λg=>n1 - g.1) (0,[109,105,110,40]) ⟨f8 _,by show [109,105,110,40]=FI op fac++[];rw[p8,hs]⟩ (v6.mk (pj [0,1]) rfl rfl) ?_
   rintro⟨k,t⟩ ⟨hk,ht⟩;dsimp only at hk ht ⊢;have htk:=congrArg F7 ht;rw[d6] at htk;refine d8 (λg1=>?_) λg1=>?_
   ·have hkl:k < args.length:=om
    obtain⟨y,hy⟩ :∃y,y=args[k]:=⟨_,rfl⟩
    have hym:y∈args:=by rw[hy];exact j0 hkl
    have hle:=xS (F:=E7 (D6 D) d) args (k+1);refine d8 (λg2=>?_) λg2=>?_
    ·have hnx:=qQ (F:=E7 (D6 D) d) hkl om ht;rw[<-hy] at hnx;have hnl:=congrArg F7 hnx;simp only[d6,d7,d9] at hnl;refine P0 (ty:=9) (a:=t) (b:=[44,32]) (by simp only[d7,d9];omega) ?_;refine I1 cQ (e:=44) rfl ha k rfl hkl λb9 o9 cs hcs hR9 hcell=>?_;rw[<-hy] at hR9;obtain⟨p1,p2,p3,p4,p5,rfl⟩:=CU hR9;refine T7 cQ (i:=0) rfl hcell rfl ?_;refine k7 _ (λw' hm=>ih e y _ w' (hall y hym) (hxa y hym) (q7 _ _ _ _ _ (hm 0 _ rfl).whole hR9) (hD.mono (j7 _) (hm 0 _ rfl).whole) (hS.mono (hm 0 _ rfl).whole) om) ?_;refine P0 (ty:=9) (a:=t++[44,32]) (b:=E7 (D6 D) d y) (by simp only[d6,d7,d9];omega) ?_;refine nwo ?_;exact⟨(k+1,_),⟨by dsimp only;omega,hnx⟩,by dsimp only;omega,v6.mk (pj [0,1]) rfl rfl⟩
    ·have hnx:=lI (F:=E7 (D6 D) d) hkl om ht;rw[<-hy] at hnx;have hnl:=congrArg F7 hnx;simp only[d6] at hnl;refine I1 cQ (e:=44) rfl ha k rfl hkl λb9 o9 cs hcs hR9 hcell=>?_;rw[<-hy] at hR9;obtain⟨p1,p2,p3,p4,p5,rfl⟩:=CU hR9;refine T7 cQ (i:=0) rfl hcell rfl ?_;refine k7 _ (λw' hm=>ih e y _ w' (hall y hym) (hxa y hym) (q7 _ _ _ _ _ (hm 0 _ rfl).whole hR9) (hD.mono (j7 _) (hm 0 _ rfl).whole) (hS.mono (hm 0 _ rfl).whole) om) ?_;refine P0 (ty:=9) (a:=t) (b:=E7 (D6 D) d y) om ?_;refine nwo ?_;exact⟨(k+1,_),⟨by dsimp only;omega,hnx⟩,by dsimp only;omega,v6.mk (pj [0,1]) rfl rfl⟩
   ·have hk2:k=args.length:=om
    subst hk2;rw[p9] at ht htk;refine P0 (ty:=9) (a:=t) (b:=[41]) (by simp only[d7,d9];omega) ?_;rw[ht];exact⟨[],⟨rfl,rfl⟩,pk [0]⟩
  refine d8 (λh5=>?_) λh5=>?_
  ·have hs:[109,97,120,40]=FI op fac:=by rw[h5];rfl
   refine u6.mk (Nat×e8) (λg=>[(0,.v (.slice ad nd cd)),(3,.bx 1 0),(5,.v (sv g.2)),(6,.v (iQ g.1))]) (λg=>[.hp (Hp.whole w),.box b3 [iQ op,sv f.1,.slice a n c,sv fac,.slice a1 n1 c1] 44])
    (λg=>g.1<=n1/\g.2=FI op fac++O5 ((args.take g.1).map (E7 (D6 D) d))) (λg=>n1 - g.1) (0,[109,97,120,40]) ⟨f8 _,by show [109,97,120,40]=FI op fac++[];rw[p8,hs]⟩ (v6.mk (pj [0,1]) rfl rfl) ?_
   rintro⟨k,t⟩ ⟨hk,ht⟩;dsimp only at hk ht ⊢;have htk:=congrArg F7 ht;rw[d6] at htk;refine d8 (λg1=>?_) λg1=>?_
   ·have hkl:k < args.length:=om
    obtain⟨y,hy⟩ :∃y,y=args[k]:=⟨_,rfl⟩
    have hym:y∈args:=by rw[hy];exact j0 hkl
    have hle:=xS (F:=E7 (D6 D) d) args (k+1);refine d8 (λg2=>?_) λg2=>?_
    ·have hnx:=qQ (F:=E7 (D6 D) d) hkl om ht;rw[<-hy] at hnx;have hnl:=congrArg F7 hnx;simp only[d6,d7,d9] at hnl;refine P0 (ty:=9) (a:=t) (b:=[44,32]) (by simp only[d7,d9];omega) ?_;refine I1 cQ (e:=44) rfl ha k rfl hkl λb9 o9 cs hcs hR9 hcell=>?_;rw[<-hy] at hR9;obtain⟨p1,p2,p3,p4,p5,rfl⟩:=CU hR9;refine T7 cQ (i:=0) rfl hcell rfl ?_;refine k7 _ (λw' hm=>ih e y _ w' (hall y hym) (hxa y hym) (q7 _ _ _ _ _ (hm 0 _ rfl).whole hR9) (hD.mono (j7 _) (hm 0 _ rfl).whole) (hS.mono (hm 0 _ rfl).whole) om) ?_;refine P0 (ty:=9) (a:=t++[44,32]) (b:=E7 (D6 D) d y) (by simp only[d6,d7,d9];omega) ?_;refine nwo ?_;exact⟨(k+1,_),⟨by dsimp only;omega,hnx⟩,by dsimp only;omega,v6.mk (pj [0,1]) rfl rfl⟩
    ·have hnx:=lI (F:=E7 (D6 D) d) hkl om ht;rw[<-hy] at hnx;have hnl:=congrArg F7 hnx;simp only[d6] at hnl;refine I1 cQ (e:=44) rfl ha k rfl hkl λb9 o9 cs hcs hR9 hcell=>?_;rw[<-hy] at hR9;obtain⟨p1,p2,p3,p4,p5,rfl⟩:=CU hR9;refine T7 cQ (i:=0) rfl hcell rfl ?_;refine k7 _ (λw' hm=>ih e y _ w' (hall y hym) (hxa y hym) (q7 _ _ _ _ _ (hm 0 _ rfl).whole hR9) (hD.mono (j7 _) (hm 0 _ rfl).whole) (hS.mono (hm 0 _ rfl).whole) om) ?_;refine P0 (ty:=9) (a:=t) (b:=E7 (D6 D) d y) om ?_;refine nwo ?_;exact⟨(k+1,_),⟨by dsimp only;omega,hnx⟩,by dsimp only;omega,v6.mk (pj [0,1]) rfl rfl⟩
   ·have hk2:k=args.length:=om
    subst hk2;rw[p9] at ht htk;refine P0 (ty:=9) (a:=t) (b:=[41]) (by simp only[d7,d9];omega) ?_;rw[ht];exact⟨[],⟨rfl,rfl⟩,pk [0]⟩
  have h6:op=5:=om
  have hs:[97,98,115,40]=FI op fac:=by rw[h6];rfl
  refine u6.mk (Nat×e8) (λg=>[(0,.v (.slice ad nd cd)),(3,.bx 1 0),(5,.v (sv g.2)),(6,.v (iQ g.1))]) (λg=>[.hp (Hp.whole w),.box b3 [iQ op,sv f.1,.slice a n c,sv fac,.slice a1 n1 c1] 44])
   (λg=>g.1<=n1/\g.2=FI op fac++O5 ((args.take g.1).map (E7 (D6 D) d))) (λg=>n1 - g.1) (0,[97,98,115,40]) ⟨f8 _,by show [97,98,115,40]=FI op fac++[];rw[p8,hs]⟩ (v6.mk (pj [0,1]) rfl rfl) ?_
  rintro⟨k,t⟩ ⟨hk,ht⟩;dsimp only at hk ht ⊢;have htk:=congrArg F7 ht;rw[d6] at htk;refine d8 (λg1=>?_) λg1=>?_
  ·have hkl:k < args.length:=om
   obtain⟨y,hy⟩ :∃y,y=args[k]:=⟨_,rfl⟩
   have hym:y∈args:=by rw[hy];exact j0 hkl
   have hle:=xS (F:=E7 (D6 D) d) args (k+1);refine d8 (λg2=>?_) λg2=>?_
   ·have hnx:=qQ (F:=E7 (D6 D) d) hkl om ht;rw[<-hy] at hnx;have hnl:=congrArg F7 hnx;simp only[d6,d7,d9] at hnl;refine P0 (ty:=9) (a:=t) (b:=[44,32]) (by simp only[d7,d9];omega) ?_;refine I1 cQ (e:=44) rfl ha k rfl hkl λb9 o9 cs hcs hR9 hcell=>?_;rw[<-hy] at hR9;obtain⟨p1,p2,p3,p4,p5,rfl⟩:=CU hR9;refine T7 cQ (i:=0) rfl hcell rfl ?_;refine k7 _ (λw' hm=>ih e y _ w' (hall y hym) (hxa y hym) (q7 _ _ _ _ _ (hm 0 _ rfl).whole hR9) (hD.mono (j7 _) (hm 0 _ rfl).whole) (hS.mono (hm 0 _ rfl).whole) om) ?_;refine P0 (ty:=9) (a:=t++[44,32]) (b:=E7 (D6 D) d y) (by simp only[d6,d7,d9];omega) ?_;refine nwo ?_;exact⟨(k+1,_),⟨by dsimp only;omega,hnx⟩,by dsimp only;omega,v6.mk (pj [0,1]) rfl rfl⟩
   ·have hnx:=lI (F:=E7 (D6 D) d) hkl om ht;rw[<-hy] at hnx;have hnl:=congrArg F7 hnx;simp only[d6] at hnl;refine I1 cQ (e:=44) rfl ha k rfl hkl λb9 o9 cs hcs hR9 hcell=>?_;rw[<-hy] at hR9;obtain⟨p1,p2,p3,p4,p5,rfl⟩:=CU hR9;refine T7 cQ (i:=0) rfl hcell rfl ?_;refine k7 _ (λw' hm=>ih e y _ w' (hall y hym) (hxa y hym) (q7 _ _ _ _ _ (hm 0 _ rfl).whole hR9) (hD.mono (j7 _) (hm 0 _ rfl).whole) (hS.mono (hm 0 _ rfl).whole) om) ?_;refine P0 (ty:=9) (a:=t) (b:=E7 (D6 D) d y) om ?_;refine nwo ?_;exact⟨(k+1,_),⟨by dsimp only;omega,hnx⟩,by dsimp only;omega,v6.mk (pj [0,1]) rfl rfl⟩
  ·have hk2:k=args.length:=om
   subst hk2;rw[p9] at ht htk;refine P0 (ty:=9) (a:=t) (b:=[41]) (by simp only[d7,d9];omega) ?_;rw[ht];exact⟨[],⟨rfl,rfl⟩,pk [0]⟩
end Go.Proofs.YtpjhmeicbjkcdaaGreatDoor
namespace Go.Proofs.YtpjhmeicbjkcdaaGreatDoor
open Go Go.RowKit Go.Dw
section
variable {s:List Ch} {xo yo:Operand} {ty:Nat} {q:TV->Prop}
theorem Ea {a:e8} (h:q (.v (.bool true))):B7 Tryz.prog s (do eqGuard .eql ty xo yo (sv a) (sv a);binOp .eql ty (sv a) (sv a)) q:=W8 (by rw[decide_eq_true rfl];exact h)
end
set_option maxRecDepth 20000 in
set_option maxHeartbeats 2000000 in
theorem WK {ad:Option Addr} {nd cd e:Nat} {D:List S1} {x:Ex} {cs:List Value} (w:World) (hD:Sl (B0 O1) 4 (Hp.whole w) ad nd cd D) (hx:P5 e (Hp.whole w) x cs) (hT:kU (Hp.whole w)) (hP:dT (Hp.whole w)) :
  j6 Tryz.prog 4 #[.slice ad nd cd,.agg cs.toArray] w (v7 w (.bool true)):=by
 match e,hx with
 | e+1,hx=>
 have hlD:=hD.len;subst hlD;have hx0:=hx;have hK:=λ(w':World) (hm:(Hp.whole w).In w')=>rV w' (hT.mono hm.whole) (hP.mono hm.whole);obtain⟨X,hX⟩ :∃X,X=x:=⟨_,rfl⟩
 rw[<-hX] at hx0;obtain⟨op,f,fac,args⟩:=x;obtain⟨a,n,c,a1,n1,c1,rfl,hf,ha⟩:=hx;refine enterZ (cx 86) [.slice ad D.length cd,.agg #[iQ op,sv f.1,.slice a n c,sv fac,.slice a1 n1 c1]] [.tmp 4] Tryz.func4 ?_;intro b3 b5;refine o7 (λ_ kz=>kz _ _ ?_);refine o7 λq' hq'=>?_;refine k7 _ (λw' hm=>hK w' (hm 0 _ rfl)) ?_;refine d8 (λh2=>?_) λh2=>?_
 ·apply hq';refine k7 _ (λw' hm=>hK w' (hm 0 _ rfl)) ?_;exact⟨[],⟨rfl,rfl⟩,pk [0]⟩
 have hn:D.length<=66:=om
 refine jU (i:=2) rfl (λw0 w1 hok=>BH 10 (e+1) 70 1 X _ w1 dc dc (hok.mem 2 _ rfl) (q7 _ _ _ _ _ (Hp.le_minus (hok.mem 0 _ rfl).whole (hok.disj 0 2 _ _ dc rfl rfl)) hx0)) ?_;rintro _ _ ⟨rfl,l',rfl,_,_⟩;apply hq';refine s8 (λh3=>?_) λh3=>?_
 ·refine k7 _ (λw' hm=>hK w' (hm 0 _ rfl)) ?_;exact⟨[],⟨rfl,rfl⟩,pk [0]⟩
 rw[iM] at h3;have hxS:=WH 10 70 X dc h3;refine u6.mk Nat (λk=>[(0,.v (.slice ad D.length cd)),(3,.bx 1 0),(6,.v (iQ k))]) (λ_=>[.hp (Hp.whole w),.box b3 [iQ op,sv f.1,.slice a n c,sv fac,.slice a1 n1 c1] 44])
  (λk=>k<=D.length/\∀j (hj:j < D.length),j < k->D[j].1.length<=80) (λk=>D.length - k) 0 ⟨f8 _,λ_ _ h=>absurd h (H5 _)⟩ (v6.mk (pj [0,1]) rfl rfl) ?_
 rintro k ⟨hk,ho⟩;dsimp only at hk ho ⊢;refine d8 (λh4=>?_) λh4=>?_
 ·have hkl:k < D.length:=om
  refine I1 cQ (e:=48) rfl hD k rfl hkl λb9 o9 cs hcs hR hcell=>?_;subst hR;refine lQ 0 (hcell 0 _ rfl) ?_;have hz:(bs D[k].1).size=D[k].1.length:=B6 _;refine d8 (λh6=>?_) λh6=>?_
  ·exact⟨[],⟨rfl,rfl⟩,pk [0]⟩
  ·rw[hz] at h6;refine nwo ?_;refine⟨k+1,⟨om,λj hj hjk=>?_⟩,om,v6.mk (pj [0,1]) rfl rfl⟩;by_cases e:j=k
   ·subst e;omega
   ·exact ho j hj om
 have hdn :∀d∈D,d.1.length<=80:=by
  intro d hd;obtain⟨j,hj,rfl⟩:=Q1.1 hd;exact ho j hj om
 have hlen:(E7 (D6 D) 8 X).length < 1000000000:=by
  have:=IL (WW hdn) 8 10 70 X h3;omega
 clear ho hk h4;refine k7 _ (λw' hm=>QW w' om hxS (q7 _ _ _ _ _ (hm 0 _ rfl).whole hx0)) ?_;refine k7 _ (λw' hm=>mZ w' om hxS (q7 _ _ _ _ _ (hm 0 _ rfl).whole hx0)) ?_;refine d8 (λh7=>absurd rfl h7) λ_=>?_;refine k7 _ (λw' hm=>LJ w' (hD.mono (j7 _) (hm 0 _ rfl).whole) (λd hd=>by have:=hdn d hd;omega)) ?_;have hpr:=λ(w':World) (hm:(Hp.whole w).In w')=>mU w' (hD.mono (j7 _) hm.whole) (q7 _ _ _ _ _ hm.whole hx0) hxS om (λd hd=>by have:=hdn d hd;omega) hlen;have hpx:UN D X=if HD D≠0 then ([],HD D) else if pL D.length X≠0 then ([],pL D.length X) else xR (E7 (D6 D) 8 X):=rfl
 refine d8 (λh8=>?_) λh8=>?_;focus
  rw[if_neg (λh=>h h8)] at hpx;by_cases hg:pL D.length X=0
  ·rw[if_neg (λh=>h hg)] at hpx;unfold xR at hpx;have htx:=λ(w':World) (hm:(Hp.whole w).In w')=>zD (λd hd=>by have:=hdn d hd;omega) 8 (e+1) X _ w' (xC 8 0 _ hg) hxS (q7 _ _ _ _ _ hm.whole hx0) (hD.mono (j7 _) hm.whole) (hT.mono hm.whole) hlen;generalize E7 (D6 D) 8 X=T at hpx htx;have hz:(bs T).size=T.length:=B6 _;by_cases hl:65536 < T.length
   ·rw[if_pos hl] at hpx;rw[hpx] at hpr;dsimp only at hpr;refine k7 _ (λw' hm=>hpr w' (hm 0 _ rfl)) ?_;refine d8 (λh9=>absurd hg h9) λ_=>?_;refine k7 _ (λw' hm=>htx w' (hm 0 _ rfl)) ?_;refine d8 (λ_=>?_) (λh11=>by rw[hz] at h11;omega);refine Ea (a:=[]) ?_;exact⟨[],⟨rfl,rfl⟩,pk [0]⟩
   ·rw[if_neg hl] at hpx;rw[hpx] at hpr;dsimp only at hpr;refine k7 _ (λw' hm=>hpr w' (hm 0 _ rfl)) ?_;refine d8 (λh9=>absurd hg h9) λ_=>?_;refine k7 _ (λw' hm=>htx w' (hm 0 _ rfl)) ?_;refine d8 (λh11=>by rw[hz] at h11;omega) λ_=>?_;refine Ea (a:=T) ?_;exact⟨[],⟨rfl,rfl⟩,pk [0]⟩
  focus
   rw[if_pos hg] at hpx;rw[hpx] at hpr;dsimp only at hpr;refine k7 _ (λw' hm=>hpr w' (hm 0 _ rfl)) ?_;refine d8 (λ_=>?_) (λh=>absurd hg h)
 rotate_left
 focus
  rw[if_pos h8] at hpx;rw[hpx] at hpr;dsimp only at hpr;refine k7 _ (λw' hm=>hpr w' (hm 0 _ rfl)) ?_;refine d8 (λ_=>?_) (λh=>absurd h8 h)
 all_goals
  refine Ea (a:=[]) ?_;exact⟨[],⟨congrArg Value.bool (decide_eq_true rfl),rfl⟩,pk [0]⟩
end Go.Proofs.YtpjhmeicbjkcdaaGreatDoor
namespace Go.Proofs.YtpjhmeicbjkcdaaGreatDoor
open Go Go.RowKit Go.Dw Go.ChangeShapes Go.WideShapes Go.ChangeAt
set_option maxRecDepth 100000 in
theorem mP (os:Os) (started:os.Started) (H:Type) (enc:TypeId×Value->H) :
  ReturnsInHanded {} Tryz.checked os 4 .any (λw args=>(Rows.documentExprsSpec.pre enc Tryz.prog Tryz.f4 [] false w args/\laidMetH Tryz.prog cI w)/\sizedMet enc Tryz.prog Tryz.f4 (OpenSpec.ofChange Rows.documentExprsSpec) false w args)
   (Rows.documentExprsSpec.post enc Tryz.prog Tryz.f4 false true false false):=by
 refine returnsInHanded_of_change_and (C:=Tryz.checked) (X:=λw _=>laidMetH Tryz.prog cI w) (λ_ _ _ hh h=>h.of_heap hh) own started kr Tryz.func4
  (ChangeSpec.witness_shaped (enc:=enc) (C:=Tryz.checked) (os:=os) (X:=λw _=>laidMetH Tryz.prog cI w) false (World.laidAll Tryz.prog os cI) #[zl,.agg #[iQ 0,.string ⟨#[]⟩,zl,.string ⟨#[]⟩,zl]] 8 (World.laidAll_os _ _ _)
   (CN os _) kr kr kr (VK os _)) ?_
 intro W base args ds gs before hval0 hW _ _ hL _;have hval :∀(j:Nat) t v,Tryz.f4.params[j]?=some t->args[j]?=some v->Value.okWide Tryz.prog W .any base t v:=hval0;have hW':=hW;obtain⟨p,q,hA0,hV,rfl,hfz,hnd⟩:=hW;have hA:DataW.TrodAll enc Tryz.prog W 0 (λ_=>true) true Tryz.f4.params.toList args.toList ds p:=hA0;rw[Tryz.params4] at hA hval;obtain⟨v0,v1,d0,d1,p0,p1,rfl,rfl,rfl,h0,h1⟩:=trodAll_two hA;obtain⟨D0,a0,m0,c0,rfl,hD0⟩:=UY (hval 0 _ v0 rfl rfl) h0;obtain⟨e1,x1,cs1,rfl,hX1⟩:=Ee (hval 1 _ v1 rfl rfl) h1;exact IG rfl kr kr hW' rfl rfl rfl (WK W hD0 hX1 (qV hL) (qW hL))
theorem sP:Rows.DocumentExprsSaid:=
 OpenClaim.holds_of_wide 4 Tryz.f4 rfl rfl rfl rfl rfl rfl rfl ⟨rfl,rfl,rfl,rfl,rfl⟩ rfl rfl rfl rfl rfl kr Tryz.func4 documentExprs_facts
  (of_decide_eq_true kr) (by unfold Func.isWrapper;first | (rw[if_pos (by decide +kernel)];kernel_rfl) | (rw[if_neg (by decide +kernel)];exact⟨rfl,rfl⟩))
  (λos started H enc _=>mP os started H enc)
theorem documentExprs_holds:Rows.DocumentExprsCardSaid:=
 Claim7.holds_tied_plain_at .later [] [.data,.data,.data,.data,.sentinel,.sentinel,.listed,.data,.pinned] true (true,"5524b49a99c14b84714612f17c4273e75e7ba66b67a78b9d8144231c70c6d12f") true
  sP (λ_ h=>by cases h) kr (λ_ h=>by cases h) documentExprs_row_tie rfl ⟨rfl,rfl⟩ kr rfl
  (λf fn hf hfn=>by
   obtain rfl:f=4:=Y4 ((show Tryz.prog.funcNamed "dowel/dowellaw36.DocumentExprs" = some 4 by kernel_rfl).symm.trans hf) |>.symm
   obtain rfl:fn=Tryz.f4:=(Y4 (Tryz.func4.symm.trans hfn)).symm;exact⟨kr,λj t ht=>by
    rw[Tryz.params4] at ht;have hm:t∈[26,44]:=by simpa using Array.mem_of_getElem? ht
    have hall:([26,44].all λu=>!Tryz.prog.wantsStandIn u)=true:=kr
    exact (show Tryz.prog.wantsStandIn t=false by simpa using z6.1 hall t hm)⟩)
  documentExprs_goes.symm
end Go.Proofs.YtpjhmeicbjkcdaaGreatDoor
