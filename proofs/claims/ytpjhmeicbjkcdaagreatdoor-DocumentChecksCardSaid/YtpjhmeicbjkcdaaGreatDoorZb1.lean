/- Parts of one proof, joined. No condition of its own. -/
import Derived.Test.YtpjhmeicbjkcdaaGreatDoorZB3
open Bool renaming and_eq_true->k6,or_eq_true->U8,or_eq_false_iff->U2,false_and->U4,true_and->F6
open Classical renaming byContradiction->j9,not_not->l9
open Int renaming eq_ofNat_of_zero_le->aS
open List renaming all_eq_true->z6,any_eq_true->E6,length_pos_iff->G2,flatMap_cons->I6,getElem?_eq_getElem->i6,getElem?_map->G7,length_map->l7,map_cons->N7,getElem_mem->j0,intercalate->mW,length_take->j8,map_append->E9,take_length->p9,append_assoc->o6,flatMap_append->V1,getD_eq_getElem?_getD->i7,length->F7,length_append->d6,length_cons->d7,take_append_drop->E4,getElem?_eq_some_iff->q9,getElem?_take_of_lt->Na,length_eq_zero_iff->M0,append_nil->p8,length_drop->k9,mem_cons->A8,not_mem_nil->Q0,drop_drop->R2,drop_left'->FJ,take_left'->Y7,any_eq_false->J8,mem_iff_getElem->Q1,length_nil->d9,mem_append->G1,ext_getElem?->O8,getElem?_set->O7,length_set->N8,nil_append->N6,mem_cons_self->bU,length_replicate->O9,replicate->p7,replicate_succ->qF,set_append_right->JF,any_cons->Nc,length_singleton->w7,mem_map->G6,flatten_cons->w5,flatten_nil->y6
open Nat renaming zero_add->y8,zero_le->f8,le_refl->k8,mul_one->E3,add_zero->G3,gcd->I5,pos_of_ne_zero->F8,add_assoc->nX,lt_of_le_of_lt->s7,zero_lt_succ->O2,add_sub_cancel_left->BS,le_add_right->aO,sub_self->bS,le_of_lt->kA,ble->R0,not_lt_zero->H5,mul_le_mul_left->B8
open Option.some renaming inj->Y4
namespace Go.Proofs.YtpjhmeicbjkcdaaGreatDoor
open Go
theorem QM {l:e8} (h:W9 l=0):(T0 l).all l8=true/\0 < (T0 l).length/\((T0 l).getD 0 0=48->(T0 l).length=1/\iU l=false):=by
 unfold W9 at h;split at h
 ·cases h
 ·split at h
  ·cases h
  ·rename_i h2
   split at h
   ·cases h
   ·rename_i h3
    have hne : ¬ T0 l = []:=λe=>h2 (.inl e);refine⟨?_,G2.2 hne,λh48=>⟨?_,?_⟩⟩
    ·rw[z6];intro c hc;cases hd:l8 c with
     | true=>rfl
     | false=>exact absurd (.inr (E6.2 ⟨c,hc,by rw[hd];rfl⟩)) h2
    ·have:=G2.2 hne;refine j9 λg=>h3 ⟨h48,.inl om⟩
    ·cases hb:iU l with
     | false=>rfl
     | true=>exact absurd ⟨h48,.inr hb⟩ h3
theorem VA {s:e8} (h:I7 s=0):s = [48]↔T8 (T0 (L0 s).1)=0:=by
 refine⟨λe=>by subst e;decide,λhz=>?_⟩;unfold I7 bB at h;split at h
 ·cases h
 ·split at h
  ·cases h
  ·split at h
   ·cases h
   ·split at h
    ·cases h
    ·rename_i hp
     have hp:W9 (L0 s).1=0:=l9.1 hp;obtain⟨hd,hl,hz48⟩:=QM hp;have h48:(T0 (L0 s).1).getD 0 0=48:=j9 λg=>by have:=EZ hd hl g;omega
     obtain⟨hl1,hb⟩:=hz48 h48;have hsd:T0 (L0 s).1=(L0 s).1:=by unfold T0;rw[if_neg (by rw[hb];decide)]
     rw[hsd] at hl1 h48;have hc1:(L0 s).1 = [48]:=by
      match hc:(L0 s).1,hl1 with
      | [c],_=>rw[hc] at h48;have:c=48:=h48;rw[this]
     split at h
     ·rename_i hcut
      unfold L0 at hc1 hcut;split at hcut
      ·cases hcut
      ·rename_i hn
       rw[if_neg hn] at hc1;exact hc1
     ·split at h
      ·cases h
      ·rename_i h6
       exfalso
       rw[hz,Nat.gcd_zero_left] at h6;exact h6 (.inr ((Classical.em (T8 (L0 s).2.1=1)).elim .inl .inr))
end Go.Proofs.YtpjhmeicbjkcdaaGreatDoor
namespace Go.Proofs.YtpjhmeicbjkcdaaGreatDoor
open Go Go.RowKit Go.Dw
theorem Ip:Go.Proofs.Builder.Extra Tryz.prog Tryz.lJo_ren where
 sizeBuilder:=kr
 liesBuilder:=kr
 t5:=Tryz.underlying5
 a5:=Tryz.isAgg5
 z5:=Tryz.sizeOf5
 v5:=Tryz.zeroValue5
 infoByte:=kr
 cellsByte:=kr
 sizeByte:=kr
 neB5:=dc
theorem zI {o:Dw.Os} {L:List e8} (w:World) (sep:e8) (hin:o.h.In w) (ho:w8 fS 9 1 o L) (h0:0 < L.length) (hl:L.length < 1000000) (hj:(Lib.join L sep).length < 1000000) :
  j6 Tryz.prog 133 #[o.v,sv sep] w (v7 w (sv (Lib.join L sep))):=by
 have hlen:=w8.len ho;obtain⟨b,hb⟩:=ho.addr h0;obtain⟨a,n,c,hh⟩:=o;dsimp only at hb hlen hin;subst hb;subst hlen;have hms:(L.map bs).map (λx=>x.data.toList)=L:=by rw[List.map_map];exact (List.map_congr_left λx _=>rfl).trans (List.map_id L)
 have hfl :∀(j:Nat) x,(L.map bs)[j]?=some x->(L.flatMap fS)[j]?=some (.string x):=by
  have e:L.flatMap fS=(L.map bs).map Value.string:=by
   clear hms ho h0 hl hj;induction L with
   | nil=>rfl
   | cons x r ih=>rw[I6,N7,N7,ih];rfl
  intro j x hx;rw[e,G7,hx];rfl
 have hown:=ho;have hcap:L.length<=c:=by
  rcases ho.2.2 with ⟨g,_⟩ | ⟨b',arr,e1,_,hnc,_⟩
  ·have:L.length=0:=g;omega
  ·exact hnc
 have hblk:b < w.heap.size:=by
  obtain⟨b',arr,e1,hbb,_,h4⟩:=iK.cell ho.2 (hfl 0 (bs (L[0]'h0)) (by rw[G7,i6 h0];rfl));cases e1;have:=hin _ _ hbb;exact (Array.getElem?_eq_some_iff.1 this).1
 have hcon:=Any.strings_Join Tryz.lJo Ip b 0 c (L.map bs) (bs sep) w (λj x hx=>by
  obtain⟨b',arr,e1,_,_,h4⟩:=iK.cell ho.2 (hfl j x hx);cases e1;rw[y8];exact hin.whole.cell h4) hblk (by rw[l7];omega) (by rw[l7];exact hcap) (by rw[hms,jV];omega)
 change Calls Tryz.prog 133 _ _ _ at hcon
 rw[l7] at hcon;refine⟨enters_of (args:=#[(⟨some ⟨b,0,none⟩,L.length,c,hh⟩:Dw.Os).v,sv sep]) Tryz.func133 kr rfl,hcon.mono ?_⟩;rintro e w' ⟨rfl,hbel⟩;refine v7.ofBelow ?_ hbel;rw[hms,jV];rfl
end Go.Proofs.YtpjhmeicbjkcdaaGreatDoor
namespace Go.Proofs.YtpjhmeicbjkcdaaGreatDoor
open Go Go.Shelf Go.RowKit Go.Dw
def LV (z:Int):Prop:=-9223372036854775808<=z/\z<=9223372036854775807
theorem fU (z:Int) (hz:LV z) (w:World) (hP:dT (Hp.whole w)):j6 Tryz.prog 58 #[iQ z] w (v7 w (sv (zT z))):=by
 have hcon:=Any.strconv_Itoa Tryz.lIt z hz.1 hz.2 w hP.at;change Calls Tryz.prog 58 _ _ _ at hcon
 refine⟨enters_of (args:=#[iQ z]) Tryz.func58 kr rfl,hcon.mono ?_⟩;rintro e w' ⟨rfl,k,os,rfl⟩;have e1:(⟨(Lib.itoa z).toArray⟩:ByteArray)=bs (zT z):=by
  unfold Lib.itoa zT bs;split
  ·rfl
  ·rw[show z.toNat=z.natAbs by omega]
 rw[e1];refine v7.ofBelow rfl ⟨rfl,rfl,rfl,?_,λj hj=>?_⟩
 ·show w.heap.size<=(w.heap++os).size
  rw[Array.size_append];omega
 ·exact Sort.heap_grow_old (w.drewN k) os hj
theorem CZ :∀L:List e8,Lib.join L [44,32]=O5 L
 | []=>rfl
 | [x]=>by show mW [44,32] [x]=x;simp[mW]
 | x::y::r=>by
  have ih:=CZ (y::r);unfold Lib.join at ih ⊢;show _=x++44::32::O5 (y::r)
  rw[<-ih];simp[mW,List.intersperse]
set_option maxRecDepth 10000 in
theorem RB {h:Hp} {b:Nat} {dv:Value} {t:e8} {a:Option Addr} {n c:Nat} {L:List Int} (w:World) (hin:h.In w) (hI:kW h b dv t) (hL:Sl (B0 Gf) 1 ((Hp.whole w).minus h) a n c L) (hP:dT ((Hp.whole w).minus h)) (h0:0 < L.length) (hn:L.length < 1000) (hz :∀z∈L,LV z) (hlen:t.length+(dL L).length < 1000000) :
  j6 Tryz.prog 59 #[pQ b,.slice a n c] w (O6 w h λ_ h' cs=>cs = []/\kW h' b dv (t++dL L)):=by
 have hll:=hL.len;refine enterMZ (cx 24) [pQ b,.slice a n c] hin [] Tryz.func59 ?_;obtain⟨c0,hc0⟩ :∃c0,c0=(Hp.whole w).minus h:=⟨_,rfl⟩
 rw[<-hc0] at hL hP ⊢;refine u6.mk (Nat×Dw.Os) (λg=>[(0,.v (pQ b)),(4,.v g.2.v),(7,.v (.slice a n c)),(8,.v (iQ n)),(9,.v (iQ g.1))]) (λg=>[.hp c0,.hp h,.hp g.2.h])
  (λg=>g.1<=n/\w8 fS 9 1 g.2 ((L.take g.1).map zT)) (λg=>n - g.1) (0,Dw.Os.nil) ⟨f8 _,w8.nil _ _ _⟩ (v6.mk (λ_ _ h=>Ok.emp h) rfl rfl) ?_
 rintro⟨k,o⟩ ⟨hk,ho⟩;dsimp only at hk ho ⊢;refine d8 (λh1=>?_) λh1=>?_
 ·have hkl:k < L.length:=om
  obtain⟨z,hzk⟩ :∃z,z=L[k]:=⟨_,rfl⟩
  have hz1:LV z:=hz z (by rw[hzk];exact j0 hkl);refine I1 cQ (e:=3) rfl hL k rfl hkl λb9 o9 cs hcs hR hcell=>?_;rw[<-hzk] at hR;subst hR;refine lQ 0 (hcell 0 _ rfl) ?_;refine k7 (sv (zT z)) (λw' hm=>fU z hz1 w' (hP.mono (hm 0 _ rfl).whole)) ?_;intro b16;refine gF (f:=fS) cQ (e:=9) rfl (i:=2) rfl ho (j:=3) (zT z) rfl rfl rfl rfl (by rw[l7,j8];omega) λo2 ho2=>?_;refine nwo ?_;refine⟨(k+1,o2),⟨by dsimp only;omega,?_⟩,by dsimp only;omega,v6.mk (pj [0,1,2]) rfl rfl⟩;dsimp only;rw[I8 L k hkl,E9,<-hzk];exact ho2
 ·have hk2:k=L.length:=om
  subst hk2;rw[p9] at ho;have hcj:=CZ (L.map zT);have hit:(dL L).length=(O5 (L.map zT)).length+2:=by unfold dL;simp
  refine k7 _ (λw' hm=>zI w' [44,32] (hm 2 _ rfl) ho (by rw[l7];exact h0) (by rw[l7];omega) (by rw[hcj];omega)) ?_;rw[hcj];intro b22;refine aL (i:=1) (j:=3) dc rfl hI (L:=[[40],O5 (L.map zT),[41]]) rfl rfl sQ (by simp;omega) λv h' hI2=>?_;refine⟨h',[],⟨rfl,?_⟩,pk [0,1]⟩;have e:[[40],O5 (L.map zT),[41]].flatten=dL L:=by unfold dL;simp
  rw[<-e];exact hI2
end Go.Proofs.YtpjhmeicbjkcdaaGreatDoor
namespace Go.Proofs.YtpjhmeicbjkcdaaGreatDoor
open Go Go.RowKit Go.Dw
theorem kW.dv {h:Hp} {b:Nat} {dv:Value} {t:e8} (hI:kW h b dv t):h.cell? ⟨b,2,none⟩=some dv:=by
 obtain⟨fl,o,rfl,_⟩:=hI;exact (Hp.le_join_l _ _).cell (J3 b (cs:=[fl,o.v,dv]) _ rfl)
theorem Cg (s:e8):Y9 s [45]=true↔s.getD 0 0=45:=by
 unfold Y9;cases s with
 | nil=>simp
 | cons c r=>simp
theorem cW {α:Type} {g:α->e8} {L:List α} {k:Nat} (hk:k < L.length):(L.take (k+1)).flatMap g=(L.take k).flatMap g++g L[k]:=by
 rw[I8 L k hk,V1];simp
theorem sB {α:Type} {g:α->e8} {L:List α} {k:Nat} (hk:k < L.length):((L.take k).flatMap g).length+(g L[k]).length<=(L.flatMap g).length:=by
 have:=congrArg F7 (cW (g:=g) hk);rw[d6] at this;rw[<-this];have e:L.flatMap g=(L.take (k+1)).flatMap g++(L.drop (k+1)).flatMap g:=by rw[<-V1,E4]
 rw[e,d6];omega
set_option maxRecDepth 10000 in
set_option maxHeartbeats 1000000 in
theorem CR {h:Hp} {b:Nat} {ad:Option Addr} {nd cd:Nat} {D:List S1} {t fc:e8} {a:Option Addr} {n c:Nat} {L:List JL} (w:World) (hin:h.In w) (hI:kW h b (.slice ad nd cd) t) (hL:Sl (B0 U0) 2 ((Hp.whole w).minus h) a n c L) (hD:Sl (B0 O1) 4 ((Hp.whole w).minus h) ad nd cd D)
  (hn:L.length < 1000000) (hdn :∀d∈D,d.1.length < 1000000) (hi :∀x∈L,0<=x.1/\x.1 < D.length) (hlen:t.length+(bZ (D6 D) (fc,L)).length < 1000000000) :
  j6 Tryz.prog 60 #[pQ b,.agg #[sv fc,.slice a n c]] w (O6 w h λ_ h' cs=>cs = []/\kW h' b (.slice ad nd cd) (t++bZ (D6 D) (fc,L))):=by
 have hll:=hL.len;have hfl:(bZ (D6 D) (fc,L)).length=fc.length+(L.flatMap (dV (D6 D))).length+2:=by unfold bZ;simp;omega
 refine enterMZ (cx 47) [pQ b,.agg #[sv fc,.slice a n c]] hin [] Tryz.func60 ?_;obtain⟨c0,hc0⟩ :∃c0,c0=(Hp.whole w).minus h:=⟨_,rfl⟩
 rw[<-hc0] at hL hD ⊢;intro b3 b12;refine aL (i:=1) (j:=3) dc rfl hI (L:=[[91],fc]) rfl rfl sQ (by simp;omega) λv h1 hI1=>?_;refine u6.mk (Nat×Hp) (λg=>[(0,.v (pQ b)),(15,.v (.slice a n c)),(16,.v (iQ n)),(17,.v (iQ g.1))]) (λg=>[.hp c0,.hp g.2])
  (λg=>g.1<=n/\kW g.2 b (.slice ad nd cd) (t++((91::fc)++(L.take g.1).flatMap (dV (D6 D))))) (λg=>n - g.1) (0,h1) ⟨f8 _,by simpa using hI1⟩ (v6.mk (pj [0,1]) rfl rfl) ?_
 rintro⟨k,h1⟩ ⟨hk,hI1⟩;dsimp only at hk hI1 ⊢;refine d8 (λg1=>?_) λg1=>?_
 ·have hkl:k < L.length:=om
  obtain⟨⟨ix,x⟩,hx⟩ :∃x,x=L[k]:=⟨_,rfl⟩
  obtain⟨hx0,hx1⟩:=hi (ix,x) (by rw[hx];exact j0 hkl);dsimp only at hx0 hx1;obtain⟨m,rfl⟩:=aS hx0;have hm:m < D.length:=om
  have hfle:=sB (g:=dV (D6 D)) hkl;obtain⟨d,hd⟩ :∃d,d=D[m]:=⟨_,rfl⟩
  have hdl:d.1.length < 1000000:=hdn d (by rw[hd];exact j0 hm);have hnm:D6 D (m:Int)=P1 d.1:=by
   unfold D6;rw[i7,show (m:Int).toNat=m from rfl,i6 hm,hd];rfl
  obtain⟨y,hy⟩ :∃y,y=(if Y9 x [45]=true then x.drop ([45]:e8).length else x):=⟨_,rfl⟩
  obtain⟨f,hf⟩ :∃f,f=Y9 x [45]:=⟨_,rfl⟩
  have htr:dV (D6 D) L[k]=(if f=true then [[32,45,32],y,[32,42,32],P1 d.1].flatten else [[32,43,32],y,[32,42,32],P1 d.1].flatten):=by
   rw[<-hx];unfold dV;dsimp only;rw[hnm,hy,hf];by_cases hp:Y9 x [45]=true
   ·rw[if_pos hp,if_pos hp,if_pos ((Cg x).1 hp)];simp
   ·rw[if_neg hp,if_neg hp,if_neg (λe=>hp ((Cg x).2 e))];simp
  rw[htr] at hfle;refine I1 cQ (e:=80) rfl hL k rfl hkl λb9 o9 cs hcs hR hcell2=>?_;rw[<-hx] at hR;have hR:cs = [iQ m,sv x]:=hR;subst hR;refine T7 cQ (i:=0) rfl hcell2 rfl ?_;intro b5;refine k7 (.tuple #[sv y,.bool f]) (λw' hm=>by rw[hy,hf];exact mQ x [45] w') ?_;refine s8 (λg3=>?_) λg3=>?_;focus
   rw[if_pos g3] at htr hfle;refine s6.by_order0 cQ (.take 0 <| .take 1 <| .take 2 <| .take 3 <| .take 4 <| .take 5 <| .take 7 <| .take 8 <| .run 6 <| .take 9 <| .take 10 <| .take 11 <| .run 12 <| .run 13 <| .run 14 <| .done) kr (K9 _ 1) ?_;refine lQ 1 hI1.dv ?_;refine⟨sK,?_⟩;refine I1 cQ (e:=48) rfl hD m rfl hm λb9 o9 cs hcs hR hcell4=>?_;rw[<-hd] at hR;subst hR;refine lQ 0 (hcell4 0 _ rfl) ?_;refine k7 _ (λw' hm=>Z0 d.1 hdl w') ?_;refine⟨sK,?_⟩;intro b41;refine⟨sK,?_⟩;refine aL (i:=1) (j:=3) dc rfl hI1 (L:=[[32,45,32],y,[32,42,32],P1 d.1]) rfl rfl sQ (by rw[d6,d6,d7];omega) λv h2 hI2=>?_
  rotate_left
  focus
   rw[if_neg (by rw[g3];decide)] at htr hfle;refine s6.by_order0 cQ (.take 0 <| .take 1 <| .take 2 <| .take 3 <| .take 4 <| .take 5 <| .take 7 <| .take 8 <| .run 6 <| .take 9 <| .take 10 <| .take 11 <| .run 12 <| .run 13 <| .run 14 <| .done) kr (K9 _ 1) ?_;refine lQ 1 hI1.dv ?_;refine⟨sK,?_⟩;refine I1 cQ (e:=48) rfl hD m rfl hm λb9 o9 cs hcs hR hcell4=>?_;rw[<-hd] at hR;subst hR;refine lQ 0 (hcell4 0 _ rfl) ?_;refine k7 _ (λw' hm=>Z0 d.1 hdl w') ?_;refine⟨sK,?_⟩;intro b41;refine⟨sK,?_⟩;refine aL (i:=1) (j:=3) dc rfl hI1 (L:=[[32,43,32],y,[32,42,32],P1 d.1]) rfl rfl sQ (by rw[d6,d6,d7];omega) λv h2 hI2=>?_
  all_goals
   refine⟨sK,?_⟩;refine nwo ?_;refine⟨(k+1,h2),⟨by dsimp only;omega,?_⟩,by dsimp only;omega,v6.mk (pj [0,1]) rfl rfl⟩;dsimp only;rw[cW hkl,htr,<-o6,<-o6,o6 t];exact hI2
 ·have hk2:k=L.length:=om
  subst hk2;rw[p9] at hI1;intro b45;refine aL (i:=1) (j:=2) dc rfl hI1 (L:=[[93]]) rfl rfl sQ (by have e1:([[93]]:List e8).flatten.length=1:=rfl;rw[e1];simp only[d6,d7];omega) λv h2 hI2=>?_;refine⟨h2,[],⟨rfl,?_⟩,pk [0,1]⟩;have e:t++((91::fc)++L.flatMap (dV (D6 D)))++[[93]].flatten=t++bZ (D6 D) (fc,L):=by unfold bZ;simp
  rw[<-e];exact hI2
end Go.Proofs.YtpjhmeicbjkcdaaGreatDoor
namespace Go.Proofs.YtpjhmeicbjkcdaaGreatDoor
open Go Go.RowKit Go.Dw
theorem kW.buf {h:Hp} {b:Nat} {dv:Value} {t:e8} (hI:kW h b dv t) :∃a c,h.cell? ⟨b,1,none⟩=some (.slice a t.length c)/\Sl (B0 AW) 1 h a t.length c t:=by
 obtain⟨fl,o,rfl,hdj,_,ho⟩:=hI;have hn:=ho.len;have hs:=(w8.sl (f:=AW) (sz:=1) (λ_=>rfl) dc ho).mono (j7 _) (Hp.le_join_r hdj);rw[hn] at hs;refine⟨o.a,o.c,(Hp.le_join_l _ _).cell (J3 b (cs:=[fl,o.v,dv]) _ ?_),hs⟩;rw[<-hn];rfl
theorem QX {h:Hp} {b:Nat} {dv:Value} {t:e8} (w:World) (hin:h.In w) (hI:kW h b dv t):j6 Tryz.prog 136 #[pQ b] w (v7 w (iQ t.length)):=by
 obtain⟨a,c,hc,_⟩:=hI.buf;refine enterZ (cx 8) [pQ b] [.tmp 2] Tryz.func136 ?_;refine lQ 0 (hin.whole.cell hc) ?_;exact⟨[],⟨rfl,rfl⟩,pk [0]⟩
end Go.Proofs.YtpjhmeicbjkcdaaGreatDoor
namespace Go.Proofs.YtpjhmeicbjkcdaaGreatDoor
open Go Go.RowKit Go.Dw Go.Shelf
set_option maxHeartbeats 1000000 in
set_option maxRecDepth 100000 in
theorem PP (b g cap:Nat) (cur:Array Value) (l:e8) (w:World) (h0:l≠[]) (hc:w.cell? ⟨b,1,none⟩=some (.slice (some ⟨g,0,none⟩) l.length cap)) (hg:w.heap[g]?=some (.cells cur 5 (0,0))) (hlc:l.length<=cap) (hcm:cap<=maxLen) (hcs:cur.size=cap)
  (hcells :∀j (x:UInt8),l[j]?=some x->w.cell? ⟨g,j,none⟩=some (.int .u8 x.toNat)) :
  Calls Tryz.prog 137 #[pQ b] w λe w'=>e=.returned (sv l)/\w'=w.drew.freeze ⟨g,0,none⟩ l.length:=by
 have hl0:l.length≠0:=by simpa using h0
 have c1:w.drew.cell? ⟨b,1,none⟩=some (.slice (some ⟨g,0,none⟩) l.length cap):=hc;have hSD:(Builtin.unsafeSliceData_ #[68] 239 #[.slice (some ⟨g,0,none⟩) l.length cap]).run Tryz.prog w.drew=.ok (pQ g) w.drew:=
  Lib.run_unsafeSliceData_row _ _ _ _ _ _ om
 have hUS:(Builtin.unsafeString_ #[239,3] 9 #[pQ g,iQ l.length]).run Tryz.prog w.drew=.ok (.string ⟨l.toArray⟩) (w.drew.freeze ⟨g,0,none⟩ l.length):=by
  refine Lib.run_unsafeString_row w.drew 239 3 9 5 Tryz.underlying239 kr g cur.size (by have hg':w.drew.heap[g]?=some (.cells cur 5 (0,0)):=hg;simp[World.shape?,hg']) l h0 om (by unfold maxLen at hcm;omega) ?_;intro j x hx;have:=hcells j x hx;rw[Addr.add_mk,y8];exact this
 have mixed:Tryz.prog.follows Departure.mixedOrders=true:=kr
 go_enter Tryz.func137,Tryz.ntmps137
 go_wp2
 go_region_o
 all_goals (go_wp2;go_ret;exact⟨rfl,rfl⟩)
end Go.Proofs.YtpjhmeicbjkcdaaGreatDoor
namespace Go.Proofs.YtpjhmeicbjkcdaaGreatDoor
open Go Go.RowKit Go.Dw Go.Shelf
theorem IE (w:World) (g n:Nat) {cs:Array Value} {T:Nat} (hg:w.heap[g]?=some (.cells cs T (0,0))):(w.freeze ⟨g,0,none⟩ n).heap[g]?=some (.cells cs T (0,n))/\(∀k,k≠g->(w.freeze ⟨g,0,none⟩ n).heap[k]?=w.heap[k]?)/\(w.freeze ⟨g,0,none⟩ n).heap.size=w.heap.size/\(w.freeze ⟨g,0,none⟩ n).os=w.os/\(w.freeze ⟨g,0,none⟩ n).tape=w.tape/\(w.freeze ⟨g,0,none⟩ n).output=w.output/\(w.freeze ⟨g,0,none⟩ n).drawn=w.drawn:=by
 unfold World.freeze;by_cases h0:n=0
 ·rw[if_pos h0,h0];exact⟨hg,λ_ _=>rfl,rfl,rfl,rfl,rfl,rfl⟩
 ·rw[if_neg h0];refine⟨?_,λk hk=>?_,sQ,rfl,rfl,rfl,rfl⟩
  ·simp[Array.getElem?_modify,hg]
  ·simp[Array.getElem?_modify,hk.symm]
theorem Ok.freeze {w0 w:World} {s:List Ch} (hok:Ok w0 s w) {i:Nat} {h:Hp} (hi:m8 s i=some (.hp h)) {g n:Nat} {cs:Array Value} {T:Nat} (hg:h g=some (.cells cs T (0,0))) :
  Ok w0 (x9 s i (.hp (h.upd g (.cells cs T (0,n))))) (w.freeze ⟨g,0,none⟩ n):=by
 have hgw:w.heap[g]?=some (.cells cs T (0,0)):=hok.mem i _ hi g _ hg;obtain⟨f1,f2,f3,f4,f5,f6,f7⟩:=IE w g n hgw;refine hok.upd hi _ f4 f5 f6 (by rw[f3];exact k8 _) (by first | exact k8 _ | (rw[f7];exact k8 _)) (λk _ hk=>f2 k λe=>?_) ?_ λk hk=>?_
 ·subst e;rw[show (Ch.hp h).h k=h k from rfl,hg] at hk;cases hk
 ·intro k x hk;simp only[Ch.h,Hp.upd] at hk;split at hk
  ·rename_i e;subst e;cases hk;exact f1
  ·rename_i e;rw[f2 k e];exact hok.mem i _ hi k x hk
 ·left
  simp only[Ch.h,Hp.upd] at hk ⊢;split at hk
  ·rename_i e;subst e;rw[hg];simp
  ·exact hk
theorem OR :∀t:e8,t.flatMap AW=t.map λc:UInt8=>Value.int .u8 c.toNat
 | []=>rfl
 | c::r=>by
  show Value.int .u8 c.toNat::r.flatMap AW=_
  rw[OR r];rfl
set_option maxRecDepth 10000 in
theorem FY {h:Hp} {b:Nat} {dv:Value} {t:e8} (w:World) (hin:h.In w) (hI:kW h b dv t) (h0:t≠[]) :
  j6 Tryz.prog 137 #[pQ b] w (O6 w h λv h' cs=>cs = []/\v=sv t/\∃ys k',h'=(Ch.box b ys 118).h.join k'/\(Ch.box b ys 118).h.dj k'):=by
 refine⟨enters_of (args:=#[pQ b]) Tryz.func137 kr rfl,?_⟩;obtain⟨fl,o,rfl,hdj,_,ho⟩:=hI;have hn:=ho.len;rcases ho.2.2 with ⟨hz,_⟩ | ⟨g,arr,e1,e2,e3,e4,e5,e6⟩
 ·rw[hn] at hz;exact absurd (M0.1 hz) h0
 ·have hok:Ok w [.hp ((Hp.whole w).minus ((Ch.box b [fl,o.v,dv] 118).h.join o.h)),.hp ((Ch.box b [fl,o.v,dv] 118).h.join o.h)] w:=Ok.start2 w hin;have hgj:((Ch.box b [fl,o.v,dv] 118).h.join o.h) g=some (.cells arr 5 (0,0)):=Hp.le_join_r hdj g _ e2;have hcb:w.cell? ⟨b,1,none⟩=some (.slice (some ⟨g,0,none⟩) t.length o.c):=by
   refine hin.cell ((Hp.le_join_l _ _).cell (J3 b (cs:=[fl,o.v,dv]) _ ?_));rw[<-hn,<-e1];rfl
  rw[E3] at e5 e6;have hcells :∀j (x:UInt8),t[j]?=some x->w.cell? ⟨g,j,none⟩=some (.int .u8 x.toNat):=by
   intro j x hx;refine hin.cell ?_;rw[Hp.cell_block hgj];have h1:(t.flatMap AW)[j]?=some (.int .u8 x.toNat):=by
    have e:=OR t;rw[e,G7,hx];rfl
   have hj:j < o.n:=by
    rw[hn];exact (q9.1 hx).1
   rw[<-e6,Na hj] at h1;rw[<-Array.getElem?_toList];exact h1
  refine (PP b g o.c arr t w h0 hcb (hin g _ hgj) om e4 e5 hcells).mono ?_;rintro e w' ⟨rfl,rfl⟩;have hbg:(Ch.box b [fl,o.v,dv] 118).h g=none:=(hdj g).resolve_right (by rw[e2];simp);refine⟨_,_,[],rfl,Ok.freeze (n:=t.length) hok.drew (i:=1) rfl hgj,rfl,rfl,[fl,o.v,dv],o.h.upd g (.cells arr 5 (0,t.length)),?_,λk=>?_⟩
  ·funext k
   by_cases hk:k=g
   ·subst hk;unfold Hp.join Hp.upd;rw[if_pos rfl,hbg];simp
   ·unfold Hp.join Hp.upd;rw[if_neg hk,if_neg hk]
  ·by_cases hk:k=g
   ·subst hk;exact .inl hbg
   ·rcases hdj k with h | h
    ·exact .inl h
    ·right;unfold Hp.upd;rw[if_neg hk];exact h
def xR (t:e8):e8×Int:=if 65536 < t.length then ([],5) else (t,0)
theorem vE {h:Hp} {b:Nat} {dv:Value} {t:e8} (w:World) (hin:h.In w) (hI:kW h b dv t) (h0:t≠[]) :
  j6 Tryz.prog 62 #[pQ b] w (O6 w h λv h' cs=>cs = []/\v=.tuple #[sv (xR t).1,iQ (xR t).2]/\∃ys k',h'=(Ch.box b ys 118).h.join k'/\(Ch.box b ys 118).h.dj k'):=by
 refine enterMZ (cx 13) [pQ b] hin [.tmp 2,.tmp 3] Tryz.func62 ?_;refine k7 _ (λw' hm=>QX w' (hm 1 _ rfl) hI) ?_;unfold xR;refine d8 (λh1=>?_) λh1=>?_
 ·rw[if_pos om];obtain⟨fl,o,rfl,hdj,_⟩:=hI;exact⟨_,[],⟨rfl,rfl,_,_,rfl,hdj⟩,pk [0,1]⟩
 ·rw[if_neg om];refine l6 (i:=1) rfl (λw0 w1 hok=>FY w1 (hok.mem 1 _ rfl) hI h0) ?_;rintro _ h2 _ ⟨rfl,rfl,hX⟩;exact⟨h2,[],⟨rfl,rfl,hX⟩,pk [0,1]⟩
end Go.Proofs.YtpjhmeicbjkcdaaGreatDoor
namespace Go.Proofs.YtpjhmeicbjkcdaaGreatDoor
abbrev KT:=Int×e8
def Hr (t:kX):KT:=(t.1,t.2.1)
def Md (x:KT):e8:=PH x.1 x.2
def YY (L:List KT):Nat:=(L.map λx=>(Md x).length).sum
theorem nC (s:e8) :∀(n k:Nat) (p:Nat×Nat) (out:List kX),s.length - k<=n->(EB s k p out).2.2.2=0->
  ∃T q,EB s k p out=(out++T++[q],0,0,0)/\(∀t∈T,Cx t.1 t.2.1)/\YY (T.map Hr)<=s.length - k/\q.1=5/\q.2.1 = []
 | n,k,p,out,hn,h0=>by
  by_cases hk:s.length<=k
  ·exact⟨[],_,by rw[NM hk,p8],λt h=>absurd h Q0,f8 _,rfl,rfl⟩
  ·have hk:k < s.length:=om
   cases n with
   | zero=>omega
   | succ n=>
    by_cases h1:s.getD k 0=32\/s.getD k 0=10
    ·rw[PV hk h1] at h0 ⊢;obtain⟨T,q,e1,e2,e3,e4⟩:=nC s n (k+1) _ out om h0;exact⟨T,q,e1,e2,om,e4⟩
    ·by_cases h2:s.getD k 0=35
     ·rw[TW hk h2] at h0 ⊢;have hr0:=(bE (λc=>!decide (c=10)) (s.drop k)).2 ⟨by rw[k9];omega,by rw[cL,G3,h2];rfl⟩;obtain⟨T,q,e1,e2,e3,e4⟩:=nC s n _ _ out om h0;exact⟨T,q,e1,e2,om,e4⟩
     ·have hb:JV (s.getD k 0):=⟨λc=>h1 (.inl c),λc=>h1 (.inr c),h2⟩
      rw[NL hk hb] at h0 ⊢;by_cases h3:(A6 (s.drop k)).2.2.2≠0
      ·rw[if_pos h3] at h0;exact absurd h0 h3
      ·rw[if_neg h3] at h0 ⊢;have h3:(A6 (s.drop k)).2.2.2=0:=l9.1 h3;have hf:=YU hk hb h3;obtain⟨ha,ha2,ha3⟩:=PM (s.drop k) (by rw[k9];omega) (by rw[cL,G3];exact hb) h3;obtain⟨T,q,e1,e2,e3,e4⟩:=nC s n _ _ _ om h0;rw[e1];refine⟨((A6 (s.drop k)).2.1,(A6 (s.drop k)).2.2.1,p.1,p.2)::T,q,sQ,λt ht=>?_,?_,e4⟩
       ·rcases A8.1 ht with rfl | ht
        ·exact ha
        ·exact e2 t ht
       ·rw[N7];have:YY (Hr ((A6 (s.drop k)).2.1,(A6 (s.drop k)).2.2.1,p.1,p.2)::T.map Hr)=(A6 (s.drop k)).1+YY (T.map Hr):=by
         rw[ha3];unfold YY;simp[Md,Hr]
        omega
end Go.Proofs.YtpjhmeicbjkcdaaGreatDoor
namespace Go.Proofs.YtpjhmeicbjkcdaaGreatDoor
open Go
theorem IY (A B:e8):bO (A++47::B) A.length=(cM A && (cM B && (decide (1 < T8 B) && decide (I5 (T8 A) (T8 B)=1)))):=by
 unfold bO;have h1 : ¬ (A++47::B).length=A.length:=by rw[d6,d7];omega
 have h2:(A++47::B).drop (A.length+1)=B:=by rw[<-R2,FJ rfl];rfl
 rw[if_neg h1,Y7 rfl,h2]
structure XT (x:e8) (sg:Bool) (t:e8):Prop where
 e:x=(if sg=true then [45] else [])++t
 d :∃k,Fs t k/\bO t k=true
 z:sg=true->t≠[48]
end Go.Proofs.YtpjhmeicbjkcdaaGreatDoor
namespace Go.Proofs.YtpjhmeicbjkcdaaGreatDoor
open Go
theorem aY {s:e8} (h:H8 s=true):PW s/\s.length<=40/\0 < s.length:=by
 unfold H8 at h;rw[k6,k6,decide_eq_true_eq,decide_eq_true_eq] at h;obtain⟨h0,h1,h2⟩:=h;refine⟨λc hc hb=>?_,h1,G2.2 h0⟩;have h3:s.any jW=false:=by simpa using h2
 have:=J8.1 h3 c hc;unfold jW at this;rw[U8,decide_eq_true_eq,decide_eq_true_eq] at this;unfold MN at hb;omega
end Go.Proofs.YtpjhmeicbjkcdaaGreatDoor
namespace Go.Proofs.YtpjhmeicbjkcdaaGreatDoor
open Go
def XY (n:Int):Nat->Ex->Prop
 | 0,_=>False
 | d+1,.mk op f fac args=>bH n op f fac args.length=0/\∀y∈args,XY n d y
theorem OU {n:Int} {d:Nat} (h :∀y k,(M9 n d k y).1=0->XY n d y) :∀(L:List Ex) (k:Nat),(Z2 (M9 n d) k L).1=0->∀y∈L,XY n d y
 | [],_,_=>λy hy=>by cases hy
 | x::L,k,he=>by
  unfold Z2 at he;by_cases h0:(M9 n d k x).1≠0
  ·rw[if_pos h0] at he;exact absurd he h0
  ·rw[if_neg h0] at he;intro y hy;rcases A8.1 hy with rfl | hy
   ·exact h y k (l9.1 h0)
   ·exact OU h L _ he y hy
theorem xC {n:Int} :∀(d k:Nat) (x:Ex),(M9 n d k x).1=0->XY n d x
 | 0,k,x,h=>by
  unfold M9 at h;exact absurd h (show ¬ (15:Int)=0 by decide)
 | d+1,k,.mk op f fac args,h=>by
  unfold M9 at h;split at h
  ·exact absurd h (show ¬ (6:Int)=0 by decide)
  ·split at h
   ·rename_i h2;exact absurd h h2
   ·rename_i h2
    exact⟨l9.1 h2,OU (λy k hy=>xC d k y hy) args _ h⟩
structure wR (n:Int) (f:gG):Prop where
 c:I7 f.1=0
 l:f.2.length<=64
 t :∀i,i < f.2.length->lJ n f.2 i=0
theorem ID {n:Int} {f:gG} (h:jD n f=0):wR n f:=by
 unfold jD at h;split at h
 ·rename_i h2;exact absurd h h2
 ·rename_i h1
  split at h
  ·exact absurd h dc
  ·rename_i h2
   exact⟨l9.1 h1,om,V8.1 h⟩
theorem Dd {l:List JL} {i:Nat} (h:i < l.length):l.getD i (0,[])=l[i]:=by rw[i7,i6 h];rfl
theorem wR.at {n:Int} {f:gG} (g:wR n f) {i:Nat} (hi:i < f.2.length):0<=f.2[i].1/\f.2[i].1 < n/\I7 f.2[i].2=0/\f.2[i].2≠[48]/\(0 < i->(f.2.getD (i - 1) (0,[])).1 < f.2[i].1):=by
 have h:=g.t i hi;unfold lJ at h;dsimp only at h;rw[Dd hi] at h;split at h
 ·exact absurd h dc
 ·rename_i h1
  split at h
  ·exact absurd h dc
  ·rename_i h2
   split at h
   ·rename_i h3;exact absurd h h3
   ·rename_i h3
    split at h
    ·exact absurd h dc
    ·rename_i h4
     exact⟨om,om,l9.1 h3,h4,λh0=>by omega⟩
theorem wR.all {n:Int} {f:gG} (g:wR n f) :∀t∈f.2,(0<=t.1/\t.1 < n)/\I7 t.2=0:=by
 intro t ht;obtain⟨i,hi,rfl⟩:=Q1.1 ht;obtain⟨h1,h2,h3,_⟩:=g.at hi;exact⟨⟨h1,h2⟩,h3⟩
theorem yS {n:Int} {f:gG} {fac:e8} {args:List Ex} (h:bH n 0 f fac args.length=0):wR n f/\fac = []/\args = []:=by
 unfold bH at h;rw[if_neg dc,if_pos rfl] at h;split at h
 ·exact absurd h dc
 ·rename_i h1
  refine⟨ID h,j9 λc=>h1 (.inr c),?_⟩;cases args with
  | nil=>rfl
  | cons x l=>exact absurd (.inl sQ) h1
theorem KZ {n op:Int} {f:gG} {fac:e8} {args:List Ex} (h0:op≠0) (h:bH n op f fac args.length=0):(1<=op/\op<=5)/\f=([],[])/\(op≠2->fac = [])/\(op=2->I7 fac=0)/\0 < args.length/\((op=2\/op=5)->args.length=1):=by
 unfold bH at h;rw[if_neg h0] at h;split at h
 ·exact absurd h dc
 ·rename_i h1
  split at h
  ·exact absurd h dc
  ·rename_i h2
   split at h
   ·exact absurd h dc
   ·rename_i h3
    have hf1:f.1 = []:=j9 λc=>h2 (.inl (.inl c));have hf2:f.2 = []:=by
     cases hh:f.2 with
     | nil=>rfl
     | cons x l=>exact absurd (.inl (.inr (by rw[hh];simp))) h2
    refine⟨om,by rw[<-hf1,<-hf2],λh5=>j9 λc=>h2 (.inr ⟨c,h5⟩),λh5=>?_,?_,λh5=>?_⟩
    ·rw[if_pos h5] at h;exact h
    ·exact F8 λc=>h3 (.inl c)
    ·have hp:args.length≠0:=λc=>h3 (.inl c);have : ¬ 1 < args.length:=λc=>h3 (.inr ⟨h5,c⟩);omega
end Go.Proofs.YtpjhmeicbjkcdaaGreatDoor
namespace Go.Proofs.YtpjhmeicbjkcdaaGreatDoor
open Go Go.RowKit Go.Dw
def Hq (z:Int):ByteArray×Value:=(bs (jP z),iQ z)
def lE:List Int:=[1,2,3,4,5]
set_option maxRecDepth 10000 in
theorem xJ (w:World):j6 Tryz.prog 135 #[] w (fD w λv cs=>∃b h,v=.map (some b)/\cs = [.hp h]/\DF h b (lE.map Hq)):=by
 refine enterZ (cx 3) [] [.tmp 0] Tryz.func135 ?_;refine Kd λb h0 hM0=>?_;refine FT (i:=1) Tryz.underlying203 Tryz.underlying9 rfl hM0 _ _ rfl λh1 hM1=>?_;refine FT (i:=1) Tryz.underlying203 Tryz.underlying9 rfl hM1 _ _ (by decide +kernel) λh2 hM2=>?_;refine FT (i:=1) Tryz.underlying203 Tryz.underlying9 rfl hM2 _ _ (by decide +kernel) λh3 hM3=>?_;refine FT (i:=1) Tryz.underlying203 Tryz.underlying9 rfl hM3 _ _ (by decide +kernel) λh4 hM4=>?_;refine FT (i:=1) Tryz.underlying203 Tryz.underlying9 rfl hM4 _ _ (by decide +kernel) λh5 hM5=>?_;exact⟨[.hp h5],⟨b,h5,rfl,rfl,hM5⟩,pk [0,1]⟩
theorem eZ (x:e8) :∀(L:List e8),O5 (L++[x])=if L = [] then x else O5 L++(44::32::x)
 | []=>rfl
 | [y]=>rfl
 | y::z::L=>by
  have ih:=eZ x (z::L);rw[if_neg sQ] at ih;rw[if_neg sQ];show y++44::32::O5 ((z::L)++[x])=(y++44::32::O5 (z::L))++_
  rw[ih,o6];rfl
theorem tA :∀(A B:List e8),(O5 A).length<=(O5 (A++B)).length
 | [],_=>f8 _
 | [x],[]=>k8 _
 | [x],y::B=>by
  show x.length<=(x++44::32::O5 (y::B)).length
  rw[d6];omega
 | x::y::A,B=>by
  have:=tA (y::A) B;show (x++44::32::O5 (y::A)).length<=(x++44::32::O5 ((y::A)++B)).length
  simp only[d6,d7];omega
set_option maxRecDepth 10000 in
set_option maxHeartbeats 2000000 in
theorem CT {b:Nat} {ad:Option Addr} {nd cd:Nat} {D:List S1} (hdn :∀d∈D,d.1.length < 1000000) :∀(d e:Nat) (h:Hp) (t:e8) (x:Ex) (cs:List Value) (w:World),h.In w->kW h b (.slice ad nd cd) t->XY D.length d x->AS x->P5 e ((Hp.whole w).minus h) x cs->Sl (B0 O1) 4 ((Hp.whole w).minus h) ad nd cd D->t.length+(E7 (D6 D) d x).length < 1000000000->
  j6 Tryz.prog 61 #[pQ b,.agg cs.toArray] w (O6 w h λ_ h' cs=>cs = []/\kW h' b (.slice ad nd cd) (t++E7 (D6 D) d x)):=by
 intro d;induction d with
 | zero=>intro e h t x cs w _ _ hg;exact hg.elim
 | succ d ih=>
  intro e h t x cs w hin hI hg hx he hD hlen;match e,he with
  | e+1,he=>
  obtain⟨op,f,fac,args⟩:=x;obtain⟨a,n,c,a1,n1,c1,rfl,hf,ha⟩:=he;cases hx with
  | mk hxf hxs hxn hxa=>
  obtain⟨hnode,hall⟩:=hg;have hla:=ha.len;refine enterMZ (cx 61) [pQ b,.agg #[iQ op,sv f.1,.slice a n c,sv fac,.slice a1 n1 c1]] hin [] Tryz.func61 ?_;obtain⟨c0,hc0⟩ :∃c0,c0=(Hp.whole w).minus h:=⟨_,rfl⟩
  rw[<-hc0] at hf ha hD ⊢;intro b3;refine d8 (λh1=>?_) λh1=>?_
  ·subst h1;obtain⟨g,_,_⟩:=yS hnode;have e1:E7 (D6 D) (d+1) (.mk 0 f fac args)=bZ (D6 D) f:=if_pos rfl;rw[e1] at hlen ⊢;refine l6 (i:=1) rfl (λw0 w1 hok=>CR (fc:=f.1) (L:=f.2) w1 (hok.mem 1 _ rfl) hI (hf.mono (j7 _) (Hp.le_minus (hok.mem 0 _ rfl).whole (hok.disj 0 1 _ _ dc rfl rfl))) (hD.mono (j7 _) (Hp.le_minus (hok.mem 0 _ rfl).whole (hok.disj 0 1 _ _ dc rfl rfl)))
    (by have:=g.l;omega) hdn (λt ht=>(g.all t ht).1) hlen) ?_
   rintro _ h2 _ ⟨rfl,hI2⟩;exact⟨h2,[],⟨rfl,hI2⟩,pk [0,1]⟩
  obtain⟨ho,_,hfa,_,_,_⟩:=KZ h1 hnode;have hxp:E7 (D6 D) (d+1) (.mk op f fac args)=jP op++((if op=2 then 32::(fac++[32]) else [])++(40::(O5 (args.map (E7 (D6 D) d))++[41]))):=if_neg h1;rw[hxp] at hlen ⊢;simp only[d6,d7,d9] at hlen;refine call (λw' hm=>xJ w') ?_;rintro _ _ ⟨bm,hm0,rfl,rfl,hM⟩;refine Gy (i:=3) Tryz.underlying203 rfl hM λr kk hIt=>?_;have hmem:op∈lE:=by
   have:op=1\/op=2\/op=3\/op=4\/op=5:=om
   rcases this with rfl | rfl | rfl | rfl | rfl <;> decide
  refine u6.mk (List Int×Hp×Hp×Option (ByteArray×Value)) (λg=>[(0,.v (pQ b)),(3,.bx 2 0),(16,.v (pQ r))]) (λg=>[.hp c0,.hp g.2.1,.box b3 [iQ op,sv f.1,.slice a n c,sv fac,.slice a1 n1 c1] 44,.hp hm0,.hp g.2.2.1])
   (λg=>Ix hm0 g.2.2.1 r bm (g.1.map Hq) g.2.2.2/\g.1.Sublist lE/\kW g.2.1 b (.slice ad nd cd) (t++if op∈g.1 then [] else jP op)) (λg=>g.1.length) (lE,h,kk,none) ⟨hIt,List.Sublist.refl _,by rw[if_pos hmem,p8];exact hI⟩ (v6.mk (pj [0,1,2,3,4]) rfl rfl) ?_
  rintro⟨L,h,hi,cur⟩ ⟨hIt,hsub,hI⟩;dsimp only at hIt hsub hI ⊢;refine En (i:=3) (j:=4) rfl rfl hIt (λh0=>?_) λl1 k v l2 hi' hsp hIt'=>?_
  ·have hL:L = []:=List.map_eq_nil_iff.1 h0;subst hL;rw[if_neg sQ] at hI;refine d8 (λh2=>?_) λh2=>?_
   ·rw[if_pos h2] at hlen;simp only[d6,d7,d9] at hlen;intro b36;refine aL (i:=1) (j:=5) dc rfl hI (L:=[[32],fac,[32]]) rfl rfl sQ (by simp;omega) λv h hI=>?_;obtain⟨t2,ht2⟩ :∃t2,t2=t++(jP op++(if op=2 then 32::(fac++[32]) else [])):=⟨_,rfl⟩
    have e2:t++jP op++[[32],fac,[32]].flatten=t2:=by rw[ht2,if_pos h2];simp
    have hl2:t2.length=t.length+((jP op).length+(fac.length+2)):=by rw[<-e2];simp[nX]
    rw[e2] at hI;intro b39;refine aL (i:=1) (j:=6) dc rfl hI (L:=[[40]]) rfl rfl sQ (by have e1:([[40]]:List e8).flatten.length=1:=rfl;omega) λv h3 hI3=>?_;refine u6.mk (Nat×Hp) (λg=>[(0,.v (pQ b)),(42,.v (.slice a1 n1 c1)),(43,.v (iQ n1)),(44,.v (iQ g.1))]) (λg=>[.hp c0,.hp g.2])
     (λg=>g.1<=n1/\kW g.2 b (.slice ad nd cd) (t2++40::O5 ((args.take g.1).map (E7 (D6 D) d)))) (λg=>n1 - g.1) (0,h3) ⟨f8 _,hI3⟩ (v6.mk (pj [0,1]) rfl rfl) ?_
    rintro⟨k,h3⟩ ⟨hk,hI3⟩;dsimp only at hk hI3 ⊢;refine d8 (λg1=>?_) λg1=>?_
    ·have hkl:k < args.length:=om
     obtain⟨y,hy⟩ :∃y,y=args[k]:=⟨_,rfl⟩
     have hym:y∈args:=by rw[hy];exact j0 hkl
     have htk:(args.take (k+1)).map (E7 (D6 D) d)=(args.take k).map (E7 (D6 D) d)++[E7 (D6 D) d y]:=by rw[I8 args k hkl,E9,<-hy];rfl
     have hcl:=tA ((args.take (k+1)).map (E7 (D6 D) d)) ((args.drop (k+1)).map (E7 (D6 D) d));rw[<-E9,E4] at hcl;rw[htk,eZ] at hcl;refine I1 cQ (e:=44) rfl ha k rfl hkl λb9 o9 cs hcs hR hcell=>?_;rw[<-hy] at hR;match e,hR with
     | e+1,hR=>
     obtain⟨op',f',fac',args'⟩:=y;have hR':=hR;obtain⟨a',n',c',a1',n1',c1',rfl,hf',ha'⟩:=hR;refine T7 cQ (i:=0) rfl hcell rfl ?_;intro b7;refine d8 (λg3=>?_) λg3=>?_
     ·intro b52;have hne:(args.take k).map (E7 (D6 D) d)≠[]:=by
       intro c;have:=congrArg F7 c;rw[l7,j8,d9] at this;omega
      rw[if_neg hne,d6,d7,d7] at hcl;refine aL (i:=1) (j:=3) dc rfl hI3 (L:=[[44,32]]) rfl rfl sQ (by have e1:([[44,32]]:List e8).flatten.length=2:=rfl;rw[d6,d7];omega) λv h4 hI4=>?_;refine l6 (i:=1) rfl (λw0 w1 hok=>ih (e+1) h4 _ _ _ w1 (hok.mem 1 _ rfl) hI4 (hall _ hym) (hxa _ hym) (q7 _ _ _ _ _ (Hp.le_minus (hok.mem 0 _ rfl).whole (hok.disj 0 1 _ _ dc rfl rfl)) hR') (hD.mono (j7 _) (Hp.le_minus (hok.mem 0 _ rfl).whole (hok.disj 0 1 _ _ dc rfl rfl)))
       (by have e1:([[44,32]]:List e8).flatten.length=2:=rfl;rw[d6,d6,d7];omega)) ?_
      rintro _ h5 _ ⟨rfl,hI5⟩;refine nwo ?_;refine⟨(k+1,h5),⟨by dsimp only;omega,?_⟩,by dsimp only;omega,v6.mk (pj [0,1]) rfl rfl⟩;dsimp only;rw[htk,eZ,if_neg hne];have e1:t2++40::(O5 ((args.take k).map (E7 (D6 D) d))++44::32::E7 (D6 D) d (.mk op' f' fac' args'))=t2++40::O5 ((args.take k).map (E7 (D6 D) d))++([[44,32]]:List e8).flatten++E7 (D6 D) d (.mk op' f' fac' args'):=sQ
      rw[e1];exact hI5
     ·have hk0:k=0:=om
      subst hk0;refine l6 (i:=1) rfl (λw0 w1 hok=>ih (e+1) h3 _ _ _ w1 (hok.mem 1 _ rfl) hI3 (hall _ hym) (hxa _ hym) (q7 _ _ _ _ _ (Hp.le_minus (hok.mem 0 _ rfl).whole (hok.disj 0 1 _ _ dc rfl rfl)) hR') (hD.mono (j7 _) (Hp.le_minus (hok.mem 0 _ rfl).whole (hok.disj 0 1 _ _ dc rfl rfl)))
       (by
        have hcl:(E7 (D6 D) d (.mk op' f' fac' args')).length<=_:=hcl;rw[d6];show t2.length+((40::([]:e8)).length)+_ < _
        have e1:(40::([]:e8)).length=1:=rfl;omega)) ?_
      rintro _ h5 _ ⟨rfl,hI5⟩;refine nwo ?_;refine⟨(0+1,h5),⟨by dsimp only;omega,?_⟩,by dsimp only;omega,v6.mk (pj [0,1]) rfl rfl⟩;dsimp only;rw[htk];have e1:t2++40::O5 ((args.take 0).map (E7 (D6 D) d)++[E7 (D6 D) d (.mk op' f' fac' args')])=t2++40::O5 ((args.take 0).map (E7 (D6 D) d))++E7 (D6 D) d (.mk op' f' fac' args'):=by simp[O5]
      rw[e1];exact hI5
    ·have hk2:k=args.length:=om
     subst hk2;rw[p9] at hI3;intro b59;refine aL (i:=1) (j:=2) dc rfl hI3 (L:=[[41]]) rfl rfl sQ (by have e1:([[41]]:List e8).flatten.length=1:=rfl;rw[d6,d7];omega) λv h4 hI4=>?_;refine⟨h4,[],⟨rfl,?_⟩,pk [0,1]⟩;have e1:t++(jP op++((if op=2 then 32::(fac++[32]) else [])++(40::(O5 (args.map (E7 (D6 D) d))++[41]))))=t2++40::O5 (args.map (E7 (D6 D) d))++([[41]]:List e8).flatten:=by rw[ht2];simp
     rw[e1];exact hI4
   ·rw[if_neg h2] at hlen;simp only[d9] at hlen;obtain⟨t2,ht2⟩ :∃t2,t2=t++(jP op++(if op=2 then 32::(fac++[32]) else [])):=⟨_,rfl⟩
    have e2:t++jP op=t2:=by rw[ht2,if_neg h2];simp
    have hl2:t2.length=t.length+(jP op).length:=by rw[<-e2];simp
    rw[e2] at hI;intro b39;refine aL (i:=1) (j:=5) dc rfl hI (L:=[[40]]) rfl rfl sQ (by have e1:([[40]]:List e8).flatten.length=1:=rfl;omega) λv h3 hI3=>?_;refine u6.mk (Nat×Hp) (λg=>[(0,.v (pQ b)),(42,.v (.slice a1 n1 c1)),(43,.v (iQ n1)),(44,.v (iQ g.1))]) (λg=>[.hp c0,.hp g.2])
     (λg=>g.1<=n1/\kW g.2 b (.slice ad nd cd) (t2++40::O5 ((args.take g.1).map (E7 (D6 D) d)))) (λg=>n1 - g.1) (0,h3) ⟨f8 _,hI3⟩ (v6.mk (pj [0,1]) rfl rfl) ?_
    rintro⟨k,h3⟩ ⟨hk,hI3⟩;dsimp only at hk hI3 ⊢;refine d8 (λg1=>?_) λg1=>?_
    ·have hkl:k < args.length:=om
     obtain⟨y,hy⟩ :∃y,y=args[k]:=⟨_,rfl⟩
     have hym:y∈args:=by rw[hy];exact j0 hkl
     have htk:(args.take (k+1)).map (E7 (D6 D) d)=(args.take k).map (E7 (D6 D) d)++[E7 (D6 D) d y]:=by rw[I8 args k hkl,E9,<-hy];rfl
     have hcl:=tA ((args.take (k+1)).map (E7 (D6 D) d)) ((args.drop (k+1)).map (E7 (D6 D) d));rw[<-E9,E4] at hcl;rw[htk,eZ] at hcl;refine I1 cQ (e:=44) rfl ha k rfl hkl λb9 o9 cs hcs hR hcell=>?_;rw[<-hy] at hR;match e,hR with
     | e+1,hR=>
     obtain⟨op',f',fac',args'⟩:=y;have hR':=hR;obtain⟨a',n',c',a1',n1',c1',rfl,hf',ha'⟩:=hR;refine T7 cQ (i:=0) rfl hcell rfl ?_;intro b7;refine d8 (λg3=>?_) λg3=>?_
     ·intro b52;have hne:(args.take k).map (E7 (D6 D) d)≠[]:=by
       intro c;have:=congrArg F7 c;rw[l7,j8,d9] at this;omega
      rw[if_neg hne,d6,d7,d7] at hcl;refine aL (i:=1) (j:=3) dc rfl hI3 (L:=[[44,32]]) rfl rfl sQ (by have e1:([[44,32]]:List e8).flatten.length=2:=rfl;rw[d6,d7];omega) λv h4 hI4=>?_;refine l6 (i:=1) rfl (λw0 w1 hok=>ih (e+1) h4 _ _ _ w1 (hok.mem 1 _ rfl) hI4 (hall _ hym) (hxa _ hym) (q7 _ _ _ _ _ (Hp.le_minus (hok.mem 0 _ rfl).whole (hok.disj 0 1 _ _ dc rfl rfl)) hR') (hD.mono (j7 _) (Hp.le_minus (hok.mem 0 _ rfl).whole (hok.disj 0 1 _ _ dc rfl rfl)))
       (by have e1:([[44,32]]:List e8).flatten.length=2:=rfl;rw[d6,d6,d7];omega)) ?_
      rintro _ h5 _ ⟨rfl,hI5⟩;refine nwo ?_;refine⟨(k+1,h5),⟨by dsimp only;omega,?_⟩,by dsimp only;omega,v6.mk (pj [0,1]) rfl rfl⟩;dsimp only;rw[htk,eZ,if_neg hne];have e1:t2++40::(O5 ((args.take k).map (E7 (D6 D) d))++44::32::E7 (D6 D) d (.mk op' f' fac' args'))=t2++40::O5 ((args.take k).map (E7 (D6 D) d))++([[44,32]]:List e8).flatten++E7 (D6 D) d (.mk op' f' fac' args'):=sQ
      rw[e1];exact hI5
     ·have hk0:k=0:=om
      subst hk0;refine l6 (i:=1) rfl (λw0 w1 hok=>ih (e+1) h3 _ _ _ w1 (hok.mem 1 _ rfl) hI3 (hall _ hym) (hxa _ hym) (q7 _ _ _ _ _ (Hp.le_minus (hok.mem 0 _ rfl).whole (hok.disj 0 1 _ _ dc rfl rfl)) hR') (hD.mono (j7 _) (Hp.le_minus (hok.mem 0 _ rfl).whole (hok.disj 0 1 _ _ dc rfl rfl)))
       (by
        have hcl:(E7 (D6 D) d (.mk op' f' fac' args')).length<=_:=hcl;rw[d6];show t2.length+((40::([]:e8)).length)+_ < _
        have e1:(40::([]:e8)).length=1:=rfl;omega)) ?_
      rintro _ h5 _ ⟨rfl,hI5⟩;refine nwo ?_;refine⟨(0+1,h5),⟨by dsimp only;omega,?_⟩,by dsimp only;omega,v6.mk (pj [0,1]) rfl rfl⟩;dsimp only;rw[htk];have e1:t2++40::O5 ((args.take 0).map (E7 (D6 D) d)++[E7 (D6 D) d (.mk op' f' fac' args')])=t2++40::O5 ((args.take 0).map (E7 (D6 D) d))++E7 (D6 D) d (.mk op' f' fac' args'):=by simp[O5]
      rw[e1];exact hI5
    ·have hk2:k=args.length:=om
     subst hk2;rw[p9] at hI3;intro b59;refine aL (i:=1) (j:=2) dc rfl hI3 (L:=[[41]]) rfl rfl sQ (by have e1:([[41]]:List e8).flatten.length=1:=rfl;rw[d6,d7];omega) λv h4 hI4=>?_;refine⟨h4,[],⟨rfl,?_⟩,pk [0,1]⟩;have e1:t++(jP op++((if op=2 then 32::(fac++[32]) else [])++(40::(O5 (args.map (E7 (D6 D) d))++[41]))))=t2++40::O5 (args.map (E7 (D6 D) d))++([[41]]:List e8).flatten:=by rw[ht2];simp
     rw[e1];exact hI4
  ·obtain⟨L1,L2,rfl,e1,e2⟩:=List.map_eq_append_iff.1 hsp;obtain⟨z,L2,rfl,e3,e4⟩:=List.map_eq_cons_iff.1 e2;have hkz:k=bs (jP z):=(congrArg Prod.fst e3).symm;have hvz:v=iQ z:=(congrArg Prod.snd e3).symm;subst hkz;subst hvz;have hnd:(L1++z::L2).Nodup:=hsub.nodup dc;refine As (i:=3) (j:=4) rfl rfl hIt' ?_;have hsub2:(L1++L2).Sublist lE:=List.Sublist.trans (List.Sublist.append (List.Sublist.refl L1) (List.sublist_cons_self z L2)) hsub;rw[<-e1,<-e4,<-E9] at hIt';refine d8 (λh3=>?_) λh3=>?_
   ·subst h3;have hnm:z∉L1++L2:=by
     rw[List.nodup_append] at hnd;obtain⟨_,h2,h3⟩:=hnd;rw[List.nodup_cons] at h2;intro hm;rcases G1.1 hm with hm | hm
     ·exact h3 z hm z sQ rfl
     ·exact h2.1 hm
    rw[if_pos sQ,p8] at hI;intro b28;refine aL (i:=1) (j:=5) dc rfl hI (L:=[jP z]) rfl rfl sQ (by simp;omega) λv h2 hI2=>?_;refine⟨(L1++L2,h2,hi',_),⟨hIt',hsub2,?_⟩,by dsimp only;simp,v6.mk (pj [0,1,2,3,4]) rfl rfl⟩;dsimp only;rw[if_neg hnm];have e5:([jP z]:List e8).flatten=jP z:=sQ
    rw[<-e5];exact hI2
   ·refine⟨(L1++L2,h,hi',_),⟨hIt',hsub2,?_⟩,by dsimp only;simp,v6.mk (pj [0,1,2,3,4]) rfl rfl⟩;dsimp only;have e6:(if op∈L1++L2 then ([]:e8) else jP op)=if op∈L1++z::L2 then [] else jP op:=by
     have:op∈L1++z::L2↔op∈L1++L2:=by
      simp only[G1,A8];exact⟨λh=>h.elim .inl λh=>h.elim (λc=>absurd c.symm h3) .inr,λh=>h.elim .inl λh=>.inr (.inr h)⟩
     by_cases c:op∈L1++L2
     ·rw[if_pos c,if_pos (this.2 c)]
     ·rw[if_neg c,if_neg (λd=>c (this.1 d))]
    rw[e6];exact hI
end Go.Proofs.YtpjhmeicbjkcdaaGreatDoor
namespace Go.Dw
open Go Go.RowKit
theorem Ok.exch {w0 w:World} {s:List Ch} (hok:Ok w0 s w) {i j:Nat} {c d c' d':Ch} (_:i≠j) (hi:m8 s i=some c) (hj:m8 s j=some d)
  (h1 :∀k o,c'.h k=some o->c.h k=some o\/d.h k=some o) (h2 :∀k o,d'.h k=some o->c.h k=some o\/d.h k=some o) (hd:c'.h.dj d'.h):Ok w0 (x9 (x9 s i c') j d') w:=by
 have hget :∀{k x},m8 (x9 (x9 s i c') j d') k=some x->(k=j/\x=d')\/(k=i/\k≠j/\x=c')\/(k≠i/\k≠j/\m8 s k=some x):=by
  intro k x h;rw[F9] at h;by_cases hk:j=k
  ·rw[if_pos hk] at h;cases hs:m8 (x9 s i c') k with
   | none=>rw[hs] at h;cases h
   | some y=>rw[hs] at h;exact .inl ⟨hk.symm,(Y4 h).symm⟩
  ·rw[if_neg hk,F9] at h;by_cases hk2:i=k
   ·rw[if_pos hk2] at h;cases hs:m8 s k with
    | none=>rw[hs] at h;cases h
    | some y=>rw[hs] at h;exact .inr (.inl ⟨hk2.symm,λe=>hk e.symm,(Y4 h).symm⟩)
   ·rw[if_neg hk2] at h;exact .inr (.inr ⟨λe=>hk2 e.symm,λe=>hk e.symm,h⟩)
 have rQ :∀{x:Ch} (hx :∀k o,x.h k=some o->c.h k=some o\/d.h k=some o) {k y},k≠i->k≠j->m8 s k=some y->x.h.dj y.h:=by
  intro x hx k y h1 h2 hy b;cases hb:x.h b with
  | none=>exact .inl rfl
  | some o=>
   right
   rcases hx b o hb with h | h
   ·exact (hok.disj i k c y h1.symm hi hy b).resolve_left (by rw[h];simp)
   ·exact (hok.disj j k d y h2.symm hj hy b).resolve_left (by rw[h];simp)
 have inw :∀{x:Ch} (hx :∀k o,x.h k=some o->c.h k=some o\/d.h k=some o),x.h.In w:=by
  intro x hx b o hb;rcases hx b o hb with h | h
  ·exact hok.mem i c hi b o h
  ·exact hok.mem j d hj b o h
 refine⟨hok.os,hok.tape,hok.output,hok.size,hok.drawn,λk x hx=>?_,λk l x y hkl hx hy=>?_⟩
 ·rcases hget hx with ⟨_,rfl⟩ | ⟨_,_,rfl⟩ | ⟨_,_,h⟩
  ·exact inw h2
  ·exact inw h1
  ·exact hok.mem k x h
 ·rcases hget hx with ⟨e1,rfl⟩ | ⟨e1,_,rfl⟩ | ⟨n1,n2,h⟩ <;> rcases hget hy with ⟨e3,rfl⟩ | ⟨e3,_,rfl⟩ | ⟨n3,n4,h'⟩
  ·exact absurd (e1.trans e3.symm) hkl
  ·exact hd.symm
  ·exact rQ h2 n3 n4 h'
  ·exact hd
  ·exact absurd (e1.trans e3.symm) hkl
  ·exact rQ h1 n3 n4 h'
  ·exact (rQ h2 n1 n2 h).symm
  ·exact (rQ h1 n1 n2 h).symm
  ·exact hok.disj k l x y hkl h h'
theorem Ok.le2 {w0 w:World} {s:List Ch} (hok:Ok w0 s w) {i j m:Nat} {c d x:Ch} (hmi:m≠i) (hmj:m≠j) (hi:m8 s i=some c) (hj:m8 s j=some d) (hm:m8 s m=some x):x.h.le ((Hp.whole w).minus (c.h.join d.h)):=
 Hp.le_minus (hok.mem m x hm).whole λb=>by
  rcases hok.disj m i x c hmi hm hi b with h | h
  ·exact .inl h
  ·rcases hok.disj m j x d hmj hm hj b with h' | h'
   ·exact .inl h'
   ·right;unfold Hp.join;rw[h,h']
theorem Q8.emp {P:Program} {s:List Ch} {f:Nat} {args:List Value} {q:TV->List Ch->Prop} (h:Q8 P (s++[.hp Hp.emp]) f args q):Q8 P s f args q:=by
 obtain⟨h⟩:=h;refine⟨λw0 w hok=>⟨(h w0 w hok.emp).1,(h w0 w hok.emp).2.mono λe w' he=>?_⟩⟩;obtain⟨v,s',e1,h2,h3,h4⟩:=he;exact⟨v,s',e1,h2,(J6.app s _).trans h3,h4⟩
end Go.Dw
namespace Go.Proofs.YtpjhmeicbjkcdaaGreatDoor
open Go Go.RowKit Go.Dw
def BF (b:Nat) (fl:Value):Prop:=fl=.pointer none\/fl=pQ b
theorem XJ {s:List Ch} {i j b f:Nat} {xs:List Value} {k:Hp} {args:List Value} {R:Value->List Value->Hp->Prop} {q:TV->List Ch->Prop} (hij:i≠j) (hi:m8 s i=some (.box b xs 118)) (hj:m8 s j=some (.hp k))
  (hc :∀w0 w,Ok w0 s w->j6 Tryz.prog f args.toArray w (O6 w ((Ch.box b xs 118).h.join k) λv h' cs=>cs = []/\∃ys k',h'=(Ch.box b ys 118).h.join k'/\(Ch.box b ys 118).h.dj k'/\R v ys k'))
  (hq :∀v ys k',R v ys k'->q (.v v) (x9 (x9 s i (.box b ys 118)) j (.hp k'))):Q8 Tryz.prog s f args q:=by
 refine⟨λw0 w hok=>⟨(hc w0 w hok).1,(hc w0 w hok).2.mono λe w' he=>?_⟩⟩;obtain⟨v,h',cs,rfl,h1,rfl,ys,k',rfl,hdj,hR⟩:=he;have a1:=hok.exch (c':=.hp ((Ch.box b xs 118).h.join k)) (d':=.hp Hp.emp) hij hi hj (λn x hx=>by
  have hx:((Ch.box b xs 118).h.join k) n=some x:=hx;unfold Hp.join at hx;split at hx
  ·rename_i y hy;rw[hy];exact .inl hx
  ·exact .inr hx) (λk x hx=>by cases hx) (λk=>.inr rfl)
 have g1:m8 (x9 (x9 s i (.hp ((Ch.box b xs 118).h.join k))) j (.hp Hp.emp)) i=some (.hp ((Ch.box b xs 118).h.join k)):=by
  rw[F9,if_neg hij.symm,F9,if_pos rfl,hi];rfl
 have a2:=a1.callM g1 h1;rw[p8] at a2;have g2:m8 (x9 (x9 (x9 s i (.hp ((Ch.box b xs 118).h.join k))) j (.hp Hp.emp)) i (.hp ((Ch.box b ys 118).h.join k'))) i=some (.hp ((Ch.box b ys 118).h.join k')):=by
  rw[F9,if_pos rfl,g1];rfl
 have g3:m8 (x9 (x9 (x9 s i (.hp ((Ch.box b xs 118).h.join k))) j (.hp Hp.emp)) i (.hp ((Ch.box b ys 118).h.join k'))) j=some (.hp Hp.emp):=by
  rw[F9,if_neg hij,F9,if_pos rfl,F9,if_neg hij,hj];rfl
 have a3:=a2.exch (c':=.box b ys 118) (d':=.hp k') hij g2 g3 (λn x hx=>.inl (Hp.le_join_l _ _ n x hx)) (λn x hx=>.inl (Hp.le_join_r hdj n x hx)) hdj;have e :∀(a c:Ch) (d e f:Ch),x9 (x9 (x9 (x9 (x9 s i a) j c) i d) i e) j f=x9 (x9 s i e) j f:=by
  intro a c d e f;simp only[S9];refine O8 λn=>?_;simp only[O7,N8];by_cases hj':j=n
  ·subst hj';simp
  ·simp only[hj',if_false];by_cases hi':i=n
   ·subst hi';simp
   ·simp[hi']
 rw[e] at a3;refine⟨v,_,rfl,a3,?_,hq v ys k' hR⟩;refine (J6.set hi (c':=.box b ys 118) (λb' cs T e=>by cases e;exact⟨_,_,rfl⟩)).trans ?_;exact J6.set (i:=j) (c:=.hp k) (by rw[F9,if_neg hij,hj]) (λb' cs T e=>by cases e)
theorem XK {s:List Ch} {i j b f:Nat} {fl dv:Value} {o:Dw.Os} {args:List Value} {t':e8} {R:Value->Prop} {q:TV->List Ch->Prop} (hij:i≠j) (hi:m8 s i=some (.box b [fl,o.v,dv] 118)) (hj:m8 s j=some (.hp o.h))
  (hc :∀w0 w,Ok w0 s w->j6 Tryz.prog f args.toArray w (O6 w ((Ch.box b [fl,o.v,dv] 118).h.join o.h) λv h' cs=>cs = []/\R v/\kW h' b dv t'))
  (hq :∀v fl' o',R v->BF b fl'->w8 AW 5 1 o' t'->q (.v v) (x9 (x9 s i (.box b [fl',o'.v,dv] 118)) j (.hp o'.h))):Q8 Tryz.prog s f args q:=by
 refine XJ (R:=λv ys k'=>R v/\∃fl' o',ys = [fl',o'.v,dv]/\k'=o'.h/\BF b fl'/\w8 AW 5 1 o' t') hij hi hj (λw0 w hok=>⟨(hc w0 w hok).1,(hc w0 w hok).2.mono ?_⟩) ?_
 ·rintro e w' ⟨v,h',cs,rfl,h1,rfl,hR,fl',o',rfl,hdj,hfl,ho⟩;exact⟨v,_,[],rfl,h1,rfl,_,_,rfl,hdj,hR,fl',o',rfl,rfl,hfl,ho⟩
 ·rintro v _ _ ⟨hR,fl',o',rfl,rfl,hfl,ho⟩;exact hq v fl' o' hR hfl ho
theorem KQ {w0 w:World} {s:List Ch} (hok:Ok w0 s w) {i j b:Nat} {fl dv:Value} {o:Dw.Os} {t:e8} (hij:i≠j) (hi:m8 s i=some (.box b [fl,o.v,dv] 118)) (hj:m8 s j=some (.hp o.h)) (hfl:BF b fl) (ho:w8 AW 5 1 o t) :
  ((Ch.box b [fl,o.v,dv] 118).h.join o.h).In w/\kW ((Ch.box b [fl,o.v,dv] 118).h.join o.h) b dv t:=by
 refine⟨λk x hx=>?_,fl,o,rfl,hok.disj i j _ _ hij hi hj,hfl,ho⟩;unfold Hp.join at hx;split at hx
 ·rename_i y hy
  cases hx;exact hok.mem i _ hi k _ hy
 ·exact hok.mem j _ hj k x hx
section
variable {s:List Ch} {i j b:Nat} {fl dv:Value} {o:Dw.Os} {t:e8} {q:TV->List Ch->Prop}
theorem Ju {k bb T m:Nat} {L:List e8} (hij:i≠j) (hi:m8 s i=some (.box b [fl,o.v,dv] 118)) (hj:m8 s j=some (.hp o.h)) (hk:m8 s k=some (.box bb (L.map λx=>Value.string (bs x)) T)) (hki:k≠i) (hkj:k≠j) (hfl:BF b fl) (ho:w8 AW 5 1 o t)
  (hm:m=L.length) (hn:L.length < 1000000) (hlen:t.length+L.flatten.length < 1000000000)
  (hq :∀v fl' o',BF b fl'->w8 AW 5 1 o' (t++L.flatten)->q (.v v) (x9 (x9 s i (.box b [fl',o'.v,dv] 118)) j (.hp o'.h))) :
  Q8 Tryz.prog s 56 [pQ b,.slice (some ⟨bb,0,none⟩) m m] q:=by
 subst hm;refine XK (R:=λ_=>True) (t':=t++L.flatten) hij hi hj (λw0 w hok=>?_) (λv fl' o' _ h1 h2=>hq v fl' o' h1 h2);obtain⟨h1,h2⟩:=KQ hok hij hi hj hfl ho;have hsl:Sl (B0 Jc) 1 ((Hp.whole w).minus ((Ch.box b [fl,o.v,dv] 118).h.join o.h)) (some ⟨bb,0,none⟩) L.length L.length L:=Sl.mono (j7 _) (hok.le2 hki hkj hi hj hk) (KA (f:=Jc) (λ_=>rfl) (λkk hkk jj v hv=>by
  match jj,hv with
  | 0,hv=>
   have hv:some (Value.string (bs L[kk]))=some v:=hv;rw[y8,E3,G3,G7,i6 hkk];exact hv))
 have:=GR (dv:=dv) (t:=t) (L:=L) w h1 h2 hsl hn hlen;refine⟨this.1,this.2.mono ?_⟩;rintro e w' ⟨v,h',cs,rfl,h3,rfl,h4⟩;exact⟨v,h',[],rfl,h3,rfl,trivial,h4⟩
theorem Hd {k bb T m:Nat} {L:List e8} (hi:m8 s i=some (.box b [fl,Dw.Os.nil.v,dv] 118)) (hk:m8 s k=some (.box bb (L.map λx=>Value.string (bs x)) T)) (hki:k≠i) (hfl:BF b fl)
  (hm:m=L.length) (hn:L.length < 1000000) (hlen:L.flatten.length < 1000000000)
  (hq :∀v fl' o',BF b fl'->w8 AW 5 1 o' L.flatten->q (.v v) (x9 (x9 (s++[.hp Hp.emp]) i (.box b [fl',o'.v,dv] 118)) s.length (.hp o'.h))) :
  Q8 Tryz.prog s 56 [pQ b,.slice (some ⟨bb,0,none⟩) m m] q:=by
 have hlt:i < s.length:=by rw[J7] at hi;exact (q9.1 hi).1
 have hltk:k < s.length:=by rw[J7] at hk;exact (q9.1 hk).1
 refine Q8.emp (Ju (i:=i) (j:=s.length) (k:=k) (o:=Dw.Os.nil) (t:=[]) (fl:=fl) (dv:=dv) om (by rw[H3,if_pos hlt];exact hi) (eQ s _) (by rw[H3,if_pos hltk];exact hk) hki om hfl (w8.nil _ _ _) hm hn (by rw[d9];omega) (λv fl' o' h1 h2=>?_));rw[N6] at h2;exact hq v fl' o' h1 h2
theorem Ib {c d e:Nat} {H:Hp} {ad:Option Addr} {nd cd:Nat} {D:List S1} {x:Ex} {xs:List Value} (hij:i≠j) (hi:m8 s i=some (.box b [fl,o.v,.slice ad nd cd] 118)) (hj:m8 s j=some (.hp o.h)) (hc:m8 s c=some (.hp H)) (hci:c≠i) (hcj:c≠j) (hfl:BF b fl) (ho:w8 AW 5 1 o t)
  (hx:P5 e H x xs) (hD:Sl (B0 O1) 4 H ad nd cd D) (hg:XY D.length d x) (hs:AS x) (hdn :∀d∈D,d.1.length < 1000000) (hlen:t.length+(E7 (D6 D) d x).length < 1000000000)
  (hq :∀v fl' o',BF b fl'->w8 AW 5 1 o' (t++E7 (D6 D) d x)->q (.v v) (x9 (x9 s i (.box b [fl',o'.v,.slice ad nd cd] 118)) j (.hp o'.h))) :
  Q8 Tryz.prog s 61 [pQ b,.agg xs.toArray] q:=by
 refine XK (R:=λ_=>True) (t':=t++E7 (D6 D) d x) hij hi hj (λw0 w hok=>?_) (λv fl' o' _ h1 h2=>hq v fl' o' h1 h2);obtain⟨h1,h2⟩:=KQ hok hij hi hj hfl ho;have hle:H.le _:=hok.le2 hci hcj hi hj hc;have:=CT hdn d e _ t x xs w h1 h2 hg hs (q7 e _ _ _ _ hle hx) (hD.mono (j7 _) hle) hlen;refine⟨this.1,this.2.mono ?_⟩;rintro e w' ⟨v,h',cs,rfl,h3,rfl,h4⟩;exact⟨v,h',[],rfl,h3,rfl,trivial,h4⟩
theorem Gt (hij:i≠j) (hi:m8 s i=some (.box b [fl,o.v,dv] 118)) (hj:m8 s j=some (.hp o.h)) (hfl:BF b fl) (ho:w8 AW 5 1 o t) (h0:t≠[])
  (hq :∀ys k',q (.v (.tuple #[sv (xR t).1,iQ (xR t).2])) (x9 (x9 s i (.box b ys 118)) j (.hp k'))):Q8 Tryz.prog s 62 [pQ b] q:=by
 refine XJ (R:=λv _ _=>v=.tuple #[sv (xR t).1,iQ (xR t).2]) hij hi hj (λw0 w hok=>?_) ?_
 ·obtain⟨h1,h2⟩:=KQ hok hij hi hj hfl ho;have:=vE w h1 h2 h0;refine⟨this.1,this.2.mono ?_⟩;rintro e w' ⟨v,h',cs,rfl,h3,rfl,rfl,ys,k',e1,e2⟩;exact⟨_,h',[],rfl,h3,rfl,ys,k',e1,e2,rfl⟩
 ·rintro v ys k' rfl;exact hq ys k'
end
end Go.Proofs.YtpjhmeicbjkcdaaGreatDoor
namespace Go.Dw
open Go Go.RowKit
theorem iJ {P:Program} {s:List Ch} {i j b f T:Nat} {xs:List Value} {k:Hp} {args:List Value} {R:Value->List Value->Hp->Prop} {q:TV->List Ch->Prop} (hij:i≠j) (hi:m8 s i=some (.box b xs T)) (hj:m8 s j=some (.hp k))
  (hc :∀w0 w,Ok w0 s w->j6 P f args.toArray w (O6 w ((Ch.box b xs T).h.join k) λv h' cs=>∃ys,cs = [.box b ys T]/\R v ys h'))
  (hq :∀v ys k',R v ys k'->q (.v v) (x9 (x9 s i (.box b ys T)) j (.hp k'))):Q8 P s f args q:=by
 refine⟨λw0 w hok=>⟨(hc w0 w hok).1,(hc w0 w hok).2.mono λe w' he=>?_⟩⟩;obtain⟨v,k',cs,rfl,h0,ys,rfl,hR⟩:=he;have hdj:(Ch.box b ys T).h.dj k':=h0.disj 2 1 _ _ dc rfl rfl;have h1:Ok w [.hp ((Hp.whole w).minus ((Ch.box b xs T).h.join k)),.hp ((Ch.box b ys T).h.join k')] w':=Ok.join (d:=.box b ys T) (e:=.hp k') (s:=[]) (h0.pick [0,2,1] rfl rfl);have a1:=hok.exch (c':=.hp ((Ch.box b xs T).h.join k)) (d':=.hp Hp.emp) hij hi hj (λn x hx=>by
  have hx:((Ch.box b xs T).h.join k) n=some x:=hx;unfold Hp.join at hx;split at hx
  ·rename_i y hy;rw[hy];exact .inl hx
  ·exact .inr hx) (λk x hx=>by cases hx) (λk=>.inr rfl)
 have g1:m8 (x9 (x9 s i (.hp ((Ch.box b xs T).h.join k))) j (.hp Hp.emp)) i=some (.hp ((Ch.box b xs T).h.join k)):=by
  rw[F9,if_neg hij.symm,F9,if_pos rfl,hi];rfl
 have a2:=a1.callM g1 h1;rw[p8] at a2;have g2:m8 (x9 (x9 (x9 s i (.hp ((Ch.box b xs T).h.join k))) j (.hp Hp.emp)) i (.hp ((Ch.box b ys T).h.join k'))) i=some (.hp ((Ch.box b ys T).h.join k')):=by
  rw[F9,if_pos rfl,g1];rfl
 have g3:m8 (x9 (x9 (x9 s i (.hp ((Ch.box b xs T).h.join k))) j (.hp Hp.emp)) i (.hp ((Ch.box b ys T).h.join k'))) j=some (.hp Hp.emp):=by
  rw[F9,if_neg hij,F9,if_pos rfl,F9,if_neg hij,hj];rfl
 have a3:=a2.exch (c':=.box b ys T) (d':=.hp k') hij g2 g3 (λn x hx=>.inl (Hp.le_join_l _ _ n x hx)) (λn x hx=>.inl (Hp.le_join_r hdj n x hx)) hdj;have e :∀(a c:Ch) (d e f:Ch),x9 (x9 (x9 (x9 (x9 s i a) j c) i d) i e) j f=x9 (x9 s i e) j f:=by
  intro a c d e f;simp only[S9];refine O8 λn=>?_;simp only[O7,N8];by_cases hj':j=n
  ·subst hj';simp
  ·simp only[hj',if_false];by_cases hi':i=n
   ·subst hi';simp
   ·simp[hi']
 rw[e] at a3;refine⟨v,_,rfl,a3,?_,hq v ys k' hR⟩;refine (J6.set hi (c':=.box b ys T) (λb' cs T e=>by cases e;exact⟨_,_,rfl⟩)).trans ?_;exact J6.set (i:=j) (c:=.hp k) (by rw[F9,if_neg hij,hj]) (λb' cs T e=>by cases e)
end Go.Dw
namespace Go.Proofs.YtpjhmeicbjkcdaaGreatDoor
open Go Go.RowKit Go.Dw
theorem _root_.Go.Dw.Ok.startB {w:World} {b7 T:Nat} {xs:List Value} {h:Hp} (hin:((Ch.box b7 xs T).h.join h).In w) (hdj:(Ch.box b7 xs T).h.dj h):Ok w [.hp ((Hp.whole w).minus ((Ch.box b7 xs T).h.join h)),.hp h,.box b7 xs T] w:=
 Ok.same (s:=[.hp ((Hp.whole w).minus ((Ch.box b7 xs T).h.join h)),.hp h,.hp (Ch.box b7 xs T).h]) (i:=2) (c:=.hp (Ch.box b7 xs T).h) (d:=.box b7 xs T) rfl rfl (Ok.part (i:=1) (Ok.start2 w hin) rfl (Hp.le_join_r hdj) (Hp.le_join_l _ _) hdj.symm)
abbrev wA (z:Int) (f:e8->Int) (r:RS):Int:=if zJ (C7 r)/\H8 (C7 r).2.1=true then f (C7 r).2.1 else z
set_option maxRecDepth 10000 in
theorem fP {k h:Hp} {rb b b7 g:Nat} {r:RS} {z:Int} {cap:List Value} {chk fv:e8->Int} (w:World) (hin:((Ch.box b7 [iQ z] 3).h.join h).In w) (hdj:(Ch.box b7 [iQ z] 3).h.dj h) (hd:DR ((Hp.whole w).minus ((Ch.box b7 [iQ z] 3).h.join h)) k h rb b r)
  (hc :∀w',(Ch.box b7 [iQ z] 3).h.In w'->((Hp.whole w).minus ((Ch.box b7 [iQ z] 3).h.join h)).le ((Hp.whole w').minus (Ch.box b7 [iQ z] 3).h)->∀s:e8,s.length < 900000->j6 Tryz.prog g (sv s::cap).toArray w' (O6 w' (Ch.box b7 [iQ z] 3).h λv h' cs2=>cs2 = []/\∃cs',(Ch.box b7 cs' 3).h.le h'/\(v=iQ (chk s)/\cs' = [iQ (fv s)]))) :
  j6 Tryz.prog 77 #[pQ rb,.func (.func g) #[] cap.toArray] w (O6 w ((Ch.box b7 [iQ z] 3).h.join h) λv h' cs=>∃ys,cs = [.box b7 ys 3]/\(v=sv (P2 r chk).2/\ys = [iQ (wA z fv r)]/\G9 k h' b (P2 r chk).1)):=by
 have ok0:=Ok.startB hin hdj;have hpk:=hd.hR.peekB;refine enterMSZ (cx 50) [pQ rb,.func (.func g) #[] cap.toArray] ok0 [.tmp 4] Tryz.func77 ?_;obtain⟨c0,hc0⟩ :∃c0,c0=(Hp.whole w).minus ((Ch.box b7 [iQ z] 3).h.join h):=⟨_,rfl⟩
 rw[<-hc0] at hd hc ok0 ⊢;refine lQ 0 hd.hB ?_;refine k7 _ (λw' hm=>S7 w' (hm 1 _ rfl) (hd.hk.trans (hm 0 _ rfl).whole) hd.hR) ?_;obtain⟨⟨K,T,ln,co⟩,hP⟩ :∃p,p=C7 r:=⟨_,rfl⟩
 rw[<-hP] at hpk ⊢;dsimp only at hpk;intro b5;refine d8 (λh1=>?_) λh1=>?_;focus
  have hnm:zJ (C7 r):=by rw[<-hP];exact .inl h1
 rotate_left
 focus
  refine d8 (λh2=>?_) λh2=>?_;focus
   have hnm:zJ (C7 r):=by rw[<-hP];exact .inr h2
  rotate_left
  ·have hnm : ¬ zJ (C7 r):=by rw[<-hP];exact λc=>c.elim h1 h2
   have hC:namC r chk=r:=by unfold namC;rw[if_neg hnm]
   have hv:wA z fv r=z:=by unfold wA;rw[if_neg (λc=>hnm c.1)]
   refine d8 (λh6=>?_) λh6=>?_;focus
    refine lQ 0 hd.hB ?_;refine l6 (i:=1) rfl (λw0 w' hok=>fB w' (hok.mem 1 _ rfl) (hok.kle rfl rfl hd.hk) hd.hR) ?_;rintro _ h2 _ ⟨rfl,rfl,hR2⟩;have e:P2 r chk=O4 r 3:=by unfold P2;rw[<-hP,if_pos h6,hC]
   rotate_left
   focus
    refine lQ 0 hd.hB ?_;refine l6 (i:=1) rfl (λw0 w' hok=>fF w' (hok.mem 1 _ rfl) (hok.kle rfl rfl hd.hk) hd.hR) ?_;rintro _ h2 _ ⟨rfl,rfl,hR2⟩;have e:P2 r chk=O4 r 1:=by unfold P2;rw[<-hP,if_neg h6,hC]
   all_goals
    rw[e];exact⟨h2,[.box b7 [iQ z] 3],⟨[iQ z],rfl,rfl,by rw[hv],hR2⟩,pk [0,1,2]⟩
 all_goals
  refine k7 _ (λw' hm=>dK T w') ?_;refine s8 (λh3=>?_) λh3=>?_
  ·have h3:H8 T=false:=by simpa using h3
   have hC:namC r chk=y7 r 11:=by unfold namC;rw[if_pos hnm,<-hP,if_pos h3]
   have hv:wA z fv r=z:=by unfold wA;rw[if_neg (λc=>by rw[<-hP] at c;have c2:H8 T=true:=c.2;rw[h3] at c2;cases c2)]
   refine lQ 0 hd.hB ?_;refine l6 (i:=1) rfl (λw0 w' hok=>G8 w' (hok.mem 1 _ rfl) (hok.kle rfl rfl hd.hk) hd.hR) ?_;rintro _ h1 _ ⟨rfl,hR1⟩;refine d8 (λh6=>?_) λh6=>?_;focus
    refine lQ 0 hd.hB ?_;refine l6 (i:=1) rfl (λw0 w' hok=>fB w' (hok.mem 1 _ rfl) (hok.kle rfl rfl hd.hk) hR1) ?_;rintro _ h2 _ ⟨rfl,rfl,hR2⟩;have e:P2 r chk=O4 (y7 r 11) 3:=by unfold P2;rw[<-hP,if_pos h6,hC]
   rotate_left
   focus
    refine lQ 0 hd.hB ?_;refine l6 (i:=1) rfl (λw0 w' hok=>fF w' (hok.mem 1 _ rfl) (hok.kle rfl rfl hd.hk) hR1) ?_;rintro _ h2 _ ⟨rfl,rfl,hR2⟩;have e:P2 r chk=O4 (y7 r 11) 1:=by unfold P2;rw[<-hP,if_neg h6,hC]
   all_goals
    rw[e];exact⟨h2,[.box b7 [iQ z] 3],⟨[iQ z],rfl,rfl,by rw[hv],hR2⟩,pk [0,1,2]⟩
  ·have h3:H8 T=true:=by simpa using h3
   have hC:namC r chk=y7 r (chk T):=by unfold namC;rw[if_pos hnm,<-hP,if_neg (by rw[h3];decide)]
   have hv:wA z fv r=fv T:=by unfold wA;rw[<-hP] at hnm ⊢;rw[if_pos ⟨hnm,h3⟩]
   refine s6.cut Hp (λ_=>[(0,.v (pQ rb)),(5,.bx 3 0)]) (λg=>[.hp c0,.hp g,.box b7 [iQ (fv T)] 3,.box b5 [iQ K,sv T,iQ ln,iQ co] 211]) (λg=>G9 k g b (y7 r (chk T))) (s6.by_order0 (s0:=[.hp c0,.hp Hp.emp,.hp Hp.emp,.box b5 [iQ K,sv T,iQ ln,iQ co] 211]) cQ (.take 0 <| .take 1 <| .take 2 <| .take 3 <| .take 4 <| .take 5 <| .take 6 <| .run 7 <| .run 8 <| .done) kr (sK) ?_) ?_
   ·refine lQ 0 hd.hB ?_;refine mM ?_;refine jU (i:=2) rfl (λw0 w' hok=>hc w' (hok.mem 2 _ rfl) (Hp.le_minus (hok.mem 0 _ rfl).whole (hok.disj 0 2 _ _ dc rfl rfl)) T hpk) ?_;rintro _ _ ⟨rfl,rfl⟩;refine⟨sK,?_⟩;refine l6 (i:=1) rfl (λw0 w' hok=>G8 w' (hok.mem 1 _ rfl) (hok.kle rfl rfl hd.hk) hd.hR) ?_;rintro _ h1 _ ⟨rfl,hR1⟩;refine⟨sK,?_⟩;exact⟨h1,hR1,v6.mk (pj [0,1,2,3]) rfl rfl⟩
   intro h1 hR1 _;refine d8 (λh6=>?_) λh6=>?_;focus
    refine lQ 0 hd.hB ?_;refine l6 (i:=1) rfl (λw0 w' hok=>fB w' (hok.mem 1 _ rfl) (hok.kle rfl rfl hd.hk) hR1) ?_;rintro _ h2 _ ⟨rfl,rfl,hR2⟩;have e:P2 r chk=O4 (y7 r (chk T)) 3:=by unfold P2;rw[<-hP,if_pos h6,hC]
   rotate_left
   focus
    refine lQ 0 hd.hB ?_;refine l6 (i:=1) rfl (λw0 w' hok=>fF w' (hok.mem 1 _ rfl) (hok.kle rfl rfl hd.hk) hR1) ?_;rintro _ h2 _ ⟨rfl,rfl,hR2⟩;have e:P2 r chk=O4 (y7 r (chk T)) 1:=by unfold P2;rw[<-hP,if_neg h6,hC]
   all_goals
    rw[e];exact⟨h2,[.box b7 [iQ (fv T)] 3],⟨[iQ (fv T)],rfl,rfl,by rw[hv],hR2⟩,pk [0,1,2]⟩
end Go.Proofs.YtpjhmeicbjkcdaaGreatDoor
namespace Go.Proofs.YtpjhmeicbjkcdaaGreatDoor
open Go Go.RowKit Go.Dw
theorem G9.unsB {k h:Hp} {b:Nat} {r:RS} (hR:G9 k h b r):(AZ r).2.length < 900001:=by
 obtain⟨_,_,_,_,_,_,tb⟩:=hR;have key :∀r':RS,A7 r r'->(O4 r' 2).2.length < 900000:=by
  intro r' ha;unfold O4;split
  ·exact O2 _
  ·dsimp only;unfold C7;split
   ·exact O2 _
   ·cases e:r'.ts with
    | nil=>exact O2 _
    | cons x l=>exact tb x (ha.sb x (by rw[e];exact bU))
 have hs :∀r':RS,A7 r r'->(aM r').2.length < 900001:=by
  intro r' ha;have h1:=key (tM r') (ha.trans (((A7.take r' [45]).trans (A7.fail _ 3)).ite (A7.take r' [45])));unfold aM;dsimp only;split
  ·exact O2 _
  ·rw[d6];split
   ·simp only[d7,d9];omega
   ·simp only[d9];omega
 unfold AZ;exact hs _ ((A7.fail r 14).ite (A7.refl r))
theorem HE {r:RS} {s:e8} {c m:Nat} (he:r.e=0->cP r.ts) (h:aA r s=true):J5 (E5 (J2 r c m)) < J5 r:=by
 obtain⟨h0,h5,_⟩:=S2 h;have hp:=jO he h;unfold J2;split
 ·refine s7 (A7.next _).rem ?_;have:(y7 r 6).e≠0:=by unfold y7;rw[if_neg (λc=>c h0),if_pos dc];exact (by decide:(6:Int)≠0)
  unfold J5 at hp ⊢;rw[if_pos this];exact hp
 ·exact EO he h0 om
section
variable {names:List e8} {rr:RS} {cnt:Nat}
theorem UE (he:rr.e=0->cP rr.ts) (h:aA rr [43]=true\/aA rr [45]=true):0 < J5 rr:=h.elim (jO he) (jO he)
theorem xU (names:List e8) (last:Int) (he:rr.e=0->cP rr.ts) (h:aA rr [43]=true\/aA rr [45]=true) (cnt:Nat):J5 (iR names last rr cnt).1 < J5 rr:=by
 have h1:J5 (E5 (J2 rr cnt 64)) < J5 rr:=h.elim (HE he) (HE he);refine s7 ?_ h1;have a:A7 (E5 (J2 rr cnt 64)) (nY rr cnt).1:=by
  unfold nY;dsimp only;have h:=A7.uns (E5 (J2 rr cnt 64));exact (h.trans (A7.fail _ 5)).ite ((h.trans (A7.fail _ 19)).ite h)
 unfold iR;dsimp only;exact ((a.trans (A7.exp _ _)).trans (A7.nam _ _)).rem
theorem qT (names:List e8) (last:Int) (h:aA rr [43]=true\/aA rr [45]=true) (hc:cnt<=64\/(cnt<=65/\rr.e≠0)):cnt+1<=64\/(cnt+1<=65/\(iR names last rr cnt).1.e≠0):=by
 have h0:rr.e=0:=h.elim (λh=>(S2 h).1) (λh=>(S2 h).1);have hc:cnt<=64:=hc.elim id (λc=>absurd h0 c.2);by_cases h6:cnt=64
 ·refine .inr ⟨om,?_⟩;have hb:(J2 rr cnt 64).e≠0:=by
   unfold J2;rw[if_pos om];unfold y7;rw[if_neg (λc=>c h0),if_pos dc];exact (by decide:(6:Int)≠0)
  have a:A7 (J2 rr cnt 64) (iR names last rr cnt).1:=by
   unfold iR nY;dsimp only;have h:=(A7.next (J2 rr cnt 64)).trans (A7.uns _);exact (((h.trans (A7.fail _ 5)).ite ((h.trans (A7.fail _ 19)).ite h)).trans (A7.exp _ _)).trans (A7.nam _ _)
  exact a.bad hb
 ·exact .inl om
end
theorem _root_.Go.Dw.Ok.inJ {w0 w:World} {s:List Ch} (hok:Ok w0 s w) {i j:Nat} {c d:Ch} (hi:m8 s i=some c) (hj:m8 s j=some d):(c.h.join d.h).In w:=by
 intro k x hx;unfold Hp.join at hx;split at hx
 ·rename_i y hy
  cases hx;exact hok.mem i _ hi k _ hy
 ·exact hok.mem j _ hj k x hx
set_option maxHeartbeats 4000000 in
set_option maxRecDepth 10000 in
theorem mL {k h:Hp} {rb b:Nat} {r:RS} {ad:Option Addr} {nd cd:Nat} {D:List S1} (w:World) (hin:h.In w) (hd:DR ((Hp.whole w).minus h) k h rb b r) (hds:((Hp.whole w).minus h).cell? ⟨rb,1,none⟩=some (.slice ad nd cd)) (hD:Sl (B0 O1) 4 ((Hp.whole w).minus h) ad nd cd D) (hn:D.length < 1000000) :
  j6 Tryz.prog 171 #[pQ rb] w (O6 w h λv h' cs=>∃o,cs = [.hp o.h]/\(v=.agg #[sv (sA (D.map λx:S1=>x.1) r).2.1,o.v]/\w8 U0 80 2 o (sA (D.map λx:S1=>x.1) r).2.2/\G9 k h' b (sA (D.map λx:S1=>x.1) r).1)):=by
 refine enterMZ (cx 99) [pQ rb] hin [.cell 2 41] Tryz.func171 ?_;obtain⟨c0,hc0⟩ :∃c0,c0=(Hp.whole w).minus h:=⟨_,rfl⟩
 rw[<-hc0] at hd hds hD ⊢;obtain⟨names,hnames⟩ :∃l,l=D.map λx:S1=>x.1:=⟨_,rfl⟩
 rw[<-hnames];intro b1 b2;refine o7 λq' hq'=>?_;apply hq';refine nQ [.hp c0,.hp h,.box b1 [pQ rb] 151,.box b2 [zs,zl] 41] λq' hq'=>?_;refine lQ 0 hd.hB ?_;refine l6 (i:=1) rfl (λw0 w' hok=>m6 w' (hok.mem 1 _ rfl) (hok.kle rfl rfl hd.hk) hd.hR) ?_;rintro _ h1 _ ⟨rfl,hR1⟩;have hR1:G9 k h1 b (x8 (r) [91]):=hR1;apply hq';refine nQ [.hp c0,.hp h1,.box b1 [pQ rb] 151,.box b2 [zs,zl] 41] λq' hq'=>?_;refine l6 (i:=1) rfl (λw0 w' hok=>W5 w' (hok.mem 1 _ rfl) ((hd.to hR1).mono (hok.le01 rfl rfl))) ?_;rintro _ h2 _ ⟨rfl,rfl,hR2⟩;have hR2:G9 k h2 b ((R6 (x8 (r) [91])).1):=hR2;obtain⟨A,hA⟩ :∃x,x=R6 (x8 (r) [91]):=⟨_,rfl⟩
 rw[<-hA] at hR2 ⊢;intro b3;apply hq';refine nQ [.hp c0,.hp h2,.box b1 [pQ rb] 151,.box b2 [zs,zl] 41,.box b3 [sv A.2,zl] 41] λq' hq'=>?_;intro b4;apply hq';obtain⟨tot,htot⟩ :∃x,x=iP names (J5 A.1) A.1 (-1) []:=⟨_,rfl⟩
 have hend:A.1.e=0->cP A.1.ts:=by obtain⟨_,_,_,_,_,hE,_⟩:=hR2;exact hE
 refine u6.mk (RS×Int×List JL×Hp×Dw.Os) (λ_=>[(1,.bx 2 0),(2,.bx 3 0),(3,.bx 4 0),(4,.bx 5 0)]) (λg=>[.hp c0,.hp g.2.2.2.1,.box b1 [pQ rb] 151,.box b2 [zs,zl] 41,.box b3 [sv A.2,g.2.2.2.2.v] 41,.box b4 [iQ g.2.1] 3,.hp g.2.2.2.2.h])
  (λg=>G9 k g.2.2.2.1 b g.1/\w8 U0 80 2 g.2.2.2.2 g.2.2.1/\(∃f,J5 g.1<=f/\iP names f g.1 g.2.1 g.2.2.1=tot)/\(g.2.2.1.length<=64\/(g.2.2.1.length<=65/\g.1.e≠0))) (λg=>J5 g.1) (A.1,-1,[],h2,Dw.Os.nil)
  ⟨hR2,w8.nil _ _ _,⟨J5 A.1,k8 _,htot.symm⟩,.inl (f8 _)⟩ (v6.mk (λ_ _ h=>h.emp) rfl rfl) ?_
 rintro⟨rr,last,out,hh,oo⟩ ⟨hRr,hO,⟨f,hf,htr⟩,hcnt⟩;dsimp only at hRr hO hf htr hcnt ⊢;have hRend:rr.e=0->cP rr.ts:=by obtain⟨_,_,_,_,_,hE,_⟩:=hRr;exact hE
 refine nQ [.hp c0,.hp hh,.box b1 [pQ rb] 151,.box b2 [zs,zl] 41,.box b3 [sv A.2,oo.v] 41,.box b4 [iQ last] 3,.hp oo.h] λq' hq'=>?_;refine lQ 0 hd.hB ?_;refine k7 _ (λw' hm=>S0 w' (hm 1 _ rfl) (hd.hk.trans (hm 0 _ rfl).whole) hRr) ?_;refine s8 (λg1=>?_) λg1=>?_;focus
  apply hq';refine RW rfl ?_;have hio:aA rr [43]=true\/aA rr [45]=true:=.inl g1
 rotate_left
 focus
  refine lQ 0 hd.hB ?_;refine k7 _ (λw' hm=>S0 w' (hm 1 _ rfl) (hd.hk.trans (hm 0 _ rfl).whole) hRr) ?_;apply hq';refine s8 (λg2=>?_) λg2=>?_;focus
   have hio:aA rr [43]=true\/aA rr [45]=true:=.inr g2
  rotate_left
  ·have eT:tot=(rr,out):=by
    rw[<-htr];cases f with
    | zero=>rfl
    | succ f=>unfold iP;rw[if_neg (λc=>by rw[g1,g2] at c;cases c <;> rename_i c <;> cases c)]
   have eF:sA names r=(x8 rr [93],(A.2,out)):=by
    unfold sA;dsimp only;rw[<-hA,<-htot,eT]
   refine nQ [.hp c0,.hp hh,.box b1 [pQ rb] 151,.box b2 [zs,zl] 41,.box b3 [sv A.2,oo.v] 41,.box b4 [iQ last] 3,.hp oo.h] λq' hq'=>?_;refine lQ 0 hd.hB ?_;refine l6 (i:=1) rfl (λw0 w' hok=>m6 w' (hok.mem 1 _ rfl) (hok.kle rfl rfl hd.hk) hRr) ?_;rintro _ h3 _ ⟨rfl,hR3⟩;have hR3:G9 k h3 b (x8 (rr) [93]):=hR3;apply hq';rw[eF];exact⟨h3,[.hp oo.h],⟨oo,rfl,rfl,hO,hR3⟩,pk [0,1,6]⟩
 all_goals
  refine nQ [.hp c0,.hp hh,.box b1 [pQ rb] 151,.box b2 [zs,zl] 41,.box b3 [sv A.2,oo.v] 41,.box b4 [iQ last] 3,.hp oo.h] λq' hq'=>?_;refine l6 (i:=1) rfl (λw0 w' hok=>N9 (n:=out.length) (m:=64) (by rw[hO.len]) rfl w' (hok.mem 1 _ rfl) ((hd.to hRr).mono (hok.le01 rfl rfl))) ?_;rintro _ h3 _ ⟨rfl,hR3⟩;have hR3:G9 k h3 b (J2 (rr) out.length 64):=hR3;obtain⟨r3,e3⟩ :∃x,x=J2 (rr) out.length 64:=⟨_,rfl⟩
  rw[<-e3] at hR3;apply hq';refine nQ [.hp c0,.hp h3,.box b1 [pQ rb] 151,.box b2 [zs,zl] 41,.box b3 [sv A.2,oo.v] 41,.box b4 [iQ last] 3,.hp oo.h] λq' hq'=>?_;refine lQ 0 hd.hB ?_;refine k7 _ (λw' hm=>S0 w' (hm 1 _ rfl) (hd.hk.trans (hm 0 _ rfl).whole) hR3) ?_;apply hq';refine nQ [.hp c0,.hp h3,.box b1 [pQ rb] 151,.box b2 [zs,zl] 41,.box b3 [sv A.2,oo.v] 41,.box b4 [iQ last] 3,.hp oo.h] λq' hq'=>?_;refine lQ 0 hd.hB ?_;refine l6 (i:=1) rfl (λw0 w' hok=>cO w' (hok.mem 1 _ rfl) (hok.kle rfl rfl hd.hk) hR3) ?_;rintro _ h4 _ ⟨rfl,rfl,hR4⟩;have hR4:G9 k h4 b (E5 (r3)):=hR4;apply hq';refine nQ [.hp c0,.hp h4,.box b1 [pQ rb] 151,.box b2 [zs,zl] 41,.box b3 [sv A.2,oo.v] 41,.box b4 [iQ last] 3,.hp oo.h] λq' hq'=>?_;refine l6 (i:=1) rfl (λw0 w' hok=>wB w' (hok.mem 1 _ rfl) ((hd.to hR4).mono (hok.le01 rfl rfl))) ?_;rintro _ h5 _ ⟨rfl,rfl,hR5⟩;have hR5:G9 k h5 b ((AZ (E5 (r3))).1):=hR5;have hUl:=G9.unsB hR4;obtain⟨U,hU⟩ :∃x,x=AZ (E5 (r3)):=⟨_,rfl⟩
  rw[<-hU] at hR5 hUl ⊢;apply hq';refine nQ [.hp c0,.hp h5,.box b1 [pQ rb] 151,.box b2 [zs,zl] 41,.box b3 [sv A.2,oo.v] 41,.box b4 [iQ last] 3,.hp oo.h] λq' hq'=>?_;apply hq';refine s8 (λm1=>?_) λm1=>?_;focus
   refine nQ [.hp c0,.hp h5,.box b1 [pQ rb] 151,.box b2 [zs,zl] 41,.box b3 [sv A.2,oo.v] 41,.box b4 [iQ last] 3,.hp oo.h] λq' hq'=>?_;refine P0 (ty:=38) (a:=[45]) (by simp only[d7,d9];omega) ?_;obtain⟨X,hX⟩ :∃X,X=([45]++U.2):=⟨_,rfl⟩
   rw[<-hX];have hX2:(if aA r3 [45]=true then 45::U.2 else U.2)=X:=by rw[if_pos m1,hX];rfl
   apply hq'
  rotate_left
  focus
   obtain⟨X,hX⟩ :∃X,X=U.2:=⟨_,rfl⟩
   rw[<-hX];have hX2:(if aA r3 [45]=true then 45::U.2 else U.2)=X:=by rw[if_neg (by rw[m1];decide),hX]
  all_goals
   refine nQ [.hp c0,.hp h5,.box b1 [pQ rb] 151,.box b2 [zs,zl] 41,.box b3 [sv A.2,oo.v] 41,.box b4 [iQ last] 3,.hp oo.h] λq' hq'=>?_;apply hq';refine d8 (λs0=>?_) λs0=>?_
   ·refine nQ [.hp c0,.hp h5,.box b1 [pQ rb] 151,.box b2 [zs,zl] 41,.box b3 [sv A.2,oo.v] 41,.box b4 [iQ last] 3,.hp oo.h] λq' hq'=>?_;refine lQ 0 hd.hB ?_;refine l6 (i:=1) rfl (λw0 w' hok=>G8 w' (hok.mem 1 _ rfl) (hok.kle rfl rfl hd.hk) hR5) ?_;rintro _ h6 _ ⟨rfl,hR6⟩;have hR6:G9 k h6 b (y7 (U.1) 5):=hR6;apply hq';have hN:nY rr out.length=(y7 (U.1) 5,X):=by
     unfold nY;dsimp only;rw[<-e3,<-hU,hX2];rw[if_pos (by rw[B6] at s0;omega)]
    refine nQ [.hp c0,.hp h6,.box b1 [pQ rb] 151,.box b2 [zs,zl] 41,.box b3 [sv A.2,oo.v] 41,.box b4 [iQ last] 3,.hp oo.h] λq' hq'=>?_;refine lQ 0 hd.hB ?_;refine l6 (i:=1) rfl (λw0 w' hok=>m6 w' (hok.mem 1 _ rfl) (hok.kle rfl rfl hd.hk) hR6) ?_;rintro _ h7 _ ⟨rfl,hR7⟩;have hR7:G9 k h7 b (x8 (y7 (U.1) 5) [42]):=hR7;obtain⟨r7,e7⟩ :∃x,x=x8 (y7 (U.1) 5) [42]:=⟨_,rfl⟩
    rw[<-e7] at hR7;apply hq';refine o7 λq' hq'=>?_;intro b7;apply hq';refine nQ [.hp c0,.hp h7,.box b1 [pQ rb] 151,.box b2 [zs,zl] 41,.box b3 [sv A.2,oo.v] 41,.box b4 [iQ last] 3,.hp oo.h,.box b7 [iQ (-1)] 3] λq' hq'=>?_;refine iJ (i:=7) (j:=1) dc rfl rfl (λw0 w' hok=>fP (cap:=[pQ b1,pQ b7,pQ b4]) (chk:=kJ names last) (fv:=mK names) w' (hok.inJ (i:=7) (j:=1) (c:=.box b7 [iQ (-1)] 3) (d:=.hp h7) rfl rfl) (hok.disj 7 1 _ _ dc rfl rfl) ((hd.to hR7).mono (hok.le2 (i:=7) (j:=1) (m:=0) dc dc rfl rfl rfl)) (λw2 hi2 hle s _=>by
     have hl0:=(hok.le2 (i:=7) (j:=1) (m:=0) dc dc rfl rfl rfl).trans hle;have hl1:=(hok.le2 (i:=7) (j:=1) (m:=2) dc dc rfl rfl rfl).trans hle;have hl4:=(hok.le2 (i:=7) (j:=1) (m:=5) dc dc rfl rfl rfl).trans hle;rw[hnames];exact fX (b1:=b1) (b7:=b7) (b4:=b4) (rb:=rb) (last:=last) (z:=-1) s w2 hi2 (hl1.cell (J3 b1 (cs:=[pQ rb]) _ rfl)) (hl0.cell hds) (hl4.cell (J3 b4 (cs:=[iQ last]) _ rfl)) (hD.mono (j7 _) hl0) hn)) ?_
    rintro _ _ h8 ⟨rfl,rfl,hR8⟩;have hT:iR names last rr out.length=((P2 r7 (kJ names last)).1,(XO names r7,X)):=by
     unfold iR;dsimp only;rw[hN];dsimp only;rw[<-e7]
    have hlt:=xU names last hRend hio out.length;have hcn:=qT names last hio hcnt;rw[hT] at hlt hcn;dsimp only at hlt hcn;obtain⟨at_,hat⟩ :∃x,x=XO names r7:=⟨_,rfl⟩
    have hat2:wA (-1) (mK names) r7=at_:=hat.symm;rw[<-hat] at hT;rw[hat2];obtain⟨r9,hr9⟩ :∃x,x=(P2 r7 (kJ names last)).1:=⟨_,rfl⟩
    rw[<-hr9] at hR8 hT hlt hcn;apply hq';refine nQ [.hp c0,.hp h8,.box b1 [pQ rb] 151,.box b2 [zs,zl] 41,.box b3 [sv A.2,oo.v] 41,.box b4 [iQ last] 3,.hp oo.h,.box b7 [iQ at_] 3] λq' hq'=>?_;apply hq';refine nQ [.hp c0,.hp h8,.box b1 [pQ rb] 151,.box b2 [zs,zl] 41,.box b3 [sv A.2,oo.v] 41,.box b4 [iQ at_] 3,.hp oo.h,.box b7 [iQ at_] 3] λq' hq'=>?_;intro b8;refine gF (f:=U0) (o:=oo) (L:=out) cQ (e:=80) rfl (i:=6) rfl hO (at_,X) (j:=8) rfl rfl rfl rfl om λo9 hO9=>?_;apply hq';refine⟨(r9,at_,out++[(at_,X)],h8,o9),⟨hR8,hO9,?_,?_⟩,hlt,v6.mk (pj [0,1,2,3,4,5,6]) rfl rfl⟩
    ·cases f with
     | zero=>exact absurd hf (by have:=UE hRend hio;omega)
     | succ f=>
      refine⟨f,by dsimp only;omega,?_⟩;dsimp only;rw[<-htr];show _=iP names (f+1) rr last out
      conv=>rhs;unfold iP
      rw[if_pos hio,hT]
    ·dsimp only;rw[d6];exact hcn
   ·have s0' : ¬ 400 < X.length:=by rw[B6] at s0;omega
    refine nQ [.hp c0,.hp h5,.box b1 [pQ rb] 151,.box b2 [zs,zl] 41,.box b3 [sv A.2,oo.v] 41,.box b4 [iQ last] 3,.hp oo.h] λq' hq'=>?_;refine lQ 0 hd.hB ?_;refine k7 _ (λw' hm=>S0 w' (hm 1 _ rfl) (hd.hk.trans (hm 0 _ rfl).whole) hR5) ?_;refine s8 (λs1=>?_) λs1=>?_;focus
     refine W8 (b:=[48]) ?_;refine d8 (λs2=>?_) λs2=>?_;focus
      apply hq';refine RW rfl ?_;refine nQ [.hp c0,.hp h5,.box b1 [pQ rb] 151,.box b2 [zs,zl] 41,.box b3 [sv A.2,oo.v] 41,.box b4 [iQ last] 3,.hp oo.h] λq' hq'=>?_;refine lQ 0 hd.hB ?_;refine l6 (i:=1) rfl (λw0 w' hok=>G8 w' (hok.mem 1 _ rfl) (hok.kle rfl rfl hd.hk) hR5) ?_;rintro _ h6 _ ⟨rfl,hR6⟩;have hR6:G9 k h6 b (y7 (U.1) 19):=hR6;apply hq';have hN:nY rr out.length=(y7 (U.1) 19,X):=by
       unfold nY;dsimp only;rw[<-e3,<-hU,hX2];rw[if_neg s0',if_pos ⟨s1,.inl s2⟩]
      refine nQ [.hp c0,.hp h6,.box b1 [pQ rb] 151,.box b2 [zs,zl] 41,.box b3 [sv A.2,oo.v] 41,.box b4 [iQ last] 3,.hp oo.h] λq' hq'=>?_;refine lQ 0 hd.hB ?_;refine l6 (i:=1) rfl (λw0 w' hok=>m6 w' (hok.mem 1 _ rfl) (hok.kle rfl rfl hd.hk) hR6) ?_;rintro _ h7 _ ⟨rfl,hR7⟩;have hR7:G9 k h7 b (x8 (y7 (U.1) 19) [42]):=hR7;obtain⟨r7,e7⟩ :∃x,x=x8 (y7 (U.1) 19) [42]:=⟨_,rfl⟩
      rw[<-e7] at hR7;apply hq';refine o7 λq' hq'=>?_;intro b7;apply hq';refine nQ [.hp c0,.hp h7,.box b1 [pQ rb] 151,.box b2 [zs,zl] 41,.box b3 [sv A.2,oo.v] 41,.box b4 [iQ last] 3,.hp oo.h,.box b7 [iQ (-1)] 3] λq' hq'=>?_;refine iJ (i:=7) (j:=1) dc rfl rfl (λw0 w' hok=>fP (cap:=[pQ b1,pQ b7,pQ b4]) (chk:=kJ names last) (fv:=mK names) w' (hok.inJ (i:=7) (j:=1) (c:=.box b7 [iQ (-1)] 3) (d:=.hp h7) rfl rfl) (hok.disj 7 1 _ _ dc rfl rfl) ((hd.to hR7).mono (hok.le2 (i:=7) (j:=1) (m:=0) dc dc rfl rfl rfl)) (λw2 hi2 hle s _=>by
       have hl0:=(hok.le2 (i:=7) (j:=1) (m:=0) dc dc rfl rfl rfl).trans hle;have hl1:=(hok.le2 (i:=7) (j:=1) (m:=2) dc dc rfl rfl rfl).trans hle;have hl4:=(hok.le2 (i:=7) (j:=1) (m:=5) dc dc rfl rfl rfl).trans hle;rw[hnames];exact fX (b1:=b1) (b7:=b7) (b4:=b4) (rb:=rb) (last:=last) (z:=-1) s w2 hi2 (hl1.cell (J3 b1 (cs:=[pQ rb]) _ rfl)) (hl0.cell hds) (hl4.cell (J3 b4 (cs:=[iQ last]) _ rfl)) (hD.mono (j7 _) hl0) hn)) ?_
      rintro _ _ h8 ⟨rfl,rfl,hR8⟩;have hT:iR names last rr out.length=((P2 r7 (kJ names last)).1,(XO names r7,X)):=by
       unfold iR;dsimp only;rw[hN];dsimp only;rw[<-e7]
      have hlt:=xU names last hRend hio out.length;have hcn:=qT names last hio hcnt;rw[hT] at hlt hcn;dsimp only at hlt hcn;obtain⟨at_,hat⟩ :∃x,x=XO names r7:=⟨_,rfl⟩
      have hat2:wA (-1) (mK names) r7=at_:=hat.symm;rw[<-hat] at hT;rw[hat2];obtain⟨r9,hr9⟩ :∃x,x=(P2 r7 (kJ names last)).1:=⟨_,rfl⟩
      rw[<-hr9] at hR8 hT hlt hcn;apply hq';refine nQ [.hp c0,.hp h8,.box b1 [pQ rb] 151,.box b2 [zs,zl] 41,.box b3 [sv A.2,oo.v] 41,.box b4 [iQ last] 3,.hp oo.h,.box b7 [iQ at_] 3] λq' hq'=>?_;apply hq';refine nQ [.hp c0,.hp h8,.box b1 [pQ rb] 151,.box b2 [zs,zl] 41,.box b3 [sv A.2,oo.v] 41,.box b4 [iQ at_] 3,.hp oo.h,.box b7 [iQ at_] 3] λq' hq'=>?_;intro b8;refine gF (f:=U0) (o:=oo) (L:=out) cQ (e:=80) rfl (i:=6) rfl hO (at_,X) (j:=8) rfl rfl rfl rfl om λo9 hO9=>?_;apply hq';refine⟨(r9,at_,out++[(at_,X)],h8,o9),⟨hR8,hO9,?_,?_⟩,hlt,v6.mk (pj [0,1,2,3,4,5,6]) rfl rfl⟩;focus
       skip
      rotate_left
      ·dsimp only;rw[d6];exact hcn
     rotate_left
     ·refine W8 (b:=[45,48]) ?_;apply hq';refine d8 (λs3=>?_) λs3=>?_;focus
       refine nQ [.hp c0,.hp h5,.box b1 [pQ rb] 151,.box b2 [zs,zl] 41,.box b3 [sv A.2,oo.v] 41,.box b4 [iQ last] 3,.hp oo.h] λq' hq'=>?_;refine lQ 0 hd.hB ?_;refine l6 (i:=1) rfl (λw0 w' hok=>G8 w' (hok.mem 1 _ rfl) (hok.kle rfl rfl hd.hk) hR5) ?_;rintro _ h6 _ ⟨rfl,hR6⟩;have hR6:G9 k h6 b (y7 (U.1) 19):=hR6;apply hq';have hN:nY rr out.length=(y7 (U.1) 19,X):=by
        unfold nY;dsimp only;rw[<-e3,<-hU,hX2];rw[if_neg s0',if_pos ⟨s1,.inr s3⟩]
       refine nQ [.hp c0,.hp h6,.box b1 [pQ rb] 151,.box b2 [zs,zl] 41,.box b3 [sv A.2,oo.v] 41,.box b4 [iQ last] 3,.hp oo.h] λq' hq'=>?_;refine lQ 0 hd.hB ?_;refine l6 (i:=1) rfl (λw0 w' hok=>m6 w' (hok.mem 1 _ rfl) (hok.kle rfl rfl hd.hk) hR6) ?_;rintro _ h7 _ ⟨rfl,hR7⟩;have hR7:G9 k h7 b (x8 (y7 (U.1) 19) [42]):=hR7;obtain⟨r7,e7⟩ :∃x,x=x8 (y7 (U.1) 19) [42]:=⟨_,rfl⟩
       rw[<-e7] at hR7;apply hq';refine o7 λq' hq'=>?_;intro b7;apply hq';refine nQ [.hp c0,.hp h7,.box b1 [pQ rb] 151,.box b2 [zs,zl] 41,.box b3 [sv A.2,oo.v] 41,.box b4 [iQ last] 3,.hp oo.h,.box b7 [iQ (-1)] 3] λq' hq'=>?_;refine iJ (i:=7) (j:=1) dc rfl rfl (λw0 w' hok=>fP (cap:=[pQ b1,pQ b7,pQ b4]) (chk:=kJ names last) (fv:=mK names) w' (hok.inJ (i:=7) (j:=1) (c:=.box b7 [iQ (-1)] 3) (d:=.hp h7) rfl rfl) (hok.disj 7 1 _ _ dc rfl rfl) ((hd.to hR7).mono (hok.le2 (i:=7) (j:=1) (m:=0) dc dc rfl rfl rfl)) (λw2 hi2 hle s _=>by
        have hl0:=(hok.le2 (i:=7) (j:=1) (m:=0) dc dc rfl rfl rfl).trans hle;have hl1:=(hok.le2 (i:=7) (j:=1) (m:=2) dc dc rfl rfl rfl).trans hle;have hl4:=(hok.le2 (i:=7) (j:=1) (m:=5) dc dc rfl rfl rfl).trans hle;rw[hnames];exact fX (b1:=b1) (b7:=b7) (b4:=b4) (rb:=rb) (last:=last) (z:=-1) s w2 hi2 (hl1.cell (J3 b1 (cs:=[pQ rb]) _ rfl)) (hl0.cell hds) (hl4.cell (J3 b4 (cs:=[iQ last]) _ rfl)) (hD.mono (j7 _) hl0) hn)) ?_
       rintro _ _ h8 ⟨rfl,rfl,hR8⟩;have hT:iR names last rr out.length=((P2 r7 (kJ names last)).1,(XO names r7,X)):=by
        unfold iR;dsimp only;rw[hN];dsimp only;rw[<-e7]
       have hlt:=xU names last hRend hio out.length;have hcn:=qT names last hio hcnt;rw[hT] at hlt hcn;dsimp only at hlt hcn;obtain⟨at_,hat⟩ :∃x,x=XO names r7:=⟨_,rfl⟩
       have hat2:wA (-1) (mK names) r7=at_:=hat.symm;rw[<-hat] at hT;rw[hat2];obtain⟨r9,hr9⟩ :∃x,x=(P2 r7 (kJ names last)).1:=⟨_,rfl⟩
       rw[<-hr9] at hR8 hT hlt hcn;apply hq';refine nQ [.hp c0,.hp h8,.box b1 [pQ rb] 151,.box b2 [zs,zl] 41,.box b3 [sv A.2,oo.v] 41,.box b4 [iQ last] 3,.hp oo.h,.box b7 [iQ at_] 3] λq' hq'=>?_;apply hq';refine nQ [.hp c0,.hp h8,.box b1 [pQ rb] 151,.box b2 [zs,zl] 41,.box b3 [sv A.2,oo.v] 41,.box b4 [iQ at_] 3,.hp oo.h,.box b7 [iQ at_] 3] λq' hq'=>?_;intro b8;refine gF (f:=U0) (o:=oo) (L:=out) cQ (e:=80) rfl (i:=6) rfl hO (at_,X) (j:=8) rfl rfl rfl rfl om λo9 hO9=>?_;apply hq';refine⟨(r9,at_,out++[(at_,X)],h8,o9),⟨hR8,hO9,?_,?_⟩,hlt,v6.mk (pj [0,1,2,3,4,5,6]) rfl rfl⟩;focus
        skip
       rotate_left
       ·dsimp only;rw[d6];exact hcn
      rotate_left
      focus
       have hN:nY rr out.length=(U.1,X):=by
        unfold nY;dsimp only;rw[<-e3,<-hU,hX2];rw[if_neg s0',if_neg (λc=>c.2.elim s2 s3)]
       refine nQ [.hp c0,.hp h5,.box b1 [pQ rb] 151,.box b2 [zs,zl] 41,.box b3 [sv A.2,oo.v] 41,.box b4 [iQ last] 3,.hp oo.h] λq' hq'=>?_;refine lQ 0 hd.hB ?_;refine l6 (i:=1) rfl (λw0 w' hok=>m6 w' (hok.mem 1 _ rfl) (hok.kle rfl rfl hd.hk) hR5) ?_;rintro _ h6 _ ⟨rfl,hR6⟩;have hR6:G9 k h6 b (x8 (U.1) [42]):=hR6;obtain⟨r6,e6⟩ :∃x,x=x8 (U.1) [42]:=⟨_,rfl⟩
       rw[<-e6] at hR6;apply hq';refine o7 λq' hq'=>?_;intro b7;apply hq';refine nQ [.hp c0,.hp h6,.box b1 [pQ rb] 151,.box b2 [zs,zl] 41,.box b3 [sv A.2,oo.v] 41,.box b4 [iQ last] 3,.hp oo.h,.box b7 [iQ (-1)] 3] λq' hq'=>?_;refine iJ (i:=7) (j:=1) dc rfl rfl (λw0 w' hok=>fP (cap:=[pQ b1,pQ b7,pQ b4]) (chk:=kJ names last) (fv:=mK names) w' (hok.inJ (i:=7) (j:=1) (c:=.box b7 [iQ (-1)] 3) (d:=.hp h6) rfl rfl) (hok.disj 7 1 _ _ dc rfl rfl) ((hd.to hR6).mono (hok.le2 (i:=7) (j:=1) (m:=0) dc dc rfl rfl rfl)) (λw2 hi2 hle s _=>by
        have hl0:=(hok.le2 (i:=7) (j:=1) (m:=0) dc dc rfl rfl rfl).trans hle;have hl1:=(hok.le2 (i:=7) (j:=1) (m:=2) dc dc rfl rfl rfl).trans hle;have hl4:=(hok.le2 (i:=7) (j:=1) (m:=5) dc dc rfl rfl rfl).trans hle;rw[hnames];exact fX (b1:=b1) (b7:=b7) (b4:=b4) (rb:=rb) (last:=last) (z:=-1) s w2 hi2 (hl1.cell (J3 b1 (cs:=[pQ rb]) _ rfl)) (hl0.cell hds) (hl4.cell (J3 b4 (cs:=[iQ last]) _ rfl)) (hD.mono (j7 _) hl0) hn)) ?_
       rintro _ _ h7 ⟨rfl,rfl,hR7⟩;have hT:iR names last rr out.length=((P2 r6 (kJ names last)).1,(XO names r6,X)):=by
        unfold iR;dsimp only;rw[hN];dsimp only;rw[<-e6]
       have hlt:=xU names last hRend hio out.length;have hcn:=qT names last hio hcnt;rw[hT] at hlt hcn;dsimp only at hlt hcn;obtain⟨at_,hat⟩ :∃x,x=XO names r6:=⟨_,rfl⟩
       have hat2:wA (-1) (mK names) r6=at_:=hat.symm;rw[<-hat] at hT;rw[hat2];obtain⟨r9,hr9⟩ :∃x,x=(P2 r6 (kJ names last)).1:=⟨_,rfl⟩
       rw[<-hr9] at hR7 hT hlt hcn;apply hq';refine nQ [.hp c0,.hp h7,.box b1 [pQ rb] 151,.box b2 [zs,zl] 41,.box b3 [sv A.2,oo.v] 41,.box b4 [iQ last] 3,.hp oo.h,.box b7 [iQ at_] 3] λq' hq'=>?_;apply hq';refine nQ [.hp c0,.hp h7,.box b1 [pQ rb] 151,.box b2 [zs,zl] 41,.box b3 [sv A.2,oo.v] 41,.box b4 [iQ at_] 3,.hp oo.h,.box b7 [iQ at_] 3] λq' hq'=>?_;intro b8;refine gF (f:=U0) (o:=oo) (L:=out) cQ (e:=80) rfl (i:=6) rfl hO (at_,X) (j:=8) rfl rfl rfl rfl om λo9 hO9=>?_;apply hq';refine⟨(r9,at_,out++[(at_,X)],h7,o9),⟨hR7,hO9,?_,?_⟩,hlt,v6.mk (pj [0,1,2,3,4,5,6]) rfl rfl⟩;focus
        skip
       rotate_left
       ·dsimp only;rw[d6];exact hcn
      all_goals
       cases f with
       | zero=>exact absurd hf (by have:=UE hRend hio;omega)
       | succ f=>
        refine⟨f,by dsimp only;omega,?_⟩;dsimp only;rw[<-htr];show _=iP names (f+1) rr last out
        conv=>rhs;unfold iP
        rw[if_pos hio,hT]
    rotate_left
    focus
     apply hq';refine dQ rfl ?_;have hN:nY rr out.length=(U.1,X):=by
      unfold nY;dsimp only;rw[<-e3,<-hU,hX2];rw[if_neg s0',if_neg (λc=>by rw[s1] at c;cases c.1)]
     refine nQ [.hp c0,.hp h5,.box b1 [pQ rb] 151,.box b2 [zs,zl] 41,.box b3 [sv A.2,oo.v] 41,.box b4 [iQ last] 3,.hp oo.h] λq' hq'=>?_;refine lQ 0 hd.hB ?_;refine l6 (i:=1) rfl (λw0 w' hok=>m6 w' (hok.mem 1 _ rfl) (hok.kle rfl rfl hd.hk) hR5) ?_;rintro _ h6 _ ⟨rfl,hR6⟩;have hR6:G9 k h6 b (x8 (U.1) [42]):=hR6;obtain⟨r6,e6⟩ :∃x,x=x8 (U.1) [42]:=⟨_,rfl⟩
     rw[<-e6] at hR6;apply hq';refine o7 λq' hq'=>?_;intro b7;apply hq';refine nQ [.hp c0,.hp h6,.box b1 [pQ rb] 151,.box b2 [zs,zl] 41,.box b3 [sv A.2,oo.v] 41,.box b4 [iQ last] 3,.hp oo.h,.box b7 [iQ (-1)] 3] λq' hq'=>?_;refine iJ (i:=7) (j:=1) dc rfl rfl (λw0 w' hok=>fP (cap:=[pQ b1,pQ b7,pQ b4]) (chk:=kJ names last) (fv:=mK names) w' (hok.inJ (i:=7) (j:=1) (c:=.box b7 [iQ (-1)] 3) (d:=.hp h6) rfl rfl) (hok.disj 7 1 _ _ dc rfl rfl) ((hd.to hR6).mono (hok.le2 (i:=7) (j:=1) (m:=0) dc dc rfl rfl rfl)) (λw2 hi2 hle s _=>by
      have hl0:=(hok.le2 (i:=7) (j:=1) (m:=0) dc dc rfl rfl rfl).trans hle;have hl1:=(hok.le2 (i:=7) (j:=1) (m:=2) dc dc rfl rfl rfl).trans hle;have hl4:=(hok.le2 (i:=7) (j:=1) (m:=5) dc dc rfl rfl rfl).trans hle;rw[hnames];exact fX (b1:=b1) (b7:=b7) (b4:=b4) (rb:=rb) (last:=last) (z:=-1) s w2 hi2 (hl1.cell (J3 b1 (cs:=[pQ rb]) _ rfl)) (hl0.cell hds) (hl4.cell (J3 b4 (cs:=[iQ last]) _ rfl)) (hD.mono (j7 _) hl0) hn)) ?_
     rintro _ _ h7 ⟨rfl,rfl,hR7⟩;have hT:iR names last rr out.length=((P2 r6 (kJ names last)).1,(XO names r6,X)):=by
      unfold iR;dsimp only;rw[hN];dsimp only;rw[<-e6]
     have hlt:=xU names last hRend hio out.length;have hcn:=qT names last hio hcnt;rw[hT] at hlt hcn;dsimp only at hlt hcn;obtain⟨at_,hat⟩ :∃x,x=XO names r6:=⟨_,rfl⟩
     have hat2:wA (-1) (mK names) r6=at_:=hat.symm;rw[<-hat] at hT;rw[hat2];obtain⟨r9,hr9⟩ :∃x,x=(P2 r6 (kJ names last)).1:=⟨_,rfl⟩
     rw[<-hr9] at hR7 hT hlt hcn;apply hq';refine nQ [.hp c0,.hp h7,.box b1 [pQ rb] 151,.box b2 [zs,zl] 41,.box b3 [sv A.2,oo.v] 41,.box b4 [iQ last] 3,.hp oo.h,.box b7 [iQ at_] 3] λq' hq'=>?_;apply hq';refine nQ [.hp c0,.hp h7,.box b1 [pQ rb] 151,.box b2 [zs,zl] 41,.box b3 [sv A.2,oo.v] 41,.box b4 [iQ at_] 3,.hp oo.h,.box b7 [iQ at_] 3] λq' hq'=>?_;intro b8;refine gF (f:=U0) (o:=oo) (L:=out) cQ (e:=80) rfl (i:=6) rfl hO (at_,X) (j:=8) rfl rfl rfl rfl om λo9 hO9=>?_;apply hq';refine⟨(r9,at_,out++[(at_,X)],h7,o9),⟨hR7,hO9,?_,?_⟩,hlt,v6.mk (pj [0,1,2,3,4,5,6]) rfl rfl⟩;focus
      skip
     rotate_left
     ·dsimp only;rw[d6];exact hcn
    all_goals
     cases f with
     | zero=>exact absurd hf (by have:=UE hRend hio;omega)
     | succ f=>
      refine⟨f,by dsimp only;omega,?_⟩;dsimp only;rw[<-htr];show _=iP names (f+1) rr last out
      conv=>rhs;unfold iP
      rw[if_pos hio,hT]
end Go.Proofs.YtpjhmeicbjkcdaaGreatDoor
namespace Go.Proofs.YtpjhmeicbjkcdaaGreatDoor
open Go Go.RowKit Go.Dw
set_option maxHeartbeats 4000000 in
set_option maxRecDepth 10000 in
theorem sY {k h:Hp} {rb b:Nat} {r:RS} {a:Option Addr} {n c:Nat} {L:List kY} {ad:Option Addr} {nd cd:Nat} {DD:List S1} (w:World) (hin:h.In w) (hd:DR ((Hp.whole w).minus h) k h rb b r) (hL:Sl kM 3 ((Hp.whole w).minus h) a n c L) (hn:L.length < 1000000)
  (hds:((Hp.whole w).minus h).cell? ⟨rb,1,none⟩=some (.slice ad nd cd)) (hD:Sl (B0 O1) 4 ((Hp.whole w).minus h) ad nd cd DD) (hdn:DD.length < 1000000) :
  j6 Tryz.prog 83 #[pQ rb,.slice a n c] w (O6 w h λv h' cs=>∃o,cs = [.hp o.h]/\(v=.agg #[sv (wN (L.map λx:kY=>x.1) (DD.map λx:S1=>x.1) r).2.1,sv (wN (L.map λx:kY=>x.1) (DD.map λx:S1=>x.1) r).2.2.1,o.v]/\w8 U0 80 2 o (wN (L.map λx:kY=>x.1) (DD.map λx:S1=>x.1) r).2.2.2/\G9 k h' b (wN (L.map λx:kY=>x.1) (DD.map λx:S1=>x.1) r).1)):=by
 have hlen:=hL.len;refine enterMZ (cx 65) [pQ rb,.slice a n c] hin [.cell 4 96] Tryz.func83 ?_;obtain⟨c0,hc0⟩ :∃c0,c0=(Hp.whole w).minus h:=⟨_,rfl⟩
 rw[<-hc0] at hd hL hds hD ⊢;obtain⟨names,hnames⟩ :∃l,l=L.map λx:kY=>x.1:=⟨_,rfl⟩
 rw[<-hnames];have hnl:n=names.length:=by rw[hnames,l7];exact hlen
 obtain⟨dims,hdims⟩ :∃l,l=DD.map λx:S1=>x.1:=⟨_,rfl⟩
 rw[<-hdims];intro b3 b4;refine o7 λq' hq'=>?_;apply hq';refine nQ [.hp c0,.hp h,.box b3 [.slice a n c] 27,.box b4 [zs,zs,zl] 96] λq' hq'=>?_;refine l6 (i:=1) rfl (λw0 w' hok=>N9 (n:=names.length) (m:=64) (by rw[hnl]) rfl w' (hok.mem 1 _ rfl) (hd.mono (hok.le01 rfl rfl))) ?_;rintro _ h1 _ ⟨rfl,hR1⟩;have hR1:G9 k h1 b (J2 (r) names.length 64):=hR1;apply hq';refine nQ [.hp c0,.hp h1,.box b3 [.slice a n c] 27,.box b4 [zs,zs,zl] 96] λq' hq'=>?_;refine lQ 0 hd.hB ?_;refine l6 (i:=1) rfl (λw0 w' hok=>m6 w' (hok.mem 1 _ rfl) (hok.kle rfl rfl hd.hk) hR1) ?_;rintro _ h2 _ ⟨rfl,hR2⟩;have hR2:G9 k h2 b (x8 (J2 (r) names.length 64) qP):=hR2;obtain⟨r2,e2⟩ :∃x,x=x8 (J2 (r) names.length 64) qP:=⟨_,rfl⟩
 rw[<-e2] at hR2;apply hq';refine nQ [.hp c0,.hp h2,.box b3 [.slice a n c] 27,.box b4 [zs,zs,zl] 96] λq' hq'=>?_;refine call (λw' hm=>V7 _ _ _ w') ?_;rintro _ _ ⟨b5,b6,rfl,rfl⟩;refine l6 (i:=1) rfl (λw0 w' hok=>P8 (cap:=[pQ b5,pQ b6]) (chk:=dY names) w' (hok.mem 1 _ rfl) ((hd.to hR2).mono (hok.le01 rfl rfl)) (λw1 hi1 s _=>T5 (cap:=[pQ b3]) s w1 om (by rw[<-hnl];exact hi1.whole.cell (hok.bx1 (j:=4) (n:=0) rfl rfl dc rfl)) (hi1.whole.cell (hok.bx1 (j:=5) (n:=0) rfl rfl dc rfl)) (λw2 hi2 i hi=>by
  have hle:c0.le (Hp.whole w2):=((hok.le01 rfl rfl).trans hi1.whole).trans hi2.whole;subst hnames;exact IU (L:=L) i w2 ((hi1.whole.trans hi2.whole).cell (hok.bx1 (j:=2) (n:=0) rfl rfl dc rfl)) (hL.mono S5 hle) hi))) ?_
 rintro _ h3 _ ⟨rfl,rfl,hR3⟩;obtain⟨A,hA⟩ :∃x,x=P2 (r2) (dY names):=⟨_,rfl⟩
 rw[<-hA] at hR3 ⊢;intro b7;apply hq';refine nQ [.hp c0,.hp h3,.box b3 [.slice a n c] 27,.box b4 [zs,zs,zl] 96,.box b5 [iQ n] 3,.box b6 [.func (.func 170) #[] #[pQ b3]] 110,.box b7 [sv A.2,zs,zl] 96] λq' hq'=>?_;refine lQ 0 hd.hB ?_;refine l6 (i:=1) rfl (λw0 w' hok=>m6 w' (hok.mem 1 _ rfl) (hok.kle rfl rfl hd.hk) hR3) ?_;rintro _ h4 _ ⟨rfl,hR4⟩;have hR4:G9 k h4 b (x8 (A.1) [58]):=hR4;obtain⟨r4,e4⟩ :∃x,x=x8 (A.1) [58]:=⟨_,rfl⟩
 rw[<-e4] at hR4;apply hq';refine nQ [.hp c0,.hp h4,.box b3 [.slice a n c] 27,.box b4 [zs,zs,zl] 96,.box b5 [iQ n] 3,.box b6 [.func (.func 170) #[] #[pQ b3]] 110,.box b7 [sv A.2,zs,zl] 96] λq' hq'=>?_;refine l6 (i:=1) rfl (λw0 w' hok=>mL w' (hok.mem 1 _ rfl) ((hd.to hR4).mono (hok.le01 rfl rfl)) ((hok.le01 rfl rfl).cell hds) (hD.mono (j7 _) (hok.le01 rfl rfl)) hdn) ?_;rintro _ h5 _ ⟨o,rfl,rfl,hO,hR5⟩;rw[<-hdims] at hR5 hO;obtain⟨F,hF⟩ :∃x,x=sA dims (r4):=⟨_,rfl⟩
 have hF2:sA (DD.map λx:S1=>x.1) r4=F:=by rw[hF,hdims]
 rw[<-hF] at hR5 hO;rw[hF2];apply hq';refine nQ [.hp c0,.hp h5,.box b3 [.slice a n c] 27,.box b4 [zs,zs,zl] 96,.box b5 [iQ n] 3,.box b6 [.func (.func 170) #[] #[pQ b3]] 110,.box b7 [sv A.2,sv F.2.1,o.v] 96,.hp o.h] λq' hq'=>?_;refine lQ 0 hd.hB ?_;refine l6 (i:=1) rfl (λw0 w' hok=>m6 w' (hok.mem 1 _ rfl) (hok.kle rfl rfl hd.hk) hR5) ?_;rintro _ h6 _ ⟨rfl,hR6⟩;have hR6:G9 k h6 b (x8 (F.1) [60,61]):=hR6;obtain⟨r6,e6⟩ :∃x,x=x8 (F.1) [60,61]:=⟨_,rfl⟩
 rw[<-e6] at hR6;apply hq';refine nQ [.hp c0,.hp h6,.box b3 [.slice a n c] 27,.box b4 [zs,zs,zl] 96,.box b5 [iQ n] 3,.box b6 [.func (.func 170) #[] #[pQ b3]] 110,.box b7 [sv A.2,sv F.2.1,o.v] 96,.hp o.h] λq' hq'=>?_;refine lQ 0 hd.hB ?_;refine k7 _ (λw' hm=>S7 w' (hm 1 _ rfl) (hd.hk.trans (hm 0 _ rfl).whole) hR6) ?_;obtain⟨⟨K,T,ln,co⟩,hP⟩ :∃p,p=C7 r6:=⟨_,rfl⟩
 rw[<-hP];intro b8;apply hq';refine nQ [.hp c0,.hp h6,.box b3 [.slice a n c] 27,.box b4 [zs,zs,zl] 96,.box b5 [iQ n] 3,.box b6 [.func (.func 170) #[] #[pQ b3]] 110,.box b7 [sv A.2,sv F.2.1,o.v] 96,.hp o.h,.box b8 [iQ K,sv T,iQ ln,iQ co] 211] λq' hq'=>?_;have eF :∀R9,R9=(if (C7 r6).1≠2\/(C7 r6).2.1≠[48] then y7 r6 14 else r6)->wN names dims r=(x8 (E5 R9) [59],(A.2,F.2)):=by
  rintro _ rfl;unfold wN;dsimp only;rw[<-e2,<-hA,<-e4,<-hF,<-e6]
 refine d8 (λs1=>?_) λs1=>?_
 ·apply hq';refine RW rfl ?_;refine nQ [.hp c0,.hp h6,.box b3 [.slice a n c] 27,.box b4 [zs,zs,zl] 96,.box b5 [iQ n] 3,.box b6 [.func (.func 170) #[] #[pQ b3]] 110,.box b7 [sv A.2,sv F.2.1,o.v] 96,.hp o.h,.box b8 [iQ K,sv T,iQ ln,iQ co] 211] λq' hq'=>?_;refine lQ 0 hd.hB ?_;refine l6 (i:=1) rfl (λw0 w' hok=>G8 w' (hok.mem 1 _ rfl) (hok.kle rfl rfl hd.hk) hR6) ?_;rintro _ h7 _ ⟨rfl,hR7⟩;have hR7:G9 k h7 b (y7 (r6) 14):=hR7;apply hq';refine nQ [.hp c0,.hp h7,.box b3 [.slice a n c] 27,.box b4 [zs,zs,zl] 96,.box b5 [iQ n] 3,.box b6 [.func (.func 170) #[] #[pQ b3]] 110,.box b7 [sv A.2,sv F.2.1,o.v] 96,.hp o.h,.box b8 [iQ K,sv T,iQ ln,iQ co] 211] λq' hq'=>?_;refine lQ 0 hd.hB ?_;refine l6 (i:=1) rfl (λw0 w' hok=>cO w' (hok.mem 1 _ rfl) (hok.kle rfl rfl hd.hk) hR7) ?_;rintro _ h8 _ ⟨rfl,rfl,hR8⟩;have hR8:G9 k h8 b (E5 (y7 (r6) 14)):=hR8;apply hq';refine nQ [.hp c0,.hp h8,.box b3 [.slice a n c] 27,.box b4 [zs,zs,zl] 96,.box b5 [iQ n] 3,.box b6 [.func (.func 170) #[] #[pQ b3]] 110,.box b7 [sv A.2,sv F.2.1,o.v] 96,.hp o.h,.box b8 [iQ K,sv T,iQ ln,iQ co] 211] λq' hq'=>?_;refine lQ 0 hd.hB ?_;refine l6 (i:=1) rfl (λw0 w' hok=>m6 w' (hok.mem 1 _ rfl) (hok.kle rfl rfl hd.hk) hR8) ?_;rintro _ h9 _ ⟨rfl,hR9⟩;have hR9:G9 k h9 b (x8 (E5 (y7 (r6) 14)) [59]):=hR9;apply hq';rw[eF (y7 (r6) 14) (by rw[<-hP,if_pos (.inl s1)])];exact⟨h9,[.hp o.h],⟨o,rfl,rfl,hO,hR9⟩,pk [0,1,7]⟩
 ·refine cG (b:=[48]) ?_;apply hq';refine d8 (λs2=>?_) λs2=>?_
  ·refine nQ [.hp c0,.hp h6,.box b3 [.slice a n c] 27,.box b4 [zs,zs,zl] 96,.box b5 [iQ n] 3,.box b6 [.func (.func 170) #[] #[pQ b3]] 110,.box b7 [sv A.2,sv F.2.1,o.v] 96,.hp o.h,.box b8 [iQ K,sv T,iQ ln,iQ co] 211] λq' hq'=>?_;refine lQ 0 hd.hB ?_;refine l6 (i:=1) rfl (λw0 w' hok=>G8 w' (hok.mem 1 _ rfl) (hok.kle rfl rfl hd.hk) hR6) ?_;rintro _ h7 _ ⟨rfl,hR7⟩;have hR7:G9 k h7 b (y7 (r6) 14):=hR7;apply hq';refine nQ [.hp c0,.hp h7,.box b3 [.slice a n c] 27,.box b4 [zs,zs,zl] 96,.box b5 [iQ n] 3,.box b6 [.func (.func 170) #[] #[pQ b3]] 110,.box b7 [sv A.2,sv F.2.1,o.v] 96,.hp o.h,.box b8 [iQ K,sv T,iQ ln,iQ co] 211] λq' hq'=>?_;refine lQ 0 hd.hB ?_;refine l6 (i:=1) rfl (λw0 w' hok=>cO w' (hok.mem 1 _ rfl) (hok.kle rfl rfl hd.hk) hR7) ?_;rintro _ h8 _ ⟨rfl,rfl,hR8⟩;have hR8:G9 k h8 b (E5 (y7 (r6) 14)):=hR8;apply hq';refine nQ [.hp c0,.hp h8,.box b3 [.slice a n c] 27,.box b4 [zs,zs,zl] 96,.box b5 [iQ n] 3,.box b6 [.func (.func 170) #[] #[pQ b3]] 110,.box b7 [sv A.2,sv F.2.1,o.v] 96,.hp o.h,.box b8 [iQ K,sv T,iQ ln,iQ co] 211] λq' hq'=>?_;refine lQ 0 hd.hB ?_;refine l6 (i:=1) rfl (λw0 w' hok=>m6 w' (hok.mem 1 _ rfl) (hok.kle rfl rfl hd.hk) hR8) ?_;rintro _ h9 _ ⟨rfl,hR9⟩;have hR9:G9 k h9 b (x8 (E5 (y7 (r6) 14)) [59]):=hR9;apply hq';rw[eF (y7 (r6) 14) (by rw[<-hP,if_pos (.inr s2)])];exact⟨h9,[.hp o.h],⟨o,rfl,rfl,hO,hR9⟩,pk [0,1,7]⟩
  ·refine nQ [.hp c0,.hp h6,.box b3 [.slice a n c] 27,.box b4 [zs,zs,zl] 96,.box b5 [iQ n] 3,.box b6 [.func (.func 170) #[] #[pQ b3]] 110,.box b7 [sv A.2,sv F.2.1,o.v] 96,.hp o.h,.box b8 [iQ K,sv T,iQ ln,iQ co] 211] λq' hq'=>?_;refine lQ 0 hd.hB ?_;refine l6 (i:=1) rfl (λw0 w' hok=>cO w' (hok.mem 1 _ rfl) (hok.kle rfl rfl hd.hk) hR6) ?_;rintro _ h7 _ ⟨rfl,rfl,hR7⟩;have hR7:G9 k h7 b (E5 (r6)):=hR7;apply hq';refine nQ [.hp c0,.hp h7,.box b3 [.slice a n c] 27,.box b4 [zs,zs,zl] 96,.box b5 [iQ n] 3,.box b6 [.func (.func 170) #[] #[pQ b3]] 110,.box b7 [sv A.2,sv F.2.1,o.v] 96,.hp o.h,.box b8 [iQ K,sv T,iQ ln,iQ co] 211] λq' hq'=>?_;refine lQ 0 hd.hB ?_;refine l6 (i:=1) rfl (λw0 w' hok=>m6 w' (hok.mem 1 _ rfl) (hok.kle rfl rfl hd.hk) hR7) ?_;rintro _ h8 _ ⟨rfl,hR8⟩;have hR8:G9 k h8 b (x8 (E5 (r6)) [59]):=hR8;apply hq';rw[eF (r6) (by rw[<-hP,if_neg (λc=>c.elim s1 s2)])];exact⟨h8,[.hp o.h],⟨o,rfl,rfl,hO,hR8⟩,pk [0,1,7]⟩
end Go.Proofs.YtpjhmeicbjkcdaaGreatDoor
namespace Go.Proofs.YtpjhmeicbjkcdaaGreatDoor
open Go Go.RowKit Go.Dw
set_option maxHeartbeats 4000000 in
set_option maxRecDepth 10000 in
theorem mE {α:Type} {tk:RS->RS×α} {cells:List α->List Value} {k h:Hp} {rb b bx T g:Nat} {r:RS} {n:Nat} {cap:List Value} (w:World) (hin:((Ch.box bx (cells []) T).h.join h).In w) (hdj:(Ch.box bx (cells []) T).h.dj h) (hd:DR ((Hp.whole w).minus ((Ch.box bx (cells []) T).h.join h)) k h rb b r) (hn:n < 1000000)
  (hc :∀w' (out:List α) (r':RS) (h':Hp),out.length < n->((Ch.box bx (cells out) T).h.join h').In w'->(Ch.box bx (cells out) T).h.dj h'->((Hp.whole w).minus ((Ch.box bx (cells []) T).h.join h)).le ((Hp.whole w').minus ((Ch.box bx (cells out) T).h.join h'))->G9 k h' b r'->
   j6 Tryz.prog g (iQ out.length::cap).toArray w' (O6 w' ((Ch.box bx (cells out) T).h.join h') λ_ h2 cs=>∃ys,cs = [.box bx ys T]/\(ys=cells (out++[(tk r').2])/\G9 k h2 b (tk r').1))) :
  j6 Tryz.prog 160 #[pQ rb,iQ n,.func (.func g) #[] cap.toArray] w (O6 w ((Ch.box bx (cells []) T).h.join h) λ_ h' cs=>∃ys,cs = [.box bx ys T]/\(ys=cells (mD tk n r).2/\G9 k h' b (mD tk n r).1)):=by
 have ok0:=Ok.startB hin hdj;refine enterMSZ (cx 32) [pQ rb,iQ n,.func (.func g) #[] cap.toArray] ok0 [] Tryz.func160 ?_;obtain⟨c0,hc0⟩ :∃c0,c0=(Hp.whole w).minus ((Ch.box bx (cells []) T).h.join h):=⟨_,rfl⟩
 rw[<-hc0] at hd hc ⊢;refine lQ 0 hd.hB ?_;refine l6 (i:=1) rfl (λw0 w' hok=>m6 w' (hok.mem 1 _ rfl) (hok.kle rfl rfl hd.hk) hd.hR) ?_;rintro _ h1 _ ⟨rfl,hR1⟩;obtain⟨r1,e1⟩ :∃x,x=x8 r [40]:=⟨_,rfl⟩
 have hR1:G9 k h1 b r1:=by rw[e1];exact hR1
 have hil :∀i,(bY tk i r1).2.length=i:=by
  intro i;induction i with
  | zero=>rfl
  | succ i ih=>show ((bY tk i r1).2++[_]).length=_;rw[d6,ih];rfl
 refine u6.mk (Nat×Hp) (λg'=>[(0,.v (pQ rb)),(2,.v (.func (.func g) #[] cap.toArray)),(12,.v (iQ n)),(13,.v (iQ g'.1))]) (λg'=>[.hp c0,.hp g'.2,.box bx (cells (bY tk g'.1 r1).2) T])
  (λg'=>g'.1<=n/\G9 k g'.2 b (bY tk g'.1 r1).1) (λg'=>n - g'.1) (0,h1) ⟨f8 _,hR1⟩ (v6.mk (λ_ _ h=>h) rfl rfl) ?_
 rintro⟨i,hh⟩ ⟨hi,hRi⟩;dsimp only at hi hRi ⊢;refine d8 (λg1=>?_) λg1=>?_
 ·have hin1:i < n:=om
  have key :∀h2,G9 k h2 b (if 0 < i then x8 (bY tk i r1).1 [44] else (bY tk i r1).1)->∀w0 w',Ok w0 [.hp c0,.hp h2,.box bx (cells (bY tk i r1).2) T] w'->
    j6 Tryz.prog g (iQ i::cap).toArray w' (O6 w' ((Ch.box bx (cells (bY tk i r1).2) T).h.join h2) λ_ h3 cs=>∃ys,cs = [.box bx ys T]/\(ys=cells (bY tk (i+1) r1).2/\G9 k h3 b (bY tk (i+1) r1).1)):=by
   intro h2 hR2 w0 w' hok;have:=hc w' (bY tk i r1).2 _ h2 (by rw[hil];exact hin1) (hok.inJ (i:=2) (j:=1) (c:=.box bx (cells (bY tk i r1).2) T) (d:=.hp h2) rfl rfl) (hok.disj 2 1 _ _ dc rfl rfl) (hok.le2 (i:=2) (j:=1) (m:=0) dc dc rfl rfl rfl) hR2;rw[hil] at this;exact this
  refine d8 (λg2=>?_) λg2=>?_;focus
   refine lQ 0 hd.hB ?_;refine l6 (i:=1) rfl (λw0 w' hok=>m6 w' (hok.mem 1 _ rfl) (hok.kle rfl rfl hd.hk) hRi) ?_;rintro _ h2 _ ⟨rfl,hR2⟩;refine X9 [.hp c0,.hp h2,.box bx (cells (bY tk i r1).2) T] rfl ?_;refine mM ?_;refine iJ (i:=2) (j:=1) dc rfl rfl (λw0 w' hok=>key h2 (by rw[if_pos om];exact hR2) w0 w' hok) ?_
  rotate_left
  focus
   refine X9 [.hp c0,.hp hh,.box bx (cells (bY tk i r1).2) T] rfl ?_;refine mM ?_;refine iJ (i:=2) (j:=1) dc rfl rfl (λw0 w' hok=>key hh (by rw[if_neg om];exact hRi) w0 w' hok) ?_
  all_goals
   rintro _ _ h3 ⟨rfl,hR3⟩;refine nwo ?_;exact⟨(i+1,h3),⟨hin1,hR3⟩,by dsimp only;omega,v6.mk (λ_ _ h=>h) rfl rfl⟩
 ·have e:i=n:=om
  subst e;refine lQ 0 hd.hB ?_;refine l6 (i:=1) rfl (λw0 w' hok=>m6 w' (hok.mem 1 _ rfl) (hok.kle rfl rfl hd.hk) hRi) ?_;rintro _ h2 _ ⟨rfl,hR2⟩;have eL:mD tk i r=(x8 (bY tk i r1).1 [41],(bY tk i r1).2):=by unfold mD;rw[<-e1]
  rw[eL];exact⟨h2,[.box bx (cells (bY tk i r1).2) T],⟨_,rfl,rfl,hR2⟩,pk [0,1,2]⟩
end Go.Proofs.YtpjhmeicbjkcdaaGreatDoor
namespace Go.Dw
open Go Go.RowKit
theorem CQ {X:R5} {s:List Ch} (hX:X.Good) {T e len:Nat} {te ti:TI} (ht:I2 X.tt T=some ti) (hk:ti.k=.ar len e) (hte:I2 X.tt e=some te) (h1:te.size=1) {b off:Nat} {k:IntKind} {x:Int} (m:Nat) (hx:x=m) (hm:m < len) {q:TV->Prop}
  (hq:q (.v (.pointer (some ⟨b,0+(off+m),none⟩)))):B7 X.P s (Instr.indexAt T (.pointer (some ⟨b,off,none⟩)) (.int k x)) q:=
 EU hX ht hk hte m hx (Nat.ble_eq_true_of_le hm) (by rw[h1,E3,<-y8 (off+m)];exact hq)
end Go.Dw
namespace Go.Proofs.YtpjhmeicbjkcdaaGreatDoor
open Go Go.RowKit Go.Dw
def rK {α:Type} (f:α->Value) (z:Value) (n:Nat) (out:List α):List Value:=out.map f++p7 (n - out.length) z
theorem iW {α:Type} (f:α->Value) (z:Value) {n:Nat} {out:List α} (h:out.length<=n):(rK f z n out).length=n:=by
 unfold rK;rw[d6,l7,O9];omega
theorem yP {α:Type} (f:α->Value) (z:Value) {n:Nat} {out:List α} (x:α) (h:out.length < n):(rK f z n out).set out.length (f x)=rK f z n (out++[x]):=by
 unfold rK;obtain⟨m,hm⟩ :∃m,n - out.length=m+1:=⟨n - out.length - 1,om⟩
 rw[hm,qF,JF _ _ (by rw[l7];exact k8 _),l7,bS,List.set_cons_zero,E9,o6,d6];have:n - (out.length+[x].length)=m:=by simp only[d7,d9];omega
 rw[this];rfl
theorem GC {α:Type} (a b c:List α) (i:Nat) (x:α) (h:i < b.length):(a++(b++c)).set (a.length+i) x=a++(b.set i x++c):=by
 rw[JF _ _ (aO _ _),BS,List.set_append_left _ _ h]
section
variable {k h:Hp} {rb b b1 bx:Nat} {r:RS} {xs:List Value}
theorem KS (i:Nat) (w:World) (hin:((Ch.box bx xs 122).h.join h).In w) (hdj:(Ch.box bx xs 122).h.dj h) (hb1:((Hp.whole w).minus ((Ch.box bx xs 122).h.join h)).cell? ⟨b1,0,none⟩=some (pQ rb)) (hd:DR ((Hp.whole w).minus ((Ch.box bx xs 122).h.join h)) k h rb b r) (hi:i < 3) (hx:xs.length=3) :
  j6 Tryz.prog 161 #[iQ i,pQ b1,pQ bx] w (O6 w ((Ch.box bx xs 122).h.join h) λ_ h2 cs=>∃ys,cs = [.box bx ys 122]/\(ys=xs.set (i) (iQ (Z1 r (-4096) 4096).2)/\G9 k h2 b (Z1 r (-4096) 4096).1)):=by
 have ok0:=Ok.startB hin hdj;refine enterMSZ (cx 11) [iQ i,pQ b1,pQ bx] ok0 [] Tryz.func161 ?_;obtain⟨c0,hc0⟩ :∃c0,c0=(Hp.whole w).minus ((Ch.box bx xs 122).h.join h):=⟨_,rfl⟩
 rw[<-hc0] at hb1 hd ⊢;refine lQ 0 hb1 ?_;refine lQ 0 hd.hB ?_;refine l6 (i:=1) rfl (λw0 w' hok=>tK w' (hok.mem 1 _ rfl) (hok.kle rfl rfl hd.hk) hd.hR) ?_;rintro _ h2 _ ⟨rfl,rfl,hR2⟩;refine CQ cQ (T:=122) (e:=3) (len:=3) rfl rfl rfl rfl i rfl hi ?_;refine fI cQ (i:=2) (j:=0+i) rfl rfl rfl om rfl rfl ?_;have ei:0+i=i:=om
 rw[ei];exact⟨h2,[.box bx (xs.set (i) (iQ (Z1 r (-4096) 4096).2)) 122],⟨_,rfl,rfl,hR2⟩,pk [0,1,2]⟩
theorem RG (i:Nat) (w:World) (hin:((Ch.box bx xs 93).h.join h).In w) (hdj:(Ch.box bx xs 93).h.dj h) (hb1:((Hp.whole w).minus ((Ch.box bx xs 93).h.join h)).cell? ⟨b1,0,none⟩=some (pQ rb)) (hd:DR ((Hp.whole w).minus ((Ch.box bx xs 93).h.join h)) k h rb b r) (hi:i < 4) (hx:xs.length=9) :
  j6 Tryz.prog 165 #[iQ i,pQ b1,pQ bx] w (O6 w ((Ch.box bx xs 93).h.join h) λ_ h2 cs=>∃ys,cs = [.box bx ys 93]/\(ys=xs.set (2+i) (iQ (Z1 r (-12) 12).2)/\G9 k h2 b (Z1 r (-12) 12).1)):=by
 have ok0:=Ok.startB hin hdj;refine enterMSZ (cx 13) [iQ i,pQ b1,pQ bx] ok0 [] Tryz.func165 ?_;obtain⟨c0,hc0⟩ :∃c0,c0=(Hp.whole w).minus ((Ch.box bx xs 93).h.join h):=⟨_,rfl⟩
 rw[<-hc0] at hb1 hd ⊢;refine lQ 0 hb1 ?_;refine lQ 0 hd.hB ?_;refine l6 (i:=1) rfl (λw0 w' hok=>tK w' (hok.mem 1 _ rfl) (hok.kle rfl rfl hd.hk) hd.hR) ?_;rintro _ h2 _ ⟨rfl,rfl,hR2⟩;refine CQ cQ (T:=87) (e:=3) (len:=4) rfl rfl rfl rfl i rfl hi ?_;refine fI cQ (i:=2) (j:=0+2+0+i) rfl rfl rfl om rfl rfl ?_;have ei:0+2+0+i=2+i:=om
 rw[ei];exact⟨h2,[.box bx (xs.set (2+i) (iQ (Z1 r (-12) 12).2)) 93],⟨_,rfl,rfl,hR2⟩,pk [0,1,2]⟩
theorem RF (i:Nat) (w:World) (hin:((Ch.box bx xs 93).h.join h).In w) (hdj:(Ch.box bx xs 93).h.dj h) (hb1:((Hp.whole w).minus ((Ch.box bx xs 93).h.join h)).cell? ⟨b1,0,none⟩=some (pQ rb)) (hd:DR ((Hp.whole w).minus ((Ch.box bx xs 93).h.join h)) k h rb b r) (hi:i < 3) (hx:xs.length=9) :
  j6 Tryz.prog 166 #[iQ i,pQ b1,pQ bx] w (O6 w ((Ch.box bx xs 93).h.join h) λ_ h2 cs=>∃ys,cs = [.box bx ys 93]/\(ys=xs.set (6+i) (sv (R6 r).2)/\G9 k h2 b (R6 r).1)):=by
 have ok0:=Ok.startB hin hdj;refine enterMSZ (cx 10) [iQ i,pQ b1,pQ bx] ok0 [] Tryz.func166 ?_;obtain⟨c0,hc0⟩ :∃c0,c0=(Hp.whole w).minus ((Ch.box bx xs 93).h.join h):=⟨_,rfl⟩
 rw[<-hc0] at hb1 hd ⊢;refine lQ 0 hb1 ?_;refine l6 (i:=1) rfl (λw0 w' hok=>W5 w' (hok.mem 1 _ rfl) (hd.mono (hok.le01 rfl rfl))) ?_;rintro _ h2 _ ⟨rfl,rfl,hR2⟩;refine CQ cQ (T:=89) (e:=38) (len:=3) rfl rfl rfl rfl i rfl hi ?_;refine fI cQ (i:=2) (j:=0+2+4+i) rfl rfl rfl om rfl rfl ?_;have ei:0+2+4+i=6+i:=om
 rw[ei];exact⟨h2,[.box bx (xs.set (6+i) (sv (R6 r).2)) 93],⟨_,rfl,rfl,hR2⟩,pk [0,1,2]⟩
end
end Go.Proofs.YtpjhmeicbjkcdaaGreatDoor
namespace Go.Proofs.YtpjhmeicbjkcdaaGreatDoor
open Go Go.RowKit Go.Dw
theorem LQ {b:Nat} {s:e8} (p:W3) (a:Option Addr) (n c:Nat) (w:World) (hc:(Hp.whole w).cell? ⟨b,0,none⟩=some (sv s)):j6 Tryz.prog 164 #[.agg #[sv p.1,iQ p.2.1,.slice a n c],pQ b] w (v7 w (.bool (decide (p.1=s)))):=by
 refine enterZ (cx 8) [.agg #[sv p.1,iQ p.2.1,.slice a n c],pQ b] [.tmp 3] Tryz.func164 ?_;intro b2;refine lQ 0 hc ?_;refine W8 ?_;exact⟨[],⟨rfl,rfl⟩,pk [0]⟩
theorem YQ (P:List W3) (s:e8):(P.any λp:W3=>decide (p.1=s))=decide (s∈P.map λp:W3=>p.1):=by
 induction P with
 | nil=>rfl
 | cons y r ih=>
  rw[Nc,ih,<-Bool.decide_or,decide_eq_decide,N7,A8];exact⟨λh=>h.imp_left Eq.symm,λh=>h.imp_left Eq.symm⟩
theorem RD {b3:Nat} {a:Option Addr} {n c:Nat} {P:List W3} (s:e8) (w:World) (hc:(Hp.whole w).cell? ⟨b3,0,none⟩=some (.slice a n c)) (hP:Sl bN 3 (Hp.whole w) a n c P) (hn:P.length < 1000000) :
  j6 Tryz.prog 163 #[sv s,pQ b3] w (v7 w (iQ (TB (P.map λp:W3=>p.1) s))):=by
 have hpl:=hP.len;refine enterZ (cx 9) [sv s,pQ b3] [.tmp 3] Tryz.func163 ?_;intro b2;refine lQ 0 hc ?_;refine k7 _ (λw' hm=>cB 164 (pQ b2) (λp:W3=>decide (p.1=s)) w' (hP.mono I9 (hm 0 _ rfl).whole) om (λw2 hi2 p _ cs _ hcs=>by
  obtain⟨a3,n3,c3,rfl⟩:=hcs;exact LQ p a3 n3 c3 w2 ((hi2.le (hm 1 _ rfl).whole).whole.cell (bP b2 _ _)))) ?_
 rw[YQ];unfold TB;refine s8 (λg1=>?_) λg1=>?_
 ·rw[if_neg (by simpa using g1)];exact⟨[],⟨rfl,rfl⟩,pk [0]⟩
 ·rw[if_pos (by simpa using g1)];exact⟨[],⟨rfl,rfl⟩,pk [0]⟩
end Go.Proofs.YtpjhmeicbjkcdaaGreatDoor
namespace Go.Proofs.YtpjhmeicbjkcdaaGreatDoor
open Go Go.RowKit Go.Dw
theorem HO {α:Type} (tk:RS->RS×α) :∀n r,(bY tk n r).2.length=n
 | 0,_=>rfl
 | n+1,r=>by show ((bY tk n r).2++[_]).length=_;rw[d6,HO tk n r];rfl
theorem zE {α:Type} (tk:RS->RS×α) (n:Nat) (r:RS):(mD tk n r).2.length=n:=HO tk n _
abbrev vI (x:Int):Value:=iQ x
abbrev vS (x:e8):Value:=sv x
def kK (A B:e8) (C:List Int) (D:List e8):List Value:=[vS A,vS B]++(rK vI (vI 0) 4 C++rK vS (vS []) 3 D)
theorem HU {A B:e8} {C:List Int} {D:List e8} (h1:C.length<=4) (h2:D.length<=3):(kK A B C D).length=9:=by
 unfold kK;rw[d6,d6,iW _ _ h1,iW _ _ h2];rfl
theorem RE {A B:e8} {C:List Int} {D:List e8} (x:Int) (h:C.length < 4):(kK A B C D).set (2+C.length) (vI x)=kK A B (C++[x]) D:=by
 unfold kK;rw[<-yP vI (vI 0) x h];exact GC [vS A,vS B] _ _ C.length (vI x) (by rw[iW _ _ (kA h)];exact h)
theorem LT {A B:e8} {C:List Int} {D:List e8} (x:e8) (hC:C.length=4) (h:D.length < 3):(kK A B C D).set (6+D.length) (vS x)=kK A B C (D++[x]):=by
 unfold kK;rw[<-yP vS (vS []) x h];have e:=GC ([vS A,vS B]++rK vI (vI 0) 4 C) (rK vS (vS []) 3 D) [] D.length (vS x) (by rw[iW _ _ (kA h)];exact h);rw[p8,p8,d6,iW _ _ (Nat.le_of_eq hC),o6,o6] at e;exact e
theorem VV {A B:e8} {C:List Int} {D:List e8} (hC:C.length=4) (hD:D.length=3):kK A B C D=dM (A,B,(C.getD 0 0,C.getD 1 0,C.getD 2 0,C.getD 3 0),(D.getD 0 [],D.getD 1 [],D.getD 2 [])):=by
 match C,hC with
 | [a,b,c,d],_=>
  match D,hD with
  | [x,y,z],_=>rfl
set_option maxHeartbeats 4000000 in
set_option maxRecDepth 10000 in
theorem wK {k h:Hp} {rb b:Nat} {r:RS} {a ap:Option Addr} {n c np cp:Nat} {L:List mX} {P:List W3} (w:World) (hin:h.In w) (hd:DR ((Hp.whole w).minus h) k h rb b r) (hL:Sl (B0 dM) 9 ((Hp.whole w).minus h) a n c L) (hn:L.length < 1000000)
  (hP:Sl bN 3 ((Hp.whole w).minus h) ap np cp P) (hpn:P.length < 1000000) :
  j6 Tryz.prog 81 #[pQ rb,.agg #[.slice ap np cp,.slice a n c]] w (SL w k h b (.agg (dM (BD (P.map λp:W3=>p.1) (L.map λx:mX=>x.1) r).2).toArray) (BD (P.map λp:W3=>p.1) (L.map λx:mX=>x.1) r).1):=by
 have hlen:=hL.len;refine enterMZ (cx 56) [pQ rb,.agg #[.slice ap np cp,.slice a n c]] hin [.cell 4 93] Tryz.func81 ?_;obtain⟨c0,hc0⟩ :∃c0,c0=(Hp.whole w).minus h:=⟨_,rfl⟩
 rw[<-hc0] at hd hL hP ⊢;obtain⟨names,hnames⟩ :∃l,l=L.map λx:mX=>x.1:=⟨_,rfl⟩
 rw[<-hnames];have hnl:n=names.length:=by rw[hnames,l7];exact hlen
 obtain⟨parts,hparts⟩ :∃l,l=P.map λp:W3=>p.1:=⟨_,rfl⟩
 rw[<-hparts];intro b2 b3 b4;intro b5;refine o7 λq' hq'=>?_;apply hq';refine nQ [.hp c0,.hp h,.box b2 [pQ rb] 151,.box b3 [.slice ap np cp,.slice a n c] 25,.box b4 [zs,zs,iQ 0,iQ 0,iQ 0,iQ 0,zs,zs,zs] 93,.box b5 [.slice a n c] 23] λq' hq'=>?_;refine l6 (i:=1) rfl (λw0 w' hok=>N9 (n:=names.length) (m:=12) (by rw[hnl]) rfl w' (hok.mem 1 _ rfl) (hd.mono (hok.le01 rfl rfl))) ?_;rintro _ h1 _ ⟨rfl,hR1⟩;have hR1:G9 k h1 b (J2 (r) names.length 12):=hR1;apply hq';refine nQ [.hp c0,.hp h1,.box b2 [pQ rb] 151,.box b3 [.slice ap np cp,.slice a n c] 25,.box b4 [zs,zs,iQ 0,iQ 0,iQ 0,iQ 0,zs,zs,zs] 93,.box b5 [.slice a n c] 23] λq' hq'=>?_;refine lQ 0 hd.hB ?_;refine l6 (i:=1) rfl (λw0 w' hok=>m6 w' (hok.mem 1 _ rfl) (hok.kle rfl rfl hd.hk) hR1) ?_;rintro _ h2 _ ⟨rfl,hR2⟩;have hR2:G9 k h2 b (x8 (J2 (r) names.length 12) vD):=hR2;obtain⟨r2,e2⟩ :∃x,x=x8 (J2 (r) names.length 12) vD:=⟨_,rfl⟩
 rw[<-e2] at hR2;apply hq';obtain⟨A,hA⟩ :∃x,x=P2 (r2) (dY names):=⟨_,rfl⟩
 refine s6.cut (Hp×Nat) (λ_=>[(2,.bx 2 0),(3,.bx 3 0),(4,.bx 4 0),(5,.bx 5 0),(6,.bx 6 0)]) (λg=>[.hp c0,.hp g.1,.box b2 [pQ rb] 151,.box b3 [.slice ap np cp,.slice a n c] 25,.box b4 [zs,zs,iQ 0,iQ 0,iQ 0,iQ 0,zs,zs,zs] 93,.box b5 [.slice a n c] 23,.box g.2 [sv A.2,zs,iQ 0,iQ 0,iQ 0,iQ 0,zs,zs,zs] 93]) (λg=>G9 k g.1 b A.1) (s6.by_order0 cQ (.take 0 <| .take 1 <| .take 2 <| .take 3 <| .two 4 (.two 5 (.take 6 <| .run 7 <| .run 8 <| .done) 7 (.run 5 <| .take 6 <| .run 8 <| .done)) 7 (.run 4 <| .run 5 <| .take 6 <| .run 8 <| .done)) kr (K9 _ 1) ?_) ?_
 ·refine⟨?_,?_⟩
  ·refine call (λw' hm=>V7 _ _ _ w') ?_;rintro _ _ ⟨b7,b8,rfl,rfl⟩;refine⟨sK,?_⟩;refine⟨?_,?_⟩
   ·refine l6 (i:=1) rfl (λw0 w' hok=>P8 (cap:=[pQ b7,pQ b8]) (chk:=dY names) w' (hok.mem 1 _ rfl) ((hd.to hR2).mono (hok.le01 rfl rfl)) (λw1 hi1 s _=>T5 (cap:=[pQ b5]) s w1 om (by rw[<-hnl];exact hi1.whole.cell (hok.bx1 (j:=6) (n:=0) rfl rfl dc rfl)) (hi1.whole.cell (hok.bx1 (j:=7) (n:=0) rfl rfl dc rfl)) (λw2 hi2 i hi=>by
     have hle:c0.le (Hp.whole w2):=((hok.le01 rfl rfl).trans hi1.whole).trans hi2.whole;subst hnames;exact mJ (L:=L) i w2 ((hi1.whole.trans hi2.whole).cell (hok.bx1 (j:=5) (n:=0) rfl rfl dc rfl)) (hL.mono (j7 _) hle) hi))) ?_
    rintro _ h9 _ ⟨rfl,rfl,hR9⟩;rw[<-hA] at hR9 ⊢;refine⟨sK,?_⟩;intro b9;refine⟨sK,?_⟩;exact⟨(h9,b9),hR9,v6.mk (pj [0,1,2,3,4,5,8]) rfl rfl⟩
   ·intro b9;refine⟨sK,?_⟩;refine l6 (i:=1) rfl (λw0 w' hok=>P8 (cap:=[pQ b7,pQ b8]) (chk:=dY names) w' (hok.mem 1 _ rfl) ((hd.to hR2).mono (hok.le01 rfl rfl)) (λw1 hi1 s _=>T5 (cap:=[pQ b5]) s w1 om (by rw[<-hnl];exact hi1.whole.cell (hok.bx1 (j:=6) (n:=0) rfl rfl dc rfl)) (hi1.whole.cell (hok.bx1 (j:=7) (n:=0) rfl rfl dc rfl)) (λw2 hi2 i hi=>by
     have hle:c0.le (Hp.whole w2):=((hok.le01 rfl rfl).trans hi1.whole).trans hi2.whole;subst hnames;exact mJ (L:=L) i w2 ((hi1.whole.trans hi2.whole).cell (hok.bx1 (j:=5) (n:=0) rfl rfl dc rfl)) (hL.mono (j7 _) hle) hi))) ?_
    rintro _ h9 _ ⟨rfl,rfl,hR9⟩;rw[<-hA] at hR9 ⊢;refine⟨sK,?_⟩;exact⟨(h9,b9),hR9,v6.mk (pj [0,1,2,3,4,5,8]) rfl rfl⟩
  ·intro b9;refine⟨sK,?_⟩;refine call (λw' hm=>V7 _ _ _ w') ?_;rintro _ _ ⟨b7,b8,rfl,rfl⟩;refine⟨sK,?_⟩;refine l6 (i:=1) rfl (λw0 w' hok=>P8 (cap:=[pQ b7,pQ b8]) (chk:=dY names) w' (hok.mem 1 _ rfl) ((hd.to hR2).mono (hok.le01 rfl rfl)) (λw1 hi1 s _=>T5 (cap:=[pQ b5]) s w1 om (by rw[<-hnl];exact hi1.whole.cell (hok.bx1 (j:=7) (n:=0) rfl rfl dc rfl)) (hi1.whole.cell (hok.bx1 (j:=8) (n:=0) rfl rfl dc rfl)) (λw2 hi2 i hi=>by
    have hle:c0.le (Hp.whole w2):=((hok.le01 rfl rfl).trans hi1.whole).trans hi2.whole;subst hnames;exact mJ (L:=L) i w2 ((hi1.whole.trans hi2.whole).cell (hok.bx1 (j:=5) (n:=0) rfl rfl dc rfl)) (hL.mono (j7 _) hle) hi))) ?_
   rintro _ h9 _ ⟨rfl,rfl,hR9⟩;rw[<-hA] at hR9 ⊢;refine⟨sK,?_⟩;exact⟨(h9,b9),hR9,v6.mk (pj [0,1,2,3,4,5,6]) rfl rfl⟩
 rintro⟨h9,b6⟩ hR9 _;dsimp only at hR9 ⊢;refine nQ [.hp c0,.hp h9,.box b2 [pQ rb] 151,.box b3 [.slice ap np cp,.slice a n c] 25,.box b4 [zs,zs,iQ 0,iQ 0,iQ 0,iQ 0,zs,zs,zs] 93,.box b5 [.slice a n c] 23,.box b6 [sv A.2,zs,iQ 0,iQ 0,iQ 0,iQ 0,zs,zs,zs] 93] λq' hq'=>?_;refine lQ 0 hd.hB ?_;refine l6 (i:=1) rfl (λw0 w' hok=>m6 w' (hok.mem 1 _ rfl) (hok.kle rfl rfl hd.hk) hR9) ?_;rintro _ h10 _ ⟨rfl,hR10⟩;have hR10:G9 k h10 b (x8 (A.1) Jk):=hR10;obtain⟨r10,e10⟩ :∃x,x=x8 (A.1) Jk:=⟨_,rfl⟩
 rw[<-e10] at hR10;apply hq';refine nQ [.hp c0,.hp h10,.box b2 [pQ rb] 151,.box b3 [.slice ap np cp,.slice a n c] 25,.box b4 [zs,zs,iQ 0,iQ 0,iQ 0,iQ 0,zs,zs,zs] 93,.box b5 [.slice a n c] 23,.box b6 [sv A.2,zs,iQ 0,iQ 0,iQ 0,iQ 0,zs,zs,zs] 93] λq' hq'=>?_;refine l6 (i:=1) rfl (λw0 w' hok=>P8 (cap:=[pQ b3]) (chk:=TB parts) w' (hok.mem 1 _ rfl) ((hd.to hR10).mono (hok.le01 rfl rfl)) (λw1 hi1 s _=>by
  rw[hparts];exact RD s w1 (hi1.whole.cell (hok.bx1 (j:=3) (n:=0) rfl rfl dc rfl)) (hP.mono I9 ((hok.le01 rfl rfl).trans hi1.whole)) hpn)) ?_
 rintro _ h11 _ ⟨rfl,rfl,hR11⟩;obtain⟨B,hB⟩ :∃x,x=P2 (r10) (TB parts):=⟨_,rfl⟩
 rw[<-hB] at hR11 ⊢;apply hq';refine nQ [.hp c0,.hp h11,.box b2 [pQ rb] 151,.box b3 [.slice ap np cp,.slice a n c] 25,.box b4 [zs,zs,iQ 0,iQ 0,iQ 0,iQ 0,zs,zs,zs] 93,.box b5 [.slice a n c] 23,.box b6 (kK A.2 B.2 [] []) 93] λq' hq'=>?_;refine lQ 0 hd.hB ?_;refine l6 (i:=1) rfl (λw0 w' hok=>m6 w' (hok.mem 1 _ rfl) (hok.kle rfl rfl hd.hk) hR11) ?_;rintro _ h12 _ ⟨rfl,hR12⟩;have hR12:G9 k h12 b (x8 (B.1) SX):=hR12;obtain⟨r12,e12⟩ :∃x,x=x8 (B.1) SX:=⟨_,rfl⟩
 rw[<-e12] at hR12;apply hq';refine nQ [.hp c0,.hp h12,.box b2 [pQ rb] 151,.box b3 [.slice ap np cp,.slice a n c] 25,.box b4 [zs,zs,iQ 0,iQ 0,iQ 0,iQ 0,zs,zs,zs] 93,.box b5 [.slice a n c] 23,.box b6 (kK A.2 B.2 [] []) 93] λq' hq'=>?_;refine iJ (i:=6) (j:=1) dc rfl rfl (λw0 w' hok=>mE (tk:=λr=>Z1 r (-12) 12) (cells:=λo=>kK A.2 B.2 o []) (n:=4) (cap:=[pQ b2,pQ b6]) w' (hok.inJ (i:=6) (j:=1) (c:=.box b6 (kK A.2 B.2 [] []) 93) (d:=.hp h12) rfl rfl) (hok.disj 6 1 _ _ dc rfl rfl) ((hd.to hR12).mono (hok.le2 (i:=6) (j:=1) (m:=0) dc dc rfl rfl rfl)) dc (λw1 out r' h' ho hi1 hd1 hle hR'=>by
  have hl0:=(hok.le2 (i:=6) (j:=1) (m:=0) dc dc rfl rfl rfl).trans hle;have hl2:=(hok.le2 (i:=6) (j:=1) (m:=2) dc dc rfl rfl rfl).trans hle;have:=RG (b1:=b2) out.length w1 hi1 hd1 (hl2.cell (J3 b2 (cs:=[pQ rb]) _ rfl)) ((hd.to hR').mono hl0) ho (HU (kA ho) (f8 _));rw[RE _ ho] at this;exact this)) ?_
 rintro _ _ h13 ⟨rfl,hR13⟩;obtain⟨C,hC⟩ :∃x,x=mD (λr=>Z1 r (-12) 12) 4 (r12):=⟨_,rfl⟩
 have lC:C.2.length=4:=by rw[hC];exact zE _ _ _
 rw[<-hC] at hR13 ⊢;apply hq';refine nQ [.hp c0,.hp h13,.box b2 [pQ rb] 151,.box b3 [.slice ap np cp,.slice a n c] 25,.box b4 [zs,zs,iQ 0,iQ 0,iQ 0,iQ 0,zs,zs,zs] 93,.box b5 [.slice a n c] 23,.box b6 (kK A.2 B.2 C.2 []) 93] λq' hq'=>?_;refine lQ 0 hd.hB ?_;refine l6 (i:=1) rfl (λw0 w' hok=>m6 w' (hok.mem 1 _ rfl) (hok.kle rfl rfl hd.hk) hR13) ?_;rintro _ h14 _ ⟨rfl,hR14⟩;have hR14:G9 k h14 b (x8 (C.1) SY):=hR14;obtain⟨r14,e14⟩ :∃x,x=x8 (C.1) SY:=⟨_,rfl⟩
 rw[<-e14] at hR14;apply hq';refine nQ [.hp c0,.hp h14,.box b2 [pQ rb] 151,.box b3 [.slice ap np cp,.slice a n c] 25,.box b4 [zs,zs,iQ 0,iQ 0,iQ 0,iQ 0,zs,zs,zs] 93,.box b5 [.slice a n c] 23,.box b6 (kK A.2 B.2 C.2 []) 93] λq' hq'=>?_;refine iJ (i:=6) (j:=1) dc rfl rfl (λw0 w' hok=>mE (tk:=R6) (cells:=λo=>kK A.2 B.2 C.2 o) (n:=3) (cap:=[pQ b2,pQ b6]) w' (hok.inJ (i:=6) (j:=1) (c:=.box b6 (kK A.2 B.2 C.2 []) 93) (d:=.hp h14) rfl rfl) (hok.disj 6 1 _ _ dc rfl rfl) ((hd.to hR14).mono (hok.le2 (i:=6) (j:=1) (m:=0) dc dc rfl rfl rfl)) dc (λw1 out r' h' ho hi1 hd1 hle hR'=>by
  have hl0:=(hok.le2 (i:=6) (j:=1) (m:=0) dc dc rfl rfl rfl).trans hle;have hl2:=(hok.le2 (i:=6) (j:=1) (m:=2) dc dc rfl rfl rfl).trans hle;have:=RF (b1:=b2) out.length w1 hi1 hd1 (hl2.cell (J3 b2 (cs:=[pQ rb]) _ rfl)) ((hd.to hR').mono hl0) ho (HU (Nat.le_of_eq lC) (kA ho));rw[LT _ lC ho] at this;exact this)) ?_
 rintro _ _ h15 ⟨rfl,hR15⟩;obtain⟨D,hD⟩ :∃x,x=mD (R6) 3 (r14):=⟨_,rfl⟩
 have lD:D.2.length=3:=by rw[hD];exact zE _ _ _
 rw[<-hD] at hR15 ⊢;apply hq';refine nQ [.hp c0,.hp h15,.box b2 [pQ rb] 151,.box b3 [.slice ap np cp,.slice a n c] 25,.box b4 [zs,zs,iQ 0,iQ 0,iQ 0,iQ 0,zs,zs,zs] 93,.box b5 [.slice a n c] 23,.box b6 (kK A.2 B.2 C.2 D.2) 93] λq' hq'=>?_;rw[VV lC lD];have eI:BD parts names r=(x8 D.1 [59],(A.2,B.2,(C.2.getD 0 0,C.2.getD 1 0,C.2.getD 2 0,C.2.getD 3 0),(D.2.getD 0 [],D.2.getD 1 [],D.2.getD 2 []))):=by
  unfold BD;dsimp only;rw[<-e2,<-hA,<-e10,<-hB,<-e12,<-hC,<-e14,<-hD]
 refine lQ 0 hd.hB ?_;refine l6 (i:=1) rfl (λw0 w' hok=>m6 w' (hok.mem 1 _ rfl) (hok.kle rfl rfl hd.hk) hR15) ?_;rintro _ h16 _ ⟨rfl,hR16⟩;have hR16:G9 k h16 b (x8 (D.1) [59]):=hR16;apply hq';rw[eI];exact⟨h16,[],⟨rfl,rfl,hR16⟩,pk [0,1]⟩
end Go.Proofs.YtpjhmeicbjkcdaaGreatDoor
namespace Go.Dw
open Go Go.RowKit
abbrev Gg (sz:Nat):={ l:List Value // l.length=sz/\aB l=true }
def aT {α:Type} (R:uU α) (T sz:Nat) (H:Hp) (o:Os) (L:List α):Prop:=
 ∃C:List (Gg sz),w8 (λc:Gg sz=>c.1) T sz o C/\C.length=L.length/\∀i (h1:i < L.length) (h2:i < C.length),R H L[i] C[i].1
section
variable {α:Type} {R:uU α} {T sz:Nat} {H K:Hp} {o:Os} {L:List α}
theorem aT.nil:aT R T sz H Os.nil []:=⟨[],w8.nil _ _ _,rfl,λ_ h1=>absurd h1 (H5 _)⟩
theorem aT.mono (hR:AQ R) (hl:H.le K):aT R T sz H o L->aT R T sz K o L
 | ⟨C,h1,h2,h3⟩=>⟨C,h1,h2,λi a b=>hR _ _ _ _ hl (h3 i a b)⟩
theorem aT.len:aT R T sz H o L->o.n=L.length
 | ⟨_,h1,h2,_⟩=>h1.len.trans h2
theorem aT.sl (hR:AQ R) (h0:0 < sz) (hl:H.le K) (ho:o.h.le K):aT R T sz H o L->Sl R sz K o.a o.n o.c L
 | ⟨C,h1,h2,h3⟩=>by
  have hs:=h1.sl (λc=>c.2.1) h0;refine⟨hs.len.trans h2,hs.cap,λi hi=>?_⟩;obtain⟨b,off,cs,e1,e2,e3,e4⟩:=hs.cells i (by rw[h2];exact hi);have e3:cs=(C[i]'(by rw[h2];exact hi)).1:=e3;subst e3;exact⟨b,off,_,e1,e2,hR _ _ _ _ hl (h3 i hi _),λj v hj=>ho.cell (e4 j v hj)⟩
end
theorem oL {X:R5} {s:List Ch} {α:Type} {R:uU α} (hX:X.Good) {T e ty:Nat} {te:TI} (hT:bM X T=some (e,te)) {i:Nat} {o:Os} (hi:m8 s i=some (.hp o.h)) {H:Hp} {L:List α}
  (hg:FF s->aT R e te.size H o L) {j b e':Nat} (x:α) (cs:List Value) (hj:m8 s j=some (.box b cs e')) (hf:cs.length=te.size) (h1:aB cs=true)
  (hby:R0 te.bytes 140=true) (hn:L.length < 1000000000000) {q:TV->List Ch->Prop}
  (hx:FF s->R H x cs)
  (hq :∀o',FF s->aT R e te.size H o' (L++[x])->q (.v o'.v) (x9 s i (.hp o'.h))) :
  tH X.P s #[T,T] ty o.v (.bs j 1) q:=by
 by_cases hs:FF s
 ·obtain⟨C,c1,c2,c3⟩:=hg hs;refine gF (f:=λc:Gg te.size=>c.1) hX hT hi c1 ⟨cs,hf,h1⟩ hj hf h1 hby om λo' ho'=>hq o' hs ⟨C++[⟨cs,hf,h1⟩],ho',by simp[c2],λk k1 k2=>?_⟩;by_cases hk:k < L.length
  ·rw[List.getElem_append_left hk,List.getElem_append_left om];exact c3 k hk om
  ·have e1:k=L.length:=by rw[d6] at k1;simp only[d7,d9] at k1;omega
   subst e1;rw[List.getElem_concat_length rfl];have e2:(C++[(⟨cs,hf,h1⟩:Gg te.size)])[L.length]=⟨cs,hf,h1⟩:=List.getElem_concat_length c2.symm _;rw[e2];exact hx hs
 ·exact⟨.slice (some ⟨b,0,none⟩) 1 1,by simp[TV.val,hj],⟨λw0 w hok=>absurd ⟨w0,w,hok⟩ hs⟩⟩
end Go.Dw
namespace Go.Proofs.YtpjhmeicbjkcdaaGreatDoor
open Go Go.RowKit Go.Dw
theorem OE {r:RS} {c m:Nat} (h:m<=c):(J2 r c m).e≠0:=by
 unfold J2;rw[if_pos h];exact bK r dc
section
variable {r:RS} {cnt:Nat}
theorem Db (he:r.e=0->cP r.ts) (h:aA r [40]=true) (cnt:Nat):J5 (PG (J2 r cnt 16)).1 < J5 r:=by
 refine s7 ?_ (pE (c:=cnt) (m:=16) he h);exact ((A7.itm (λr=>A7.int r (-4096) 4096) 3 (x8 (J2 r cnt 16) [40])).trans (A7.exp _ _)).rem
theorem YP (h:aA r [40]=true) (hc:cnt<=16\/(cnt<=17/\r.e≠0)):cnt+1<=16\/(cnt+1<=17/\(PG (J2 r cnt 16)).1.e≠0):=by
 have h0:r.e=0:=(S2 h).1;have hc:cnt<=16:=hc.elim id (λc=>absurd h0 c.2);by_cases h6:cnt=16
 ·exact .inr ⟨om,(A7.ver _).bad (OE om)⟩
 ·exact .inl om
theorem Fh (he:r.e=0->cP r.ts) (h:aA r lG=true) (cnt:Nat):J5 (x8 (celV r cnt).1 [59]) < J5 r:=by
 refine s7 ?_ (pE (c:=cnt) (m:=6) he h);exact ((A7.vrs _ (x8 (J2 r cnt 6) lG) []).trans (A7.exp _ _)).rem
theorem Bf (h:aA r lG=true) (hc:cnt<=6\/(cnt<=7/\r.e≠0)):cnt+1<=6\/(cnt+1<=7/\(x8 (celV r cnt).1 [59]).e≠0):=by
 have h0:r.e=0:=(S2 h).1;have hc:cnt<=6:=hc.elim id (λc=>absurd h0 c.2);by_cases h6:cnt=6
 ·refine .inr ⟨om,?_⟩;have a:A7 (J2 r cnt 6) (x8 (celV r cnt).1 [59]):=((A7.exp _ lG).trans (A7.vrs _ _ [])).trans (A7.exp _ _);exact a.bad (OE om)
 ·exact .inl om
end
theorem Jw {C:List Int} (h:C.length=3):rK vI (vI 0) 3 C=OP (C.getD 0 0,C.getD 1 0,C.getD 2 0):=by
 match C,h with
 | [a,b,c],_=>rfl
set_option maxHeartbeats 4000000 in
set_option maxRecDepth 10000 in
theorem GV {k h:Hp} {rb b:Nat} {r:RS} {a:Option Addr} {n c:Nat} {L:List W3} (w:World) (hin:h.In w) (hd:DR ((Hp.whole w).minus h) k h rb b r) (hL:Sl bN 3 ((Hp.whole w).minus h) a n c L) (hn:L.length < 1000000) :
  j6 Tryz.prog 80 #[pQ rb,.slice a n c] w (O6 w h λv h' cs=>∃o H,cs = [.hp H,.hp o.h]/\(v=.agg #[sv (oB (L.map λx:W3=>x.1) r).2.1,iQ (oB (L.map λx:W3=>x.1) r).2.2.1,o.v]/\aT pN 86 1 H o (oB (L.map λx:W3=>x.1) r).2.2.2/\G9 k h' b (oB (L.map λx:W3=>x.1) r).1)):=by
 have hlen:=hL.len;refine enterMZ (cx 91) [pQ rb,.slice a n c] hin [.cell 4 83] Tryz.func80 ?_;obtain⟨c0,hc0⟩ :∃c0,c0=(Hp.whole w).minus h:=⟨_,rfl⟩
 rw[<-hc0] at hd hL ⊢;obtain⟨names,hnames⟩ :∃l,l=L.map λx:W3=>x.1:=⟨_,rfl⟩
 rw[<-hnames];have hnl:n=names.length:=by rw[hnames,l7];exact hlen
 intro b2 b3 b4;refine o7 λq' hq'=>?_;apply hq';refine nQ [.hp c0,.hp h,.box b2 [pQ rb] 151,.box b3 [.slice a n c] 22,.box b4 [zs,iQ 0,zl] 83] λq' hq'=>?_;refine l6 (i:=1) rfl (λw0 w' hok=>N9 (n:=names.length) (m:=64) (by rw[hnl]) rfl w' (hok.mem 1 _ rfl) (hd.mono (hok.le01 rfl rfl))) ?_;rintro _ h1 _ ⟨rfl,hR1⟩;have hR1:G9 k h1 b (J2 (r) names.length 64):=hR1;apply hq';refine nQ [.hp c0,.hp h1,.box b2 [pQ rb] 151,.box b3 [.slice a n c] 22,.box b4 [zs,iQ 0,zl] 83] λq' hq'=>?_;refine lQ 0 hd.hB ?_;refine l6 (i:=1) rfl (λw0 w' hok=>m6 w' (hok.mem 1 _ rfl) (hok.kle rfl rfl hd.hk) hR1) ?_;rintro _ h2 _ ⟨rfl,hR2⟩;have hR2:G9 k h2 b (x8 (J2 (r) names.length 64) vC):=hR2;obtain⟨r2,e2⟩ :∃x,x=x8 (J2 (r) names.length 64) vC:=⟨_,rfl⟩
 rw[<-e2] at hR2;apply hq';obtain⟨A,hA⟩ :∃x,x=P2 (r2) (dY names):=⟨_,rfl⟩
 refine s6.cut (Hp×Nat) (λ_=>[(2,.bx 2 0),(3,.bx 3 0),(4,.bx 4 0),(5,.bx 5 0)]) (λg=>[.hp c0,.hp g.1,.box b2 [pQ rb] 151,.box b3 [.slice a n c] 22,.box b4 [zs,iQ 0,zl] 83,.box g.2 [sv A.2,iQ 0,zl] 83]) (λg=>G9 k g.1 b A.1) (s6.by_order0 cQ (.take 0 <| .take 1 <| .take 2 <| .take 3 <| .two 4 (.two 5 (.take 6 <| .run 7 <| .run 8 <| .done) 7 (.run 5 <| .take 6 <| .run 8 <| .done)) 7 (.run 4 <| .run 5 <| .take 6 <| .run 8 <| .done)) kr (K9 _ 1) ?_) ?_
 ·refine⟨?_,?_⟩
  ·refine call (λw' hm=>V7 _ _ _ w') ?_;rintro _ _ ⟨b7,b8,rfl,rfl⟩;refine⟨sK,?_⟩;refine⟨?_,?_⟩
   ·refine l6 (i:=1) rfl (λw0 w' hok=>P8 (cap:=[pQ b7,pQ b8]) (chk:=dY names) w' (hok.mem 1 _ rfl) ((hd.to hR2).mono (hok.le01 rfl rfl)) (λw1 hi1 s _=>T5 (cap:=[pQ b3]) s w1 om (by rw[<-hnl];exact hi1.whole.cell (hok.bx1 (j:=5) (n:=0) rfl rfl dc rfl)) (hi1.whole.cell (hok.bx1 (j:=6) (n:=0) rfl rfl dc rfl)) (λw2 hi2 i hi=>by
     have hle:c0.le (Hp.whole w2):=((hok.le01 rfl rfl).trans hi1.whole).trans hi2.whole;subst hnames;exact mA (L:=L) i w2 ((hi1.whole.trans hi2.whole).cell (hok.bx1 (j:=3) (n:=0) rfl rfl dc rfl)) (hL.mono I9 hle) hi))) ?_
    rintro _ h9 _ ⟨rfl,rfl,hR9⟩;rw[<-hA] at hR9 ⊢;refine⟨sK,?_⟩;intro b9;refine⟨sK,?_⟩;exact⟨(h9,b9),hR9,v6.mk (pj [0,1,2,3,4,7]) rfl rfl⟩
   ·intro b9;refine⟨sK,?_⟩;refine l6 (i:=1) rfl (λw0 w' hok=>P8 (cap:=[pQ b7,pQ b8]) (chk:=dY names) w' (hok.mem 1 _ rfl) ((hd.to hR2).mono (hok.le01 rfl rfl)) (λw1 hi1 s _=>T5 (cap:=[pQ b3]) s w1 om (by rw[<-hnl];exact hi1.whole.cell (hok.bx1 (j:=5) (n:=0) rfl rfl dc rfl)) (hi1.whole.cell (hok.bx1 (j:=6) (n:=0) rfl rfl dc rfl)) (λw2 hi2 i hi=>by
     have hle:c0.le (Hp.whole w2):=((hok.le01 rfl rfl).trans hi1.whole).trans hi2.whole;subst hnames;exact mA (L:=L) i w2 ((hi1.whole.trans hi2.whole).cell (hok.bx1 (j:=3) (n:=0) rfl rfl dc rfl)) (hL.mono I9 hle) hi))) ?_
    rintro _ h9 _ ⟨rfl,rfl,hR9⟩;rw[<-hA] at hR9 ⊢;refine⟨sK,?_⟩;exact⟨(h9,b9),hR9,v6.mk (pj [0,1,2,3,4,7]) rfl rfl⟩
  ·intro b9;refine⟨sK,?_⟩;refine call (λw' hm=>V7 _ _ _ w') ?_;rintro _ _ ⟨b7,b8,rfl,rfl⟩;refine⟨sK,?_⟩;refine l6 (i:=1) rfl (λw0 w' hok=>P8 (cap:=[pQ b7,pQ b8]) (chk:=dY names) w' (hok.mem 1 _ rfl) ((hd.to hR2).mono (hok.le01 rfl rfl)) (λw1 hi1 s _=>T5 (cap:=[pQ b3]) s w1 om (by rw[<-hnl];exact hi1.whole.cell (hok.bx1 (j:=6) (n:=0) rfl rfl dc rfl)) (hi1.whole.cell (hok.bx1 (j:=7) (n:=0) rfl rfl dc rfl)) (λw2 hi2 i hi=>by
    have hle:c0.le (Hp.whole w2):=((hok.le01 rfl rfl).trans hi1.whole).trans hi2.whole;subst hnames;exact mA (L:=L) i w2 ((hi1.whole.trans hi2.whole).cell (hok.bx1 (j:=3) (n:=0) rfl rfl dc rfl)) (hL.mono I9 hle) hi))) ?_
   rintro _ h9 _ ⟨rfl,rfl,hR9⟩;rw[<-hA] at hR9 ⊢;refine⟨sK,?_⟩;exact⟨(h9,b9),hR9,v6.mk (pj [0,1,2,3,4,5]) rfl rfl⟩
 rintro⟨h9,b5⟩ hR9 _;dsimp only at hR9 ⊢;refine nQ [.hp c0,.hp h9,.box b2 [pQ rb] 151,.box b3 [.slice a n c] 22,.box b4 [zs,iQ 0,zl] 83,.box b5 [sv A.2,iQ 0,zl] 83] λq' hq'=>?_;refine lQ 0 hd.hB ?_;refine l6 (i:=1) rfl (λw0 w' hok=>m6 w' (hok.mem 1 _ rfl) (hok.kle rfl rfl hd.hk) hR9) ?_;rintro _ h10 _ ⟨rfl,hR10⟩;have hR10:G9 k h10 b (x8 (A.1) SZ):=hR10;obtain⟨r10,e10⟩ :∃x,x=x8 (A.1) SZ:=⟨_,rfl⟩
 rw[<-e10] at hR10;apply hq';refine nQ [.hp c0,.hp h10,.box b2 [pQ rb] 151,.box b3 [.slice a n c] 22,.box b4 [zs,iQ 0,zl] 83,.box b5 [sv A.2,iQ 0,zl] 83] λq' hq'=>?_;refine lQ 0 hd.hB ?_;refine l6 (i:=1) rfl (λw0 w' hok=>tK (lo:=1) (hi:=1048576) w' (hok.mem 1 _ rfl) (hok.kle rfl rfl hd.hk) hR10) ?_;rintro _ h11 _ ⟨rfl,rfl,hR11⟩;have hR11:G9 k h11 b ((Z1 (r10) 1 1048576).1):=hR11;obtain⟨B,hB⟩ :∃x,x=Z1 (r10) 1 1048576:=⟨_,rfl⟩
 rw[<-hB] at hR11 ⊢;apply hq';refine nQ [.hp c0,.hp h11,.box b2 [pQ rb] 151,.box b3 [.slice a n c] 22,.box b4 [zs,iQ 0,zl] 83,.box b5 [sv A.2,iQ B.2,zl] 83] λq' hq'=>?_;refine lQ 0 hd.hB ?_;refine l6 (i:=1) rfl (λw0 w' hok=>m6 w' (hok.mem 1 _ rfl) (hok.kle rfl rfl hd.hk) hR11) ?_;rintro _ h12 _ ⟨rfl,hR12⟩;have hR12:G9 k h12 b (x8 (B.1) [123]):=hR12;obtain⟨r12,e12⟩ :∃x,x=x8 (B.1) [123]:=⟨_,rfl⟩
 rw[<-e12] at hR12;apply hq';obtain⟨tot,htot⟩ :∃x,x=tC (J5 r12) r12 []:=⟨_,rfl⟩
 refine u6.mk (RS×List (List V3)×Hp×Dw.Os×Hp) (λ_=>[(2,.bx 2 0),(3,.bx 3 0),(4,.bx 4 0),(5,.bx 5 0)]) (λg=>[.hp c0,.hp g.2.2.1,.box b2 [pQ rb] 151,.box b3 [.slice a n c] 22,.box b4 [zs,iQ 0,zl] 83,.box b5 [sv A.2,iQ B.2,g.2.2.2.1.v] 83,.hp g.2.2.2.2,.hp g.2.2.2.1.h])
  (λg=>G9 k g.2.2.1 b g.1/\aT pN 86 1 g.2.2.2.2 g.2.2.2.1 g.2.1/\(∃f,J5 g.1<=f/\tC f g.1 g.2.1=tot)/\(g.2.1.length<=6\/(g.2.1.length<=7/\g.1.e≠0))) (λg=>J5 g.1) (r12,[],h12,Dw.Os.nil,Hp.emp)
  ⟨hR12,aT.nil,⟨J5 r12,k8 _,htot.symm⟩,.inl (f8 _)⟩ (v6.mk (λ_ _ h=>h.emp.emp) rfl rfl) ?_
 rintro⟨rr,out,hh,oo,H⟩ ⟨hRr,hG,⟨f,hf,htr⟩,hcnt⟩;dsimp only at hRr hG hf htr hcnt ⊢;have hRend:rr.e=0->cP rr.ts:=by obtain⟨_,_,_,_,_,hE,_⟩:=hRr;exact hE
 refine nQ [.hp c0,.hp hh,.box b2 [pQ rb] 151,.box b3 [.slice a n c] 22,.box b4 [zs,iQ 0,zl] 83,.box b5 [sv A.2,iQ B.2,oo.v] 83,.hp H,.hp oo.h] λq' hq'=>?_;refine lQ 0 hd.hB ?_;refine k7 _ (λw' hm=>S0 w' (hm 1 _ rfl) (hd.hk.trans (hm 0 _ rfl).whole) hRr) ?_;apply hq';refine s8 (λg1=>?_) λg1=>?_
 ·have g1:aA rr lG=true:=g1;refine nQ [.hp c0,.hp hh,.box b2 [pQ rb] 151,.box b3 [.slice a n c] 22,.box b4 [zs,iQ 0,zl] 83,.box b5 [sv A.2,iQ B.2,oo.v] 83,.hp H,.hp oo.h] λq' hq'=>?_;refine l6 (i:=1) rfl (λw0 w' hok=>N9 (n:=out.length) (m:=6) (by rw[hG.len]) rfl w' (hok.mem 1 _ rfl) ((hd.to hRr).mono (hok.le01 rfl rfl))) ?_;rintro _ h21 _ ⟨rfl,hR21⟩;have hR21:G9 k h21 b (J2 (rr) out.length 6):=hR21;apply hq';refine nQ [.hp c0,.hp h21,.box b2 [pQ rb] 151,.box b3 [.slice a n c] 22,.box b4 [zs,iQ 0,zl] 83,.box b5 [sv A.2,iQ B.2,oo.v] 83,.hp H,.hp oo.h] λq' hq'=>?_;refine lQ 0 hd.hB ?_;refine l6 (i:=1) rfl (λw0 w' hok=>m6 w' (hok.mem 1 _ rfl) (hok.kle rfl rfl hd.hk) hR21) ?_;rintro _ h22 _ ⟨rfl,hR22⟩;have hR22:G9 k h22 b (x8 (J2 (rr) out.length 6) lG):=hR22;obtain⟨r22,e22⟩ :∃x,x=x8 (J2 (rr) out.length 6) lG:=⟨_,rfl⟩
  rw[<-e22] at hR22;apply hq';refine o7 λq' hq'=>?_;intro b6;apply hq';obtain⟨tt,htt⟩ :∃x,x=DL (J5 r22) r22 []:=⟨_,rfl⟩
  refine u6.mk (RS×List V3×Hp×Dw.Os) (λ_=>[(2,.bx 2 0),(3,.bx 3 0),(4,.bx 4 0),(5,.bx 5 0),(6,.bx 8 0)]) (λg=>[.hp c0,.hp g.2.2.1,.box b2 [pQ rb] 151,.box b3 [.slice a n c] 22,.box b4 [zs,iQ 0,zl] 83,.box b5 [sv A.2,iQ B.2,oo.v] 83,.hp H,.hp oo.h,.box b6 [g.2.2.2.v] 86,.hp g.2.2.2.h])
   (λg=>G9 k g.2.2.1 b g.1/\w8 OP 122 3 g.2.2.2 g.2.1/\(∃f,J5 g.1<=f/\DL f g.1 g.2.1=tt)/\(g.2.1.length<=16\/(g.2.1.length<=17/\g.1.e≠0))) (λg=>J5 g.1) (r22,[],h22,Dw.Os.nil)
   ⟨hR22,w8.nil _ _ _,⟨J5 r22,k8 _,htt.symm⟩,.inl (f8 _)⟩ (v6.mk (λ_ _ h=>h.emp) rfl rfl) ?_
  rintro⟨rv,vs,hv,oi⟩ ⟨hRv,hO,⟨fv,hfv,htv⟩,hcv⟩;dsimp only at hRv hO hfv htv hcv ⊢;have hVend:rv.e=0->cP rv.ts:=by obtain⟨_,_,_,_,_,hE,_⟩:=hRv;exact hE
  refine nQ [.hp c0,.hp hv,.box b2 [pQ rb] 151,.box b3 [.slice a n c] 22,.box b4 [zs,iQ 0,zl] 83,.box b5 [sv A.2,iQ B.2,oo.v] 83,.hp H,.hp oo.h,.box b6 [oi.v] 86,.hp oi.h] λq' hq'=>?_;refine lQ 0 hd.hB ?_;refine k7 _ (λw' hm=>S0 w' (hm 1 _ rfl) (hd.hk.trans (hm 0 _ rfl).whole) hRv) ?_;apply hq';refine s8 (λg2=>?_) λg2=>?_
  ·refine nQ [.hp c0,.hp hv,.box b2 [pQ rb] 151,.box b3 [.slice a n c] 22,.box b4 [zs,iQ 0,zl] 83,.box b5 [sv A.2,iQ B.2,oo.v] 83,.hp H,.hp oo.h,.box b6 [oi.v] 86,.hp oi.h] λq' hq'=>?_;refine l6 (i:=1) rfl (λw0 w' hok=>N9 (n:=vs.length) (m:=16) (by rw[hO.len]) rfl w' (hok.mem 1 _ rfl) ((hd.to hRv).mono (hok.le01 rfl rfl))) ?_;rintro _ h31 _ ⟨rfl,hR31⟩;have hR31:G9 k h31 b (J2 (rv) vs.length 16):=hR31;obtain⟨r31,e31⟩ :∃x,x=J2 (rv) vs.length 16:=⟨_,rfl⟩
   rw[<-e31] at hR31;apply hq';refine nQ [.hp c0,.hp h31,.box b2 [pQ rb] 151,.box b3 [.slice a n c] 22,.box b4 [zs,iQ 0,zl] 83,.box b5 [sv A.2,iQ B.2,oo.v] 83,.hp H,.hp oo.h,.box b6 [oi.v] 86,.hp oi.h] λq' hq'=>?_;intro b7;apply hq';refine nQ [.hp c0,.hp h31,.box b2 [pQ rb] 151,.box b3 [.slice a n c] 22,.box b4 [zs,iQ 0,zl] 83,.box b5 [sv A.2,iQ B.2,oo.v] 83,.hp H,.hp oo.h,.box b6 [oi.v] 86,.hp oi.h,.box b7 (rK vI (vI 0) 3 []) 122] λq' hq'=>?_;refine iJ (i:=10) (j:=1) dc rfl rfl (λw0 w' hok=>mE (tk:=λr=>Z1 r (-4096) 4096) (cells:=rK vI (vI 0) 3) (n:=3) (cap:=[pQ b2,pQ b7]) w' (hok.inJ (i:=10) (j:=1) (c:=.box b7 (rK vI (vI 0) 3 []) 122) (d:=.hp h31) rfl rfl) (hok.disj 10 1 _ _ dc rfl rfl) ((hd.to hR31).mono (hok.le2 (i:=10) (j:=1) (m:=0) dc dc rfl rfl rfl)) dc (λw1 out r' h' ho hi1 hd1 hle hR'=>by
    have hl0:=(hok.le2 (i:=10) (j:=1) (m:=0) dc dc rfl rfl rfl).trans hle;have hl2:=(hok.le2 (i:=10) (j:=1) (m:=2) dc dc rfl rfl rfl).trans hle;have:=KS (b1:=b2) out.length w1 hi1 hd1 (hl2.cell (J3 b2 (cs:=[pQ rb]) _ rfl)) ((hd.to hR').mono hl0) ho (iW _ _ (kA ho));rw[yP vI (vI 0) _ ho] at this;exact this)) ?_
   rintro _ _ h32 ⟨rfl,hR32⟩;have lV:(mD (λr=>Z1 r (-4096) 4096) 3 r31).2.length=3:=zE _ _ _;obtain⟨V,hV⟩ :∃x,x=PG r31:=⟨_,rfl⟩
   have hV1:(mD (λr=>Z1 r (-4096) 4096) 3 r31).1=V.1:=by rw[hV];rfl
   have hV2:rK vI (vI 0) 3 (mD (λr=>Z1 r (-4096) 4096) 3 r31).2=OP V.2:=by rw[Jw lV,hV];rfl
   have hlt:=Db hVend g2 vs.length;have hcn:=YP g2 hcv;rw[<-e31,<-hV] at hlt hcn;rw[hV1] at hR32;rw[hV2];apply hq';refine nQ [.hp c0,.hp h32,.box b2 [pQ rb] 151,.box b3 [.slice a n c] 22,.box b4 [zs,iQ 0,zl] 83,.box b5 [sv A.2,iQ B.2,oo.v] 83,.hp H,.hp oo.h,.box b6 [oi.v] 86,.hp oi.h,.box b7 (OP V.2) 122] λq' hq'=>?_;intro b8;refine gF (f:=OP) (o:=oi) (L:=vs) cQ (e:=122) rfl (i:=9) rfl hO V.2 (j:=11) rfl rfl rfl rfl om λo9 hO9=>?_;apply hq';refine⟨(V.1,vs++[V.2],h32,o9),⟨hR32,hO9,?_,?_⟩,hlt,v6.mk (pj [0,1,2,3,4,5,6,7,8,9]) rfl rfl⟩
   ·cases fv with
    | zero=>exact absurd hfv (by have:=jO hVend g2;omega)
    | succ fv=>
     refine⟨fv,by dsimp only;omega,?_⟩;dsimp only;rw[<-htv];show _=DL (fv+1) rv vs
     conv=>rhs;unfold DL
     rw[if_pos g2,<-e31,<-hV]
   ·dsimp only;rw[d6];exact hcn
  ·have eT:tt=(rv,vs):=by
    rw[<-htv];cases fv with
    | zero=>rfl
    | succ fv=>unfold DL;rw[if_neg (λc=>by rw[g2] at c;cases c)]
   have eC:celV rr out.length=(rv,vs):=by
    unfold celV;rw[<-e22,<-htt,eT]
   have hlt:=Fh hRend g1 out.length;have hcn:=Bf g1 hcnt;rw[eC] at hlt hcn;dsimp only at hlt hcn;refine nQ [.hp c0,.hp hv,.box b2 [pQ rb] 151,.box b3 [.slice a n c] 22,.box b4 [zs,iQ 0,zl] 83,.box b5 [sv A.2,iQ B.2,oo.v] 83,.hp H,.hp oo.h,.box b6 [oi.v] 86,.hp oi.h] λq' hq'=>?_;refine lQ 0 hd.hB ?_;refine l6 (i:=1) rfl (λw0 w' hok=>m6 w' (hok.mem 1 _ rfl) (hok.kle rfl rfl hd.hk) hRv) ?_;rintro _ h41 _ ⟨rfl,hR41⟩;have hR41:G9 k h41 b (x8 (rv) [59]):=hR41;apply hq';refine nQ [.hp c0,.hp h41,.box b2 [pQ rb] 151,.box b3 [.slice a n c] 22,.box b4 [zs,iQ 0,zl] 83,.box b5 [sv A.2,iQ B.2,oo.v] 83,.hp H,.hp oo.h,.box b6 [oi.v] 86,.hp oi.h] λq' hq'=>?_;intro b9;refine oL (R:=pN) (o:=oo) (L:=out) (H:=H.join oi.h) cQ (e:=86) rfl (i:=7) rfl (λhs=>?_) vs [oi.v] (j:=10) rfl rfl rfl rfl om (λhs=>?_) λo9 _ hG9=>?_
   ·exact hG.mono S6 (Hp.le_join_l _ _)
   ·obtain⟨w0,w',hok⟩:=hs;exact⟨oi.a,oi.n,oi.c,rfl,(w8.sl (f:=OP) (sz:=3) (λ_=>rfl) dc hO).mono (j7 _) (Hp.le_join_r (hok.disj 6 9 _ _ dc rfl rfl))⟩
   apply hq';refine⟨(x8 rv [59],out++[vs],h41,o9,H.join oi.h),⟨hR41,hG9,?_,?_⟩,hlt,v6.mk (λ_ _ h=>(Ok.join (h.pick [0,6,9,1,2,3,4,5,7] rfl rfl)).pick [0,2,3,4,5,6,1,7] rfl rfl) rfl rfl⟩
   ·cases f with
    | zero=>exact absurd hf (by have:=jO hRend g1;omega)
    | succ f=>
     refine⟨f,by dsimp only;omega,?_⟩;dsimp only;rw[<-htr];show _=tC (f+1) rr out
     conv=>rhs;unfold tC
     rw[if_pos g1,eC]
   ·dsimp only;rw[d6];exact hcn
 ·have g1:aA rr lG=false:=g1;have eT:tot=(rr,out):=by
   rw[<-htr];cases f with
   | zero=>rfl
   | succ f=>unfold tC;rw[if_neg (λc=>by rw[g1] at c;cases c)]
  have eP:oB names r=(x8 rr [125],(A.2,B.2,out)):=by
   unfold oB;dsimp only;rw[<-e2,<-hA,<-e10,<-hB,<-e12,<-htot,eT]
  refine nQ [.hp c0,.hp hh,.box b2 [pQ rb] 151,.box b3 [.slice a n c] 22,.box b4 [zs,iQ 0,zl] 83,.box b5 [sv A.2,iQ B.2,oo.v] 83,.hp H,.hp oo.h] λq' hq'=>?_;refine lQ 0 hd.hB ?_;refine l6 (i:=1) rfl (λw0 w' hok=>m6 w' (hok.mem 1 _ rfl) (hok.kle rfl rfl hd.hk) hRr) ?_;rintro _ h51 _ ⟨rfl,hR51⟩;have hR51:G9 k h51 b (x8 (rr) [125]):=hR51;apply hq';rw[eP];exact⟨h51,[.hp H,.hp oo.h],⟨oo,H,rfl,rfl,hG,hR51⟩,pk [0,1,6,7]⟩
end Go.Proofs.YtpjhmeicbjkcdaaGreatDoor
namespace Go.Dw
open Go Go.RowKit
theorem nB {s:List Ch} {c x:Ch} {k:Nat} (h:m8 s k=some x):m8 (s++[c]) k=some x:=by
 have:k < s.length:=by rw[J7] at h;exact (q9.1 h).1
 rw[H3,if_pos this];exact h
theorem BY {s:List Ch} {c x d:Ch} {k:Nat} (h:m8 s k=some x):x9 (s++[c]) k d=x9 s k d++[c]:=by
 have:k < s.length:=by rw[J7] at h;exact (q9.1 h).1
 rw[S9,S9,List.set_append_left _ _ this]
theorem nR {P:Program} {s:List Ch} {i j b f T:Nat} {xs:List Value} {k:Hp} {args:List Value} {R:Value->List Value->Hp->Hp->Prop} {q:TV->List Ch->Prop} (hij:i≠j) (hi:m8 s i=some (.box b xs T)) (hj:m8 s j=some (.hp k))
  (hc :∀w0 w,Ok w0 s w->j6 P f args.toArray w (O6 w ((Ch.box b xs T).h.join k) λv h' cs=>∃ys H,cs = [.box b ys T,.hp H]/\R v ys h' H))
  (hq :∀v ys k' H,R v ys k' H->q (.v v) (x9 (x9 s i (.box b ys T)) j (.hp k')++[.hp H])):Q8 P s f args q:=by
 refine⟨λw0 w hok=>⟨(hc w0 w hok).1,(hc w0 w hok).2.mono λe w' he=>?_⟩⟩;obtain⟨v,k',cs,rfl,h0,ys,H,rfl,hR⟩:=he;have hdj:(Ch.box b ys T).h.dj k':=h0.disj 2 1 _ _ dc rfl rfl;have h1:Ok w [.hp ((Hp.whole w).minus ((Ch.box b xs T).h.join k)),.hp ((Ch.box b ys T).h.join k'),.hp H] w':=Ok.join (d:=.box b ys T) (e:=.hp k') (s:=[.hp H]) (h0.pick [0,2,1,3] rfl rfl);have a1:=hok.exch (c':=.hp ((Ch.box b xs T).h.join k)) (d':=.hp Hp.emp) hij hi hj (λn x hx=>by
  have hx:((Ch.box b xs T).h.join k) n=some x:=hx;unfold Hp.join at hx;split at hx
  ·rename_i y hy;rw[hy];exact .inl hx
  ·exact .inr hx) (λk x hx=>by cases hx) (λk=>.inr rfl)
 have g1:m8 (x9 (x9 s i (.hp ((Ch.box b xs T).h.join k))) j (.hp Hp.emp)) i=some (.hp ((Ch.box b xs T).h.join k)):=by
  rw[F9,if_neg hij.symm,F9,if_pos rfl,hi];rfl
 have a2:=a1.callM g1 h1;have g2:m8 (x9 (x9 (x9 s i (.hp ((Ch.box b xs T).h.join k))) j (.hp Hp.emp)) i (.hp ((Ch.box b ys T).h.join k'))) i=some (.hp ((Ch.box b ys T).h.join k')):=by
  rw[F9,if_pos rfl,g1];rfl
 have g3:m8 (x9 (x9 (x9 s i (.hp ((Ch.box b xs T).h.join k))) j (.hp Hp.emp)) i (.hp ((Ch.box b ys T).h.join k'))) j=some (.hp Hp.emp):=by
  rw[F9,if_neg hij,F9,if_pos rfl,F9,if_neg hij,hj];rfl
 have a3:=a2.exch (c':=.box b ys T) (d':=.hp k') hij (nB g2) (nB g3) (λn x hx=>.inl (Hp.le_join_l _ _ n x hx)) (λn x hx=>.inl (Hp.le_join_r hdj n x hx)) hdj;have g4:m8 (x9 (x9 (x9 (x9 s i (.hp ((Ch.box b xs T).h.join k))) j (.hp Hp.emp)) i (.hp ((Ch.box b ys T).h.join k'))) i (.box b ys T)) j=some (.hp Hp.emp):=by
  rw[F9,if_neg hij];exact g3
 rw[BY g2,BY g4] at a3;have e :∀(a c:Ch) (d e f:Ch),x9 (x9 (x9 (x9 (x9 s i a) j c) i d) i e) j f=x9 (x9 s i e) j f:=by
  intro a c d e f;simp only[S9];refine O8 λn=>?_;simp only[O7,N8];by_cases hj':j=n
  ·subst hj';simp
  ·simp only[hj',if_false];by_cases hi':i=n
   ·subst hi';simp
   ·simp[hi']
 rw[e] at a3;refine⟨v,_,rfl,a3,?_,hq v ys k' H hR⟩;refine ((J6.set hi (c':=.box b ys T) (λb' cs T e=>by cases e;exact⟨_,_,rfl⟩)).trans ?_).trans (J6.app _ _);exact J6.set (i:=j) (c:=.hp k) (by rw[F9,if_neg hij,hj]) (λb' cs T e=>by cases e)
end Go.Dw
namespace Go.Proofs.YtpjhmeicbjkcdaaGreatDoor
open Go Go.RowKit Go.Dw
def UN (D:List S1) (x:Ex):e8×Int:=if HD D≠0 then ([],HD D) else if pL D.length x≠0 then ([],pL D.length x) else xR (E7 (D6 D) 8 x)
theorem Ef {op:Int} (h:1<=op/\op<=5):jP op≠[]:=by
 have:op=1\/op=2\/op=3\/op=4\/op=5:=om
 rcases this with rfl | rfl | rfl | rfl | rfl <;> decide
theorem Aq {n:Int} {nm:Int->e8} :∀{d:Nat} {x:Ex},XY n d x->E7 nm d x≠[]
 | 0,_,h=>h.elim
 | d+1,.mk op f fac args,h=>by
  show (if op=0 then bZ nm f else _)≠[]
  by_cases h0:op=0
  ·rw[if_pos h0];unfold bZ;simp
  ·rw[if_neg h0];intro c;exact Ef (KZ h0 h.1).1 (List.append_eq_nil_iff.1 c).1
set_option maxRecDepth 10000 in
theorem mU {ad:Option Addr} {nd cd e:Nat} {D:List S1} {x:Ex} {cs:List Value} (w:World) (hD:Sl (B0 O1) 4 (Hp.whole w) ad nd cd D) (hx:P5 e (Hp.whole w) x cs) (hs:AS x) (hn:D.length < 1000000) (hdn :∀d∈D,d.1.length < 1000000) (hlen:(E7 (D6 D) 8 x).length < 1000000000) :
  j6 Tryz.prog 19 #[.slice ad nd cd,.agg cs.toArray] w (v7 w (.tuple #[sv (UN D x).1,iQ (UN D x).2])):=by
 match e,hx with
 | e+1,hx=>
 obtain⟨op,f,fac,args⟩:=x;have hx':=hx;obtain⟨a,n,c,a1,n1,c1,rfl,hf,ha⟩:=hx;have hdl:=hD.len;refine enterZ (cx 30) [.slice ad nd cd,.agg #[iQ op,sv f.1,.slice a n c,sv fac,.slice a1 n1 c1]] [.tmp 4,.tmp 5] Tryz.func19 ?_;intro b3;refine k7 _ (λw' hm=>wO w' (hD.mono (j7 _) (hm 0 _ rfl).whole) hn) ?_;unfold UN;refine d8 (λh1=>?_) λh1=>?_
 ·rw[if_pos h1];exact⟨[],⟨rfl,rfl⟩,pk [0]⟩
 rw[if_neg h1];refine k7 _ (λw' hm=>mZ w' om hs (q7 _ _ _ _ _ (hm 0 _ rfl).whole hx')) ?_;rw[<-hdl];refine d8 (λh2=>?_) λh2=>?_
 ·rw[if_pos h2];exact⟨[],⟨rfl,rfl⟩,pk [0]⟩
 rw[if_neg h2];have hg:XY D.length 8 (.mk op f fac args):=xC 8 0 _ (by rw[<-hdl];exact l9.1 h2);have hne:=Aq (nm:=D6 D) hg;intro b22;refine Q8.emp (Ib (i:=2) (j:=3) (c:=0) (d:=8) (o:=Dw.Os.nil) (t:=[]) dc rfl rfl rfl dc dc (.inl rfl) (w8.nil _ _ _) hx' hD hg hs hdn (by rw[d9];omega) (λv fl' o' hfl ho=>?_));rw[N6] at ho;refine Gt (i:=2) (j:=3) dc rfl rfl hfl ho hne λys k'=>?_;exact⟨[],⟨rfl,rfl⟩,pk [0]⟩
end Go.Proofs.YtpjhmeicbjkcdaaGreatDoor
namespace Go.Proofs.YtpjhmeicbjkcdaaGreatDoor
open Go
structure Iv (p:W3):Prop where
 n:H8 p.1=true
 d:1<=p.2.1/\p.2.1<=1048576
 c:p.2.2.length<=6
 v :∀c∈p.2.2,c.length<=16/\∀v∈c,(-4096<=v.1/\v.1<=4096)/\(-4096<=v.2.1/\v.2.1<=4096)/\(-4096<=v.2.2/\v.2.2<=4096)
theorem YB {n m:Int} (h:aH n m=false) : -m<=n/\n<=m:=by
 unfold aH at h;rw[U2,decide_eq_false_iff_not,decide_eq_false_iff_not] at h;omega
theorem Ad {names:List e8} {s:e8} (h:wH names s=0):H8 s=true/\s∉names:=by
 unfold wH at h;split at h
 ·exact absurd h dc
 ·rename_i h1
  split at h
  ·exact absurd h dc
  ·rename_i h2
   exact⟨by cases hh:H8 s with | true=>rfl | false=>exact absurd hh h1,h2⟩
theorem cT {a b:Int} (h:oE a b=0):a=0/\b=0:=by
 unfold oE at h;split at h
 ·rename_i h1;exact absurd h h1
 ·rename_i h1;exact⟨l9.1 h1,h⟩
theorem UP {p:W3} (hn:H8 p.1=true) (h:wF p=0):Iv p:=by
 unfold wF at h;split at h
 ·exact absurd h dc
 ·rename_i h1
  split at h
  ·exact absurd h dc
  ·rename_i h2
   refine⟨hn,om,om,λc hc=>?_⟩;obtain⟨i,hi,rfl⟩:=Q1.1 hc;have:=V8.1 h i hi;rw[i7,i6 hi] at this;have this:IX p.2.2[i]=0:=this;unfold IX at this;split at this
   ·exact absurd this dc
   ·rename_i h3
    split at this
    ·exact absurd this dc
    ·rename_i h4
     refine⟨om,λv hv=>?_⟩;have h5:tQ v=false:=by
      cases hh:tQ v with
      | false=>rfl
      | true=>exact absurd (E6.2 ⟨v,hv,hh⟩) h4
     unfold tQ at h5;rw[U2,U2] at h5;exact⟨YB h5.1,YB h5.2.1,YB h5.2.2⟩
structure Iy (parts:List e8) (x:mX):Prop where
 n:H8 x.1=true
 p:x.2.1∈parts
 t:(-12<=x.2.2.1.1/\x.2.2.1.1<=12)/\(-12<=x.2.2.1.2.1/\x.2.2.1.2.1<=12)/\(-12<=x.2.2.1.2.2.1/\x.2.2.1.2.2.1<=12)/\(-12<=x.2.2.1.2.2.2/\x.2.2.1.2.2.2<=12)
 s:I7 x.2.2.2.1=0/\I7 x.2.2.2.2.1=0/\I7 x.2.2.2.2.2=0
theorem VU {parts:List e8} {x:mX} (hn:H8 x.1=true) (h:wL parts x=0):Iy parts x:=by
 unfold wL at h;split at h
 ·exact absurd h dc
 ·rename_i h1
  split at h
  ·exact absurd h dc
  ·rename_i h2
   have h2:=Bool.not_eq_true _ ▸ h2;rw[U2,U2,U2] at h2;obtain⟨a,b⟩:=cT h;obtain⟨b,c⟩:=cT b;exact⟨hn,l9.1 h1,⟨YB h2.1,YB h2.2.1,YB h2.2.2.1,YB h2.2.2.2⟩,a,b,c⟩
structure Iz (d:S1):Prop where
 n:H8 d.1=true
 r:(-1073741824<=d.2.1/\d.2.1<=1073741824)/\(-1073741824<=d.2.2.1/\d.2.2.1<=1073741824)/\(-1073741824<=d.2.2.2/\d.2.2.2<=1073741824)
 o:d.2.2.1<=d.2.2.2
theorem WV {d:S1} (hn:H8 d.1=true) (h:wM d=0):Iz d:=by
 unfold wM at h;split at h
 ·exact absurd h dc
 ·rename_i h2
  split at h
  ·exact absurd h dc
  ·rename_i h3
   have h2:=Bool.not_eq_true _ ▸ h2;rw[U2,U2] at h2;exact⟨hn,⟨YB h2.1,YB h2.2.1,YB h2.2.2⟩,om⟩
structure Iu (n:Int) (r:kV):Prop where
 nm:H8 r.1=true
 g:pL n r.2.1=0
 l:r.2.2.1 = []\/I7 r.2.2.1=0
 h:r.2.2.2 = []\/I7 r.2.2.2=0
 o:r.2.2.1≠[]->r.2.2.2≠[]->¬ dF r.2.2.2*dG r.2.2.1 < dF r.2.2.1*dG r.2.2.2
theorem UC {n:Int} {r:kV} (hn:H8 r.1=true) (h:wE n r=0):Iu n r:=by
 unfold wE at h;obtain⟨a,b⟩:=cT h;obtain⟨b,c⟩:=cT b;obtain⟨c,d⟩:=cT c;refine⟨hn,a,?_,?_,λh1 h2 h3=>?_⟩
 ·by_cases e:r.2.2.1 = []
  ·exact .inl e
  ·rw[if_neg e] at b;exact .inr b
 ·by_cases e:r.2.2.2 = []
  ·exact .inl e
  ·rw[if_neg e] at c;exact .inr c
 ·rw[if_pos ⟨⟨h1,h2⟩,h3⟩] at d;exact absurd d dc
structure Bo (p:jL):Prop where
 gn:H8 p.nm=true
 gp:p.parts.length<=64/\∀i (h:i < p.parts.length),Iv p.parts[i]/\p.parts[i].1∉(p.parts.take i).map (·.1)
 gi:p.insts.length<=12/\∀i (h:i < p.insts.length),Iy (p.parts.map (·.1)) p.insts[i]/\p.insts[i].1∉(p.insts.take i).map (·.1)
 gd:p.dims.length<=64/\∀i (h:i < p.dims.length),Iz p.dims[i]/\p.dims[i].1∉(p.dims.take i).map (·.1)
 gc:p.cons.length<=64/\∀i (h:i < p.cons.length),(H8 p.cons[i].1=true/\wR p.dims.length p.cons[i].2)/\p.cons[i].1∉(p.cons.take i).map (·.1)
 gr:p.reqs.length<=64/\∀i (h:i < p.reqs.length),Iu p.dims.length p.reqs[i]/\p.reqs[i].1∉(p.reqs.take i).map (·.1)
theorem mG {α:Type} {most:Nat} {l:List α} {nm:α->e8} {f:α->Int} {Q:α->Prop} (hQ :∀x,H8 (nm x)=true->f x=0->Q x) (h:bC most l nm f=0):l.length<=most/\∀i (h:i < l.length),Q l[i]/\nm l[i]∉(l.take i).map nm:=by
 unfold bC at h;split at h
 ·exact absurd h dc
 ·rename_i h1
  refine⟨om,λi hi=>?_⟩;have:=V8.1 h i hi;rw[i6 hi] at this;obtain⟨a,b⟩:=cT this;obtain⟨a,c⟩:=Ad a;exact⟨hQ _ a b,c⟩
theorem GU {p:jL} (h:IW p=0):Bo p:=by
 unfold IW at h;split at h
 ·exact absurd h dc
 ·rename_i h1
  obtain⟨a,h⟩:=cT h;obtain⟨b,h⟩:=cT h;obtain⟨c,h⟩:=cT h;obtain⟨d,e⟩:=cT h;exact⟨by cases hh:H8 p.nm with | true=>rfl | false=>exact absurd hh h1,mG (λx=>UP) a,mG (λx=>VU) b,mG (λx=>WV) c,mG (Q:=λx:kY=>H8 x.1=true/\wR p.dims.length x.2) (λx h1 h2=>⟨h1,ID h2⟩) d,mG (λx=>UC) e⟩
theorem bQ {α:Type} {l:List α} {Q:α->Prop} {R :∀i,i < l.length->Prop} (h :∀i (h:i < l.length),Q l[i]/\R i h) :∀x∈l,Q x:=λx hx=>by
 obtain⟨i,hi,rfl⟩:=Q1.1 hx;exact (h i hi).1
theorem Fd {dims:List S1} (hd :∀d∈dims,H8 d.1=true) {i:Int} (h0:0<=i) (h1:i < dims.length):H8 (dims.getD i.toNat ([],0,0,0)).1=true:=by
 have:i.toNat < dims.length:=om
 rw[i7,i6 this];exact hd _ (j0 this)
end Go.Proofs.YtpjhmeicbjkcdaaGreatDoor
namespace Go.Proofs.YtpjhmeicbjkcdaaGreatDoor
open Go
theorem Q2 {x:e8} (h:I7 x=0):x.length<=400:=by
 unfold I7 bB at h;split at h
 ·exact absurd h dc
 ·omega
end Go.Proofs.YtpjhmeicbjkcdaaGreatDoor
namespace Go.Proofs.YtpjhmeicbjkcdaaGreatDoor
open Go
theorem yQ {x:e8} {sg:Bool} {t:e8} (h:XT x sg t) (hl:x.length<=400):I7 x=0:=by
 obtain⟨e,⟨k,⟨_,a,b,ha,h0,rfl,ht⟩,hc⟩,hz⟩:=h;unfold I7;cases sg with
 | false=>
  have e:x=t:=e;subst e;rcases ht with rfl | ⟨rfl,hb,hb0⟩
  ·exact (GL ha h0 hl).2 hc
  ·exact (GK ha hb h0 hb0 hl).2 hc
 | true=>
  have e:x=45::t:=e;subst e;rcases ht with rfl | ⟨rfl,hb,hb0⟩
  ·have hcd:cM t=true:=by unfold bO at hc;rw[if_pos rfl] at hc;exact hc
   obtain⟨p1,p2,p3⟩:=GX ha hcd (hz rfl) (by rw[d7] at hl;omega);have hd:dZ t=true:=by unfold dZ;rw[ha,decide_eq_true (G2.1 h0)];rfl
   unfold bB;rw[QS ha,if_neg om];dsimp only;rw[p3,hd,p1,if_neg dc,if_neg sQ,if_neg dc,if_pos rfl]
  ·rw[IY,k6,k6,k6,decide_eq_true_eq,decide_eq_true_eq] at hc;obtain⟨ca,cb,h1,hg⟩:=hc;have ha48:a≠[48]:=λc=>by
    rw[c,show T8 [48]=0 from rfl,Nat.gcd_zero_left] at hg;omega
   rw[d7,d6,d7] at hl;obtain⟨p1,p2,p3⟩:=GX ha ca ha48 om;have hd:dZ a=true:=by unfold dZ;rw[ha,decide_eq_true (G2.1 h0)];rfl
   have hdb:dZ b=true:=by unfold dZ;rw[hb,decide_eq_true (G2.1 hb0)];rfl
   have hzb:b.all (λc=>decide (c=48))=false:=by
    cases hh:b.all λc=>decide (c=48) with
    | false=>rfl
    | true=>have:=(IR hb).2 hh;omega
   have hpb:W9 b=0:=(rJ hb hb0 om).2 cb;have hda:T8 (T0 (45::a))=T8 a:=by rw[p3]
   unfold bB;rw[JX ha,if_neg (by rw[d7,d6,d7];omega)];dsimp only;rw[p3,hd,hdb,hzb,p1,hpb,if_neg dc,if_neg dc,if_neg dc,if_neg dc,if_neg];intro c;rcases c with c | c | c
   ·exact c rfl
   ·omega
   ·exact c hg
theorem xH {n k:Nat} (hk:0 < k) (h:n < 10 ^ k):(Lib.decDigits n).length<=k:=(cX n).2.2.2.2 k hk h
theorem tN {z:Int} {k:Nat} (hk:0 < k) (h:z.natAbs < 10 ^ k):(zT z).length<=k+1:=by
 have:=xH hk h;unfold zT;split
 ·rw[d7];omega
 ·omega
end Go.Proofs.YtpjhmeicbjkcdaaGreatDoor
namespace Go.Proofs.YtpjhmeicbjkcdaaGreatDoor
open Go
theorem sC {α:Type} {g:α->e8} {m:Nat} :∀{l:List α},(∀x∈l,(g x).length<=m)->(l.flatMap g).length<=m*l.length
 | [],_=>f8 _
 | x::l,h=>by
  rw[I6,d6,d7,Nat.mul_succ];have h1:=h x sQ;have h2:=sC (l:=l) λy hy=>h y (by simp[hy]);omega
theorem XG {m:Nat} :∀{L:List e8},(∀x∈L,x.length<=m)->(O5 L).length<=(m+2)*L.length
 | [],_=>f8 _
 | [x],h=>by
  have:=h x sQ;show x.length<=(m+2)*1
  omega
 | x::y::r,h=>by
  have h1:=h x sQ;have h2:=XG (L:=y::r) λz hz=>h z (by simp[hz]);show (x++44::32::O5 (y::r)).length<=(m+2)*((y::r).length+1)
  rw[d6,d7,d7,Nat.mul_succ];omega
theorem Eo {s:e8} {m:Nat} (h:s.length<=m):(P1 s).length<=2*m+2:=by
 unfold P1;split
 ·omega
 ·unfold GO;split
  ·exact f8 _
  ·split
   ·exact f8 _
   ·show (34::(G4 s++[34])).length<=_
    rw[d7,d6,w7];have:=EW s;omega
theorem OI {l:List Int} {m:Nat} (h :∀z∈l,(zT z).length<=m):(dL l).length<=(m+2)*l.length+2:=by
 unfold dL;rw[d7,d6,w7];have:=XG (m:=m) (L:=l.map zT) λx hx=>by
  obtain⟨z,hz,rfl⟩:=G6.1 hx;exact h z hz
 rw[l7] at this;omega
theorem ZY (op:Int):(jP op).length<=5:=by
 unfold jP;repeat' split
 all_goals decide
end Go.Proofs.YtpjhmeicbjkcdaaGreatDoor
namespace Go.Proofs.YtpjhmeicbjkcdaaGreatDoor
open Go
theorem bI {s:e8} (h:H8 s=true):(P1 s).length<=82:=Eo (aY h).2.1
theorem IC {n:Int} {nt:Int->e8} {f:gG} (g:wR n f) (hn :∀i:Int,0<=i->i < n->(nt i).length<=82):(bZ nt f).length<=31640:=by
 have h0:=Q2 g.c;unfold bZ;rw[d7,d6,d6,w7];have:=sC (g:=dV nt) (m:=488) (l:=f.2) λt ht=>by
  obtain⟨⟨t1,t2⟩,t3⟩:=g.all t ht;have hx:=hn t.1 t1 t2;have hy:=Q2 t3;unfold dV;rw[d6,d6];have e3:([32,42,32]:e8).length=3:=rfl;have e1:(if t.2.getD 0 0=45 then ([32,45,32]:e8)++t.2.drop 1 else [32,43,32]++t.2).length<=403:=by
   split
   ·rw[d6,k9];have e:([32,45,32]:e8).length=3:=rfl;omega
   ·rw[d6];have e:([32,43,32]:e8).length=3:=rfl;omega
  omega
 have h4:488*f.2.length<=488*64:=B8 488 g.l;omega
theorem IJ {n:Int} {nt:Int->e8} {d:Nat} (ih :∀(k:Nat) (x:Ex),(M9 n d k x).1=0->k<=(M9 n d k x).2/\(M9 n d k x).2<=64/\(E7 nt d x).length+2+32100*k<=32100*(M9 n d k x).2) :
  ∀(L:List Ex) (k:Nat),k<=64->(Z2 (M9 n d) k L).1=0->k<=(Z2 (M9 n d) k L).2/\(Z2 (M9 n d) k L).2<=64/\(O5 (L.map (E7 nt d))).length+32100*k<=32100*(Z2 (M9 n d) k L).2
 | [],k,hk,_=>by
  unfold Z2;exact⟨k8 _,hk,by show 0+32100*k<=32100*k;omega⟩
 | [x],k,hk,he=>by
  unfold Z2 at he ⊢;by_cases h0:(M9 n d k x).1=0
  ·rw[if_neg (λc=>c h0)] at he ⊢;unfold Z2 at he ⊢;obtain⟨h1,h2,h3⟩:=ih k x h0;exact⟨h1,h2,by show (E7 nt d x).length+32100*k<=32100*(M9 n d k x).2;omega⟩
  ·rw[if_pos h0] at he;exact absurd he h0
 | x::y::r,k,hk,he=>by
  unfold Z2 at he ⊢;by_cases h0:(M9 n d k x).1=0
  ·rw[if_neg (λc=>c h0)] at he ⊢;obtain⟨h1,h2,h3⟩:=ih k x h0;obtain⟨g1,g2,g3⟩:=IJ ih (y::r) (M9 n d k x).2 h2 he;refine⟨om,g2,?_⟩;show (E7 nt d x++44::32::O5 ((y::r).map (E7 nt d))).length+32100*k<=_
   rw[d6,d7,d7];omega
  ·rw[if_pos h0] at he;exact absurd he h0
theorem IK {n:Int} {nt:Int->e8} (hn :∀i:Int,0<=i->i < n->(nt i).length<=82) :∀(d k:Nat) (x:Ex),(M9 n d k x).1=0->k<=(M9 n d k x).2/\(M9 n d k x).2<=64/\(E7 nt d x).length+2+32100*k<=32100*(M9 n d k x).2
 | 0,k,x,he=>by
  unfold M9 at he;exact absurd he (show ¬ (15:Int)=0 by decide)
 | d+1,k,.mk op f fac args,he=>by
  unfold M9 at he ⊢;split at he
  ·exact absurd he (show ¬ (6:Int)=0 by decide)
  ·rename_i hk
   split at he
   ·rename_i h2;exact absurd he h2
   ·rename_i h2
    have h2:=l9.1 h2;rw[if_neg hk,if_neg (λc=>c h2)];obtain⟨e1,e2,e3⟩:=IJ (IK hn d) args (k+1) om he;refine⟨om,e2,?_⟩;by_cases h0:op=0
    ·subst h0;obtain⟨gf,rfl,rfl⟩:=yS h2;have e:E7 nt (d+1) (.mk 0 f [] [])=bZ nt f:=if_pos rfl;rw[e];have:=IC gf hn;omega
    ·obtain⟨ho,_,hfa,hfn,_,_⟩:=KZ h0 h2;have e:E7 nt (d+1) (.mk op f fac args)=jP op++((if op=2 then 32::(fac++[32]) else [])++(40::(O5 (args.map (E7 nt d))++[41]))):=if_neg h0;rw[e,d6,d6,d7,d6,w7];have how:=ZY op;have hf:(if op=2 then (32::(fac++[32]):e8) else []).length<=402:=by
      split
      ·rename_i h5
       have:=Q2 (hfn h5);rw[d7,d6,w7];omega
      ·exact f8 _
     omega
theorem WA {n:Int} {nt:Int->e8} (hn :∀i:Int,0<=i->i < n->(nt i).length<=82) {x:Ex} (h:pL n x=0):(E7 nt 8 x).length<=2054400:=by
 obtain⟨_,h2,h3⟩:=IK hn 8 0 x h;omega
theorem z7 {z:Int} (h:z.natAbs < 10000000000):(zT z).length<=11:=tN (k:=10) dc h
def QG (p:jL):e8:=[112,114,111,100,117,99,116,32]++(P1 p.nm++([59,10]++(p.parts.flatMap oA++p.insts.flatMap oH)))
theorem GS {p:jL} (g:Bo p):(QG p).length<=400000:=by
 have h1:=sC (g:=oA) (m:=5000) (l:=p.parts) λx hx=>by
  have gx:=bQ g.gp.2 x hx;have hn:=bI gx.n;have hz:=z7 (z:=x.2.1) (by have:=gx.d;omega);have:=sC (g:=tD) (m:=776) (l:=x.2.2) λc hc=>by
   obtain⟨c1,c2⟩:=gx.v c hc;have:=sC (g:=tP) (m:=48) (l:=c) λv hv=>by
    obtain⟨v1,v2,v3⟩:=c2 v hv;unfold tP;rw[d7];have:=OI (m:=11) (l:=[v.1,v.2.1,v.2.2]) λz hz=>by
     simp only[A8,Q0,or_false] at hz;rcases hz with rfl | rfl | rfl <;> exact z7 om
    have e:[v.1,v.2.1,v.2.2].length=3:=rfl;rw[e] at this;omega
   unfold tD;rw[d6,d6];have e1:([32,32,99,101,108,108]:e8).length=6:=rfl;have e2:([59,10]:e8).length=2:=rfl;have h4:48*c.length<=48*16:=B8 48 c1;omega
  have h4:776*x.2.2.length<=776*6:=B8 776 gx.c;unfold oA;simp only[d6,d7,d9];omega
 have h2:=sC (g:=oH) (m:=1600) (l:=p.insts) λx hx=>by
  have gx:=bQ g.gi.2 x hx;have hn:=bI gx.n;have hp:H8 x.2.1=true:=by
   obtain⟨y,hy,e⟩:=G6.1 gx.p;rw[<-e];exact (bQ g.gp.2 y hy).n
  have hpn:=bI hp;obtain⟨t1,t2,t3,t4⟩:=gx.t;have:=OI (m:=11) (l:=[x.2.2.1.1,x.2.2.1.2.1,x.2.2.1.2.2.1,x.2.2.1.2.2.2]) λz hz=>by
   simp only[A8,Q0,or_false] at hz;rcases hz with rfl | rfl | rfl | rfl <;> exact z7 om
  have e:[x.2.2.1.1,x.2.2.1.2.1,x.2.2.1.2.2.1,x.2.2.1.2.2.2].length=4:=rfl;rw[e] at this;have s1:=Q2 gx.s.1;have s2:=Q2 gx.s.2.1;have s3:=Q2 gx.s.2.2;unfold oH;simp only[d6,d7,d9];omega
 have hn:=bI g.gn;have l1:=g.gp.1;have l2:=g.gi.1;unfold QG;simp only[d6,d7,d9];omega
theorem NV (p:jL):QH p=QG p++(p.dims.flatMap sW++(p.cons.flatMap (sZ p.dims)++p.reqs.flatMap (lW p.dims))):=by
 unfold QH QG;simp only[o6]
theorem UR {p:jL} (g:Bo p):(QH p).length<=200000000:=by
 have h0:=GS g;have hd :∀d∈p.dims,H8 d.1=true:=λd h=>(bQ g.gd.2 d h).n;have hnm :∀i:Int,0<=i->i < p.dims.length->(D6 p.dims i).length<=82:=λi i0 i1=>bI (Fd hd i0 i1);have h1:=sC (g:=sW) (m:=200) (l:=p.dims) λx hx=>by
  have gx:=bQ g.gd.2 x hx;have hn:=bI gx.n;obtain⟨a,b,c⟩:=gx.r;have z1:=z7 (z:=x.2.1) om;have z2:=z7 (z:=x.2.2.1) om;have z3:=z7 (z:=x.2.2.2) om;unfold sW;simp only[d6,d7,d9];omega
 have hc:=bQ (Q:=λx:kY=>H8 x.1=true/\wR p.dims.length x.2) g.gc.2;have h2:=sC (g:=sZ p.dims) (m:=32000) (l:=p.cons) λx hx=>by
  obtain⟨c1,c2⟩:=hc x hx;have hn:=bI c1;have hf:=IC c2 hnm;unfold sZ;simp only[d6,d7,d9];omega
 have h3:=sC (g:=lW p.dims) (m:=2060000) (l:=p.reqs) λx hx=>by
  have gx:=bQ g.gr.2 x hx;have hn:=bI gx.nm;have hg:=WA hnm gx.g;have e1:(if x.2.2.1 = [] then ([]:e8) else [32,102,114,111,109,32]++x.2.2.1).length<=410:=by
   split
   ·decide
   ·rename_i c
    have:=Q2 (gx.l.resolve_left c);rw[d6];have e:([32,102,114,111,109,32]:e8).length=6:=rfl;omega
  have e2:(if x.2.2.2 = [] then ([]:e8) else [32,116,111,32]++x.2.2.2).length<=410:=by
   split
   ·decide
   ·rename_i c
    have:=Q2 (gx.h.resolve_left c);rw[d6];have e:([32,116,111,32]:e8).length=4:=rfl;omega
  unfold lW;rw[d6,d6,d6,d6,d6,d6];have e3:([114,101,113,117,105,114,101,32]:e8).length=8:=rfl;have e4:([58,32]:e8).length=2:=rfl;have e5:([59,10]:e8).length=2:=rfl;omega
 have l1:=g.gd.1;have l2:=g.gc.1;have l3:=g.gr.1;rw[NV,d6,d6,d6];omega
end Go.Proofs.YtpjhmeicbjkcdaaGreatDoor
namespace Go.Proofs.YtpjhmeicbjkcdaaGreatDoor
open Go Go.RowKit Go.Dw
theorem QV {body:(Dw.Ex->Tm->List Ch->Prop)->Tm->List Ch->Prop} {Q:Dw.Ex->Tm->List Ch->Prop} {t:Tm} {s:List Ch} (h:FF s->u6 body Q t s):u6 body Q t s:=by
 by_cases hs:FF s
 ·exact h hs
 ·exact u6.mkS Unit (λ_=>t) (λ_=>s) (λ_=>True) (λ_=>0) () trivial (λn w0 w a hok _=>absurd ⟨w0,w,hok⟩ hs) (λg _ hsat=>absurd hsat hs)
section
variable {s:List Ch} {i b:Nat} {h:Hp} {dv:Value} {t:e8} {q:TV->List Ch->Prop}
theorem Ck {c k bb T m off:Nat} {H:Hp} {cs:List Value} {L:List Int} (hi:m8 s i=some (.hp h)) (hI:kW h b dv t) (hc:m8 s c=some (.hp H)) (hci:c≠i) (hk:m8 s k=some (.box bb cs T)) (hki:k≠i)
  (hcs :∀x (hx:x < L.length),cs[off+x]?=some (iQ L[x])) (hm:m=L.length) (hP:dT H) (h0:0 < L.length) (hn:L.length < 1000) (hz :∀z∈L,LV z) (hlen:t.length+(dL L).length < 1000000)
  (hq :∀v h',kW h' b dv (t++dL L)->q v (x9 s i (.hp h'))):Q8 Tryz.prog s 59 [pQ b,.slice (some ⟨bb,off,none⟩) m m] q:=by
 subst hm;refine l6 (i:=i) hi (λw0 w hok=>RB w (hok.mem i _ hi) hI (Sl.mono (j7 _) (Hp.le_minus (hok.mem k _ hk).whole (hok.disj k i _ _ hki hk hi)) (KA (f:=Gf) (off:=off) (λ_=>rfl) (λkk hkk jj v hv=>?_))) (hP.mono (Hp.le_minus (hok.mem c _ hc).whole (hok.disj c i _ _ hci hc hi))) h0 hn hz hlen) ?_
 ·match jj,hv with
  | 0,hv=>
   have hv:some (Value.int .i64 L[kk])=some v:=hv;rw[E3,G3,<-hv];exact hcs kk hkk
 ·rintro v h' _ ⟨rfl,hI2⟩;rw[p8];exact hq _ _ hI2
theorem Ia {c:Nat} {H:Hp} {ad a:Option Addr} {nd cd n c':Nat} {D:List S1} {f:gG} (hi:m8 s i=some (.hp h)) (hI:kW h b (.slice ad nd cd) t) (hc:m8 s c=some (.hp H)) (hci:c≠i)
  (hL:Sl (B0 U0) 2 H a n c' f.2) (hD:Sl (B0 O1) 4 H ad nd cd D) (hn:f.2.length < 1000000) (hdn :∀d∈D,d.1.length < 1000000) (hix :∀x∈f.2,0<=x.1/\x.1 < D.length) (hlen:t.length+(bZ (D6 D) f).length < 1000000000)
  (hq :∀v h',kW h' b (.slice ad nd cd) (t++bZ (D6 D) f)->q v (x9 s i (.hp h'))):Q8 Tryz.prog s 60 [pQ b,.agg #[sv f.1,.slice a n c']] q:=by
 refine l6 (i:=i) hi (λw0 w hok=>CR (fc:=f.1) (L:=f.2) w (hok.mem i _ hi) hI (hL.mono (j7 _) (Hp.le_minus (hok.mem c _ hc).whole (hok.disj c i _ _ hci hc hi))) (hD.mono (j7 _) (Hp.le_minus (hok.mem c _ hc).whole (hok.disj c i _ _ hci hc hi))) hn hdn hix hlen) ?_;rintro v h' _ ⟨rfl,hI2⟩;rw[p8];exact hq _ _ hI2
theorem Ic {c d e:Nat} {H:Hp} {ad:Option Addr} {nd cd:Nat} {D:List S1} {x:Ex} {xs:List Value} (hi:m8 s i=some (.hp h)) (hI:kW h b (.slice ad nd cd) t) (hc:m8 s c=some (.hp H)) (hci:c≠i)
  (hx:P5 e H x xs) (hD:Sl (B0 O1) 4 H ad nd cd D) (hg:XY D.length d x) (hs:AS x) (hdn :∀d∈D,d.1.length < 1000000) (hlen:t.length+(E7 (D6 D) d x).length < 1000000000)
  (hq :∀v h',kW h' b (.slice ad nd cd) (t++E7 (D6 D) d x)->q v (x9 s i (.hp h'))):Q8 Tryz.prog s 61 [pQ b,.agg xs.toArray] q:=by
 refine l6 (i:=i) hi (λw0 w hok=>CT hdn d e _ t x xs w (hok.mem i _ hi) hI hg hs (q7 e _ _ _ _ (Hp.le_minus (hok.mem c _ hc).whole (hok.disj c i _ _ hci hc hi)) hx) (hD.mono (j7 _) (Hp.le_minus (hok.mem c _ hc).whole (hok.disj c i _ _ hci hc hi))) hlen) ?_;rintro v h' _ ⟨rfl,hI2⟩;rw[p8];exact hq _ _ hI2
end
theorem nJ {z:Int} (h:z.natAbs < 9000000000000000000):LV z:=by unfold LV;omega
theorem EX {x:e8} (h:decide (x≠[])=false):x = []:=j9 λc=>by rw[decide_eq_true c] at h;cases h
theorem EP {x:e8} (h:decide (x≠[])=true) : ¬ x = []:=of_decide_eq_true h
set_option maxRecDepth 10000 in
set_option maxHeartbeats 4000000 in
theorem MT {d:Nat} {p:jL} {cs:List Value} (w:World) (hp:qB d (Hp.whole w) p cs) (hs:SJ p) (hT:dT (Hp.whole w)) :
  j6 Tryz.prog 13 #[.agg cs.toArray] w (v7 w (.tuple #[sv (ZV p).1,iQ (ZV p).2])):=by
 have hp':=hp;obtain⟨a1,n1,c1,a2,n2,c2,a3,n3,c3,a4,n4,c4,a5,n5,c5,rfl,h1,h2,h3,h4,h5⟩:=hp.ex;have hl1:=h1.len;have hl2:=h2.len;have hl3:=h3.len;have hl4:=h4.len;have hl5:=h5.len;refine enterZ (cx 205) [.agg #[sv p.nm,.slice a1 n1 c1,.slice a2 n2 c2,.slice a3 n3 c3,.slice a4 n4 c4,.slice a5 n5 c5]] [.tmp 2,.tmp 3] Tryz.func13 ?_;obtain⟨c0,hc0⟩ :∃c0,c0=Hp.whole w:=⟨_,rfl⟩
 rw[<-hc0] at h1 h2 h3 h4 h5 hT hp' ⊢;intro b1;refine k7 _ (λw' hm=>NA w' (hp'.mono (hm 0 _ rfl).whole) hs) ?_;unfold ZV;refine d8 (λg1=>?_) λg1=>?_
 ·rw[if_pos g1];exact⟨[],⟨rfl,rfl⟩,pk [0]⟩
 rw[if_neg g1];have g:Bo p:=GU (l9.1 g1);have hdn :∀d∈p.dims,d.1.length < 1000000:=λd hd=>by have:=(aY (bQ g.gd.2 d hd).n).2.1;omega
 have q1:=g.gp.1;have q2:=g.gi.1;have q3:=g.gd.1;have q4:=g.gc.1;have q5:=g.gr.1;have hpre:=GS g;have hall:=UR g;have hpe:=NV p;intro b29;refine k7 _ (λw' hm=>Z0 p.nm hs.nm w') ?_;intro b34;have hnm:=bI g.gn;refine Hd (i:=2) (k:=3) (fl:=.pointer none) (L:=[[112,114,111,100,117,99,116,32],P1 p.nm,[59,10]]) rfl rfl dc (.inl rfl) rfl sQ (by simp only[w5,y6,d6,d7,d9];omega) λv fl0 o0 hfl0 ho0=>?_;obtain⟨hd0,hhd⟩ :∃x,x=([[112,114,111,100,117,99,116,32],P1 p.nm,[59,10]]:List e8).flatten:=⟨_,rfl⟩
 rw[<-hhd] at ho0;have hP:QG p=hd0++(p.parts.flatMap oA++p.insts.flatMap oH):=by rw[hhd];unfold QG;simp
 rw[hP] at hpre hpe;have hpl:=congrArg F7 hpe;simp only[d6] at hpre hpl;refine QV λhsat=>?_;have hdj0:(Ch.box b29 [fl0,o0.v,.slice a3 n3 c3] 118).h.dj o0.h:=by
  obtain⟨w0,w1,hok⟩:=hsat;exact hok.disj 2 4 _ _ dc rfl rfl
 refine u6.mk (Nat×Hp) (λg=>[(1,.bx 2 0),(5,.v (pQ b29)),(38,.v (.slice a1 n1 c1)),(39,.v (iQ n1)),(40,.v (iQ g.1))]) (λg=>[.hp c0,.hp g.2,.box b1 [sv p.nm,.slice a1 n1 c1,.slice a2 n2 c2,.slice a3 n3 c3,.slice a4 n4 c4,.slice a5 n5 c5] 30])
  (λg=>g.1<=n1/\kW g.2 b29 (.slice a3 n3 c3) (hd0++(p.parts.take g.1).flatMap oA)) (λg=>n1 - g.1) (0,(Ch.box b29 [fl0,o0.v,.slice a3 n3 c3] 118).h.join o0.h) ⟨f8 _,fl0,o0,rfl,hdj0,hfl0,by simpa using ho0⟩ (v6.mk (λ_ _ h=>Ok.join (c:=.hp c0) (d:=.box b29 [fl0,o0.v,.slice a3 n3 c3] 118) (e:=.hp o0.h) (s:=[.box b1 [sv p.nm,.slice a1 n1 c1,.slice a2 n2 c2,.slice a3 n3 c3,.slice a4 n4 c4,.slice a5 n5 c5] 30]) (h.pick [0,2,4,1] rfl rfl)) rfl rfl) ?_
 rintro⟨k,h⟩ ⟨hk,hI⟩;dsimp only at hk hI ⊢;refine d8 (λg2=>?_) λg2=>?_
 ·have hkl:k < p.parts.length:=om
  obtain⟨⟨nm,dens,cells⟩,hx⟩ :∃x,x=p.parts[k]:=⟨_,rfl⟩
  have hxm:(nm,dens,cells)∈p.parts:=by rw[hx];exact j0 hkl
  have gx:=bQ g.gp.2 _ hxm;have hcc:cells.length<=6:=gx.c;have hfle:=sB (g:=oA) hkl;have hft:=cW (g:=oA) hkl;rw[<-hx] at hfle hft;have hxl:(oA (nm,dens,cells)).length=5+((P1 nm).length+(9+((zT dens).length+(3+((cells.flatMap tD).length+2))))):=by unfold oA;simp only[d6,d7,d9]
  refine I1 cQ (e:=83) rfl h1 k rfl hkl λb9 o9 cs hcs hR hcell=>?_;rw[<-hx] at hR;obtain⟨ac,nc,cc,rfl,hcel⟩:=hR;have hcl:=hcel.len;dsimp only at hcl hcel;refine T7 cQ (i:=0) rfl hcell rfl ?_;intro b7;refine s6.by_order0 cQ (.take 0 <| .take 1 <| .take 2 <| .take 4 <| .take 5 <| .run 3 <| .run 6 <| .run 7 <| .run 8 <| .done) kr (K9 _ 1) ?_;refine k7 _ (λw' hm=>Z0 nm (by have:=(aY gx.n).2.1;dsimp only at this;omega) w') ?_;refine⟨sK,?_⟩;refine k7 _ (λw' hm=>fU dens (nJ (by have:=gx.d;dsimp only at this;omega)) w' (hT.mono (hm 0 _ rfl).whole)) ?_;refine⟨sK,?_⟩;intro b51;refine⟨sK,?_⟩;refine aL (i:=1) (j:=4) dc rfl hI (L:=[[112,97,114,116,32],P1 nm,[32,100,101,110,115,105,116,121,32],zT dens,[32,123,10]]) rfl rfl sQ (by simp only[w5,y6,d6,d7,d9];omega) λv h hI=>?_;refine⟨sK,?_⟩;obtain⟨T2,hT2⟩ :∃T2,T2=hd0++(p.parts.take k).flatMap oA++([[112,97,114,116,32],P1 nm,[32,100,101,110,115,105,116,121,32],zT dens,[32,123,10]]:List e8).flatten:=⟨_,rfl⟩
  rw[<-hT2] at hI;have hT2l:T2.length=hd0.length+((p.parts.take k).flatMap oA).length+(5+((P1 nm).length+(9+((zT dens).length+3)))):=by rw[hT2];simp only[w5,y6,d6,d7,d9]
  refine u6.mk (Nat×Hp) (λg=>[(1,.bx 2 0),(5,.v (pQ b29)),(38,.v (.slice a1 n1 c1)),(39,.v (iQ n1)),(40,.v (iQ k)),(54,.v (.slice ac nc cc)),(55,.v (iQ nc)),(56,.v (iQ g.1))]) (λg=>[.hp c0,.hp g.2,.box b1 [sv p.nm,.slice a1 n1 c1,.slice a2 n2 c2,.slice a3 n3 c3,.slice a4 n4 c4,.slice a5 n5 c5] 30])
   (λg=>g.1<=nc/\kW g.2 b29 (.slice a3 n3 c3) (T2++(cells.take g.1).flatMap tD)) (λg=>nc - g.1) (0,h) ⟨f8 _,by simpa using hI⟩ (v6.mk (pj [0,1,2]) rfl rfl) ?_
  rintro⟨j,h⟩ ⟨hj,hI⟩;dsimp only at hj hI ⊢;refine d8 (λg3=>?_) λg3=>?_
  ·have hjl:j < cells.length:=om
   obtain⟨c,hc⟩ :∃c,c=cells[j]:=⟨_,rfl⟩
   have hcm:c∈cells:=by rw[hc];exact j0 hjl
   obtain⟨hc16,hcv⟩:=gx.v c hcm;have hcle:=sB (g:=tD) hjl;have hct:=cW (g:=tD) hjl;rw[<-hc] at hcle hct;have hcl2:(tD c).length=6+((c.flatMap tP).length+2):=by unfold tD;simp only[d6,d7,d9]
   refine I1 cQ (e:=86) rfl hcel j rfl hjl λb9 o9 cs hcs hR hcell=>?_;rw[<-hc] at hR;obtain⟨av,nv,cv,rfl,hver⟩:=hR;have hvl:=hver.len;refine T7 cQ (i:=0) rfl hcell rfl ?_;intro b9' b61;refine aL (i:=1) (j:=4) dc rfl hI (L:=[[32,32,99,101,108,108]]) rfl rfl sQ (by simp only[w5,y6,d6,d7,d9];omega) λv h hI=>?_;obtain⟨T3,hT3⟩ :∃T3,T3=T2++(cells.take j).flatMap tD++([[32,32,99,101,108,108]]:List e8).flatten:=⟨_,rfl⟩
   rw[<-hT3] at hI;have hT3l:T3.length=T2.length+((cells.take j).flatMap tD).length+6:=by rw[hT3];simp only[w5,y6,d6,d7,d9]
   refine u6.mk (Nat×Hp) (λg=>[(1,.bx 2 0),(5,.v (pQ b29)),(38,.v (.slice a1 n1 c1)),(39,.v (iQ n1)),(40,.v (iQ k)),(54,.v (.slice ac nc cc)),(55,.v (iQ nc)),(56,.v (iQ j)),(64,.v (.slice av nv cv)),(65,.v (iQ nv)),(66,.v (iQ g.1))]) (λg=>[.hp c0,.hp g.2,.box b1 [sv p.nm,.slice a1 n1 c1,.slice a2 n2 c2,.slice a3 n3 c3,.slice a4 n4 c4,.slice a5 n5 c5] 30])
    (λg=>g.1<=nv/\kW g.2 b29 (.slice a3 n3 c3) (T3++(c.take g.1).flatMap tP)) (λg=>nv - g.1) (0,h) ⟨f8 _,by simpa using hI⟩ (v6.mk (pj [0,1,2]) rfl rfl) ?_
   rintro⟨m,h⟩ ⟨hm,hI⟩;dsimp only at hm hI ⊢;refine d8 (λg4=>?_) λg4=>?_
   ·have hml:m < c.length:=om
    obtain⟨⟨x,y,z⟩,hv⟩ :∃v,v=c[m]:=⟨_,rfl⟩
    obtain⟨v1,v2,v3⟩:=hcv (x,y,z) (by rw[hv];exact j0 hml);dsimp only at v1 v2 v3;have hvle:=sB (g:=tP) hml;have hvt:=cW (g:=tP) hml;rw[<-hv] at hvle hvt;have hvl2:(tP (x,y,z)).length=(dL [x,y,z]).length+1:=by unfold tP;rw[d7]
    refine I1 cQ (e:=122) rfl hver m rfl hml λb9 o9 cs hcs hR hcell=>?_;rw[<-hv] at hR;have hR:cs = [iQ x,iQ y,iQ z]:=hR;subst hR;refine T7 cQ (i:=0) rfl hcell rfl ?_;intro b11 b71;refine aL (i:=1) (j:=4) dc rfl hI (L:=[[32]]) rfl rfl sQ (by simp only[w5,y6,d6,d7,d9];omega) λv h hI=>?_;refine Je cQ rfl rfl (e:=3) rfl ?_;refine Ck (i:=1) (c:=0) (k:=3) (off:=0) (L:=[x,y,z]) rfl hI rfl dc rfl dc (λx hx=>by
     match x,hx with
     | 0,_=>rfl
     | 1,_=>rfl
     | 2,_=>rfl
     | n+3,hx=>exact absurd hx sQ) rfl hT sQ sQ (λz hz=>by
     simp only[A8,Q0,or_false] at hz;rcases hz with rfl | rfl | rfl <;> exact nJ om) (by simp only[w5,y6,d6,d7,d9];omega) λv h hI=>?_
    refine nwo ?_;refine⟨(m+1,h),⟨by dsimp only;omega,?_⟩,by dsimp only;omega,v6.mk (pj [0,1,2]) rfl rfl⟩;dsimp only;have e:T3++(c.take (m+1)).flatMap tP=T3++(c.take m).flatMap tP++([[32]]:List e8).flatten++dL [x,y,z]:=by rw[hvt];unfold tP;simp
    rw[e];exact hI
   ·have hm2:m=c.length:=om
    subst hm2;rw[p9] at hI;intro b78;refine aL (i:=1) (j:=3) dc rfl hI (L:=[[59,10]]) rfl rfl sQ (by simp only[w5,y6,d6,d7,d9];omega) λv h hI=>?_;refine nwo ?_;refine⟨(j+1,h),⟨by dsimp only;omega,?_⟩,by dsimp only;omega,v6.mk (pj [0,1,2]) rfl rfl⟩;dsimp only;have e:T2++(cells.take (j+1)).flatMap tD=T3++c.flatMap tP++([[59,10]]:List e8).flatten:=by rw[hct,hT3];unfold tD;simp
    rw[e];exact hI
  ·have hj2:j=cells.length:=om
   subst hj2;rw[p9] at hI;intro b82;refine aL (i:=1) (j:=3) dc rfl hI (L:=[[125,10]]) rfl rfl sQ (by simp only[w5,y6,d6,d7,d9];omega) λv h hI=>?_;refine nwo ?_;refine⟨(k+1,h),⟨by dsimp only;omega,?_⟩,by dsimp only;omega,v6.mk (pj [0,1,2]) rfl rfl⟩;dsimp only;have e:hd0++(p.parts.take (k+1)).flatMap oA=T2++cells.flatMap tD++([[125,10]]:List e8).flatten:=by rw[hft,hT2];unfold oA;simp
   rw[e];exact hI
 have hk2:k=p.parts.length:=om
 subst hk2;rw[p9] at hI;clear g2 hk;obtain⟨B1,hB1⟩ :∃x,x=hd0++p.parts.flatMap oA:=⟨_,rfl⟩
 rw[<-hB1] at hI;have lB1:B1.length=hd0.length+(p.parts.flatMap oA).length:=by rw[hB1,d6]
 refine u6.mk (Nat×Hp) (λg=>[(1,.bx 2 0),(5,.v (pQ b29)),(87,.v (.slice a2 n2 c2)),(88,.v (iQ n2)),(89,.v (iQ g.1))]) (λg=>[.hp c0,.hp g.2,.box b1 [sv p.nm,.slice a1 n1 c1,.slice a2 n2 c2,.slice a3 n3 c3,.slice a4 n4 c4,.slice a5 n5 c5] 30])
  (λg=>g.1<=n2/\kW g.2 b29 (.slice a3 n3 c3) (B1++(p.insts.take g.1).flatMap oH)) (λg=>n2 - g.1) (0,h) ⟨f8 _,by simpa using hI⟩ (v6.mk (pj [0,1,2]) rfl rfl) ?_
 rintro⟨k,h⟩ ⟨hk,hI⟩;dsimp only at hk hI ⊢;refine d8 (λg2=>?_) λg2=>?_
 ·have hkl:k < p.insts.length:=om
  obtain⟨⟨nm,pn,⟨t1,t2,t3,t4⟩,⟨s1,s2,s3⟩⟩,hx⟩ :∃x,x=p.insts[k]:=⟨_,rfl⟩
  have hxm:(nm,pn,(t1,t2,t3,t4),(s1,s2,s3))∈p.insts:=by rw[hx];exact j0 hkl
  have gx:=bQ g.gi.2 _ hxm;obtain⟨u1,u2,u3,u4⟩:=gx.t;dsimp only at u1 u2 u3 u4;have hpn:H8 pn=true:=by
   obtain⟨y,hy,e⟩:=G6.1 gx.p;have e:y.1=pn:=e;rw[<-e];exact (bQ g.gp.2 y hy).n
  have hfle:=sB (g:=oH) hkl;have hft:=cW (g:=oH) hkl;rw[<-hx] at hfle hft;have hxl:(oH (nm,pn,(t1,t2,t3,t4),(s1,s2,s3))).length=9+((P1 nm).length+(4+((P1 pn).length+(6+((dL [t1,t2,t3,t4]).length+(8+(s1.length+(2+(s2.length+(2+(s3.length+3))))))))))):=by unfold oH;simp only[d6,d7,d9]
  refine I1 cQ (e:=93) rfl h2 k rfl hkl λb9 o9 cs hcs hR hcell=>?_;rw[<-hx] at hR;have hR:cs = [sv nm,sv pn,iQ t1,iQ t2,iQ t3,iQ t4,sv s1,sv s2,sv s3]:=hR;subst hR;refine T7 cQ (i:=0) rfl hcell rfl ?_;intro b13;obtain⟨T2,hT2⟩ :∃T2,T2=B1++(p.insts.take k).flatMap oH++([[105,110,115,116,97,110,99,101,32],P1 nm,[32,111,102,32],P1 pn,[32,116,117,114,110,32]]:List e8).flatten:=⟨_,rfl⟩
  have hT2l:T2.length=B1.length+((p.insts.take k).flatMap oH).length+(9+((P1 nm).length+(4+((P1 pn).length+6)))):=by rw[hT2];simp only[w5,y6,d6,d7,d9]
  refine s6.cut Hp (λ_=>[(1,.bx 2 0),(5,.v (pQ b29)),(13,.bx 3 0),(87,.v (.slice a2 n2 c2)),(88,.v (iQ n2)),(89,.v (iQ k))]) (λg=>[.hp c0,.hp g,.box b1 [sv p.nm,.slice a1 n1 c1,.slice a2 n2 c2,.slice a3 n3 c3,.slice a4 n4 c4,.slice a5 n5 c5] 30,.box b13 [sv nm,sv pn,iQ t1,iQ t2,iQ t3,iQ t4,sv s1,sv s2,sv s3] 93])
   (λg=>kW g b29 (.slice a3 n3 c3) T2) (s6.by_order0 cQ (.take 0 <| .take 1 <| .take 2 <| .take 4 <| .take 5 <| .run 3 <| .run 6 <| .run 7 <| .run 8 <| .done) kr (K9 _ 1) ?_) ?_
  ·refine k7 _ (λw' hm=>Z0 nm (by have:=(aY gx.n).2.1;dsimp only at this;omega) w') ?_;refine⟨sK,?_⟩;refine k7 _ (λw' hm=>Z0 pn (by have:=(aY hpn).2.1;omega) w') ?_;refine⟨sK,?_⟩;intro b100;refine⟨sK,?_⟩;refine aL (i:=1) (j:=4) dc rfl hI (L:=[[105,110,115,116,97,110,99,101,32],P1 nm,[32,111,102,32],P1 pn,[32,116,117,114,110,32]]) rfl rfl sQ (by simp only[w5,y6,d6,d7,d9];omega) λv h hI=>?_;refine⟨sK,?_⟩;exact⟨h,by rw[hT2];exact hI,v6.mk (pj [0,1,2,3]) rfl rfl⟩
  intro h hI _;have hcs4 :∀x (hx:x < [t1,t2,t3,t4].length),([sv nm,sv pn,iQ t1,iQ t2,iQ t3,iQ t4,sv s1,sv s2,sv s3]:List Value)[2+x]?=some (.int .i64 [t1,t2,t3,t4][x]):=λx hx=>by
   match x,hx with
   | 0,_=>rfl
   | 1,_=>rfl
   | 2,_=>rfl
   | 3,_=>rfl
   | n+4,hx=>exact absurd hx sQ
  have hz4 :∀z∈[t1,t2,t3,t4],LV z:=λz hz=>by
   simp only[A8,Q0,or_false] at hz;rcases hz with rfl | rfl | rfl | rfl <;> exact nJ om
  have hl4':T2.length+(dL [t1,t2,t3,t4]).length < 1000000:=om
  refine o7 λq' hq'=>?_;refine Je cQ rfl rfl (e:=3) rfl ?_;refine Ck (i:=1) (c:=0) (k:=3) (off:=2) (m:=4) (L:=[t1,t2,t3,t4]) rfl hI rfl dc rfl dc hcs4 rfl hT sQ sQ hz4 hl4' λv h hI=>?_;apply hq';refine o7 λq' hq'=>?_;intro b14;apply hq';refine o7 λq' hq'=>?_;intro b117;refine aL (i:=1) (j:=5) dc rfl hI (L:=[[32,115,104,105,102,116,32,40],s1,[44,32],s2,[44,32],s3,[41,59,10]]) rfl rfl sQ (by simp only[w5,y6,d6,d7,d9];omega) λv h hI=>?_;apply hq';refine nwo ?_;refine⟨(k+1,h),⟨by dsimp only;omega,?_⟩,by dsimp only;omega,v6.mk (pj [0,1,2]) rfl rfl⟩;dsimp only;have e:B1++(p.insts.take (k+1)).flatMap oH=T2++dL [t1,t2,t3,t4]++([[32,115,104,105,102,116,32,40],s1,[44,32],s2,[44,32],s3,[41,59,10]]:List e8).flatten:=by rw[hft,hT2];unfold oH;simp
  rw[e];exact hI
 have hk2:k=p.insts.length:=om
 subst hk2;rw[p9] at hI;clear g2 hk;obtain⟨B2,hB2⟩ :∃x,x=B1++p.insts.flatMap oH:=⟨_,rfl⟩
 rw[<-hB2] at hI;have lB2:B2.length=B1.length+(p.insts.flatMap oH).length:=by rw[hB2,d6]
 refine u6.mk (Nat×Hp) (λg=>[(1,.bx 2 0),(5,.v (pQ b29)),(121,.v (.slice a3 n3 c3)),(122,.v (iQ n3)),(123,.v (iQ g.1))]) (λg=>[.hp c0,.hp g.2,.box b1 [sv p.nm,.slice a1 n1 c1,.slice a2 n2 c2,.slice a3 n3 c3,.slice a4 n4 c4,.slice a5 n5 c5] 30])
  (λg=>g.1<=n3/\kW g.2 b29 (.slice a3 n3 c3) (B2++(p.dims.take g.1).flatMap sW)) (λg=>n3 - g.1) (0,h) ⟨f8 _,by simpa using hI⟩ (v6.mk (pj [0,1,2]) rfl rfl) ?_
 rintro⟨k,h⟩ ⟨hk,hI⟩;dsimp only at hk hI ⊢;refine d8 (λg2=>?_) λg2=>?_
 ·have hkl:k < p.dims.length:=om
  obtain⟨⟨nm,z1,z2,z3⟩,hx⟩ :∃x,x=p.dims[k]:=⟨_,rfl⟩
  have hxm:(nm,z1,z2,z3)∈p.dims:=by rw[hx];exact j0 hkl
  have gx:=bQ g.gd.2 _ hxm;obtain⟨u1,u2,u3⟩:=gx.r;dsimp only at u1 u2 u3;have hfle:=sB (g:=sW) hkl;have hft:=cW (g:=sW) hkl;rw[<-hx] at hfle hft;have hxl:(sW (nm,z1,z2,z3)).length=10+((P1 nm).length+(3+((zT z1).length+(2+((zT z2).length+(2+((zT z3).length+3))))))):=by unfold sW;simp only[d6,d7,d9]
  refine I1 cQ (e:=48) rfl h3 k rfl hkl λb9 o9 cs hcs hR hcell=>?_;rw[<-hx] at hR;have hR:cs = [sv nm,iQ z1,iQ z2,iQ z3]:=hR;subst hR;refine T7 cQ (i:=0) rfl hcell rfl ?_;intro b16;refine s6.by_order0 cQ (.take 0 <| .take 1 <| .take 2 <| .take 4 <| .take 5 <| .take 7 <| .take 8 <| .take 10 <| .take 11 <| .run 3 <| .run 6 <| .run 9 <| .run 12 <| .run 13 <| .run 14 <| .done) kr (K9 _ 1) ?_;refine k7 _ (λw' hm=>Z0 nm (by have:=(aY gx.n).2.1;dsimp only at this;omega) w') ?_;refine⟨sK,?_⟩;refine k7 _ (λw' hm=>fU z1 (nJ om) w' (hT.mono (hm 0 _ rfl).whole)) ?_;refine⟨sK,?_⟩;refine k7 _ (λw' hm=>fU z2 (nJ om) w' (hT.mono (hm 0 _ rfl).whole)) ?_;refine⟨sK,?_⟩;refine k7 _ (λw' hm=>fU z3 (nJ om) w' (hT.mono (hm 0 _ rfl).whole)) ?_;refine⟨sK,?_⟩;intro b140;refine⟨sK,?_⟩;refine aL (i:=1) (j:=4) dc rfl hI (L:=[[100,105,109,101,110,115,105,111,110,32],P1 nm,[32,61,32],zT z1,[32,91],zT z2,[44,32],zT z3,[93,59,10]]) rfl rfl sQ (by simp only[w5,y6,d6,d7,d9];omega) λv h hI=>?_;refine⟨sK,?_⟩;refine nwo ?_;refine⟨(k+1,h),⟨by dsimp only;omega,?_⟩,by dsimp only;omega,v6.mk (pj [0,1,2]) rfl rfl⟩;dsimp only;have e:B2++(p.dims.take (k+1)).flatMap sW=B2++(p.dims.take k).flatMap sW++([[100,105,109,101,110,115,105,111,110,32],P1 nm,[32,61,32],zT z1,[32,91],zT z2,[44,32],zT z3,[93,59,10]]:List e8).flatten:=by rw[hft];unfold sW;simp
  rw[e];exact hI
 have hk2:k=p.dims.length:=om
 subst hk2;rw[p9] at hI;clear g2 hk;obtain⟨B3,hB3⟩ :∃x,x=B2++p.dims.flatMap sW:=⟨_,rfl⟩
 rw[<-hB3] at hI;have lB3:B3.length=B2.length+(p.dims.flatMap sW).length:=by rw[hB3,d6]
 have hcon:=bQ (Q:=λx:kY=>H8 x.1=true/\wR p.dims.length x.2) g.gc.2;refine u6.mk (Nat×Hp) (λg=>[(1,.bx 2 0),(5,.v (pQ b29)),(144,.v (.slice a4 n4 c4)),(145,.v (iQ n4)),(146,.v (iQ g.1))]) (λg=>[.hp c0,.hp g.2,.box b1 [sv p.nm,.slice a1 n1 c1,.slice a2 n2 c2,.slice a3 n3 c3,.slice a4 n4 c4,.slice a5 n5 c5] 30])
  (λg=>g.1<=n4/\kW g.2 b29 (.slice a3 n3 c3) (B3++(p.cons.take g.1).flatMap (sZ p.dims))) (λg=>n4 - g.1) (0,h) ⟨f8 _,by simpa using hI⟩ (v6.mk (pj [0,1,2]) rfl rfl) ?_
 rintro⟨k,h⟩ ⟨hk,hI⟩;dsimp only at hk hI ⊢;refine d8 (λg2=>?_) λg2=>?_
 ·have hkl:k < p.cons.length:=om
  obtain⟨⟨nm,f⟩,hx⟩ :∃x,x=p.cons[k]:=⟨_,rfl⟩
  have hxm:(nm,f)∈p.cons:=by rw[hx];exact j0 hkl
  obtain⟨gx,gf⟩:=hcon _ hxm;dsimp only at gx gf;have hfle:=sB (g:=sZ p.dims) hkl;have hft:=cW (g:=sZ p.dims) hkl;rw[<-hx] at hfle hft;have hxl:(sZ p.dims (nm,f)).length=11+((P1 nm).length+(2+((bZ (D6 p.dims) f).length+7))):=by unfold sZ;simp only[d6,d7,d9]
  refine I1 cQ (e:=96) rfl h4 k rfl hkl λb9 o9 cs hcs hR hcell=>?_;rw[<-hx] at hR;obtain⟨af,nf,cf,rfl,hfs⟩:=hR;dsimp only at hfs;refine T7 cQ (i:=0) rfl hcell rfl ?_;intro b18;refine o7 λq' hq'=>?_;apply hq';refine o7 λq' hq'=>?_;refine k7 _ (λw' hm=>Z0 nm (by have:=(aY gx).2.1;omega) w') ?_;intro b154;refine aL (i:=1) (j:=4) dc rfl hI (L:=[[99,111,110,115,116,114,97,105,110,116,32],P1 nm,[58,32]]) rfl rfl sQ (by simp only[w5,y6,d6,d7,d9];omega) λv h hI=>?_;apply hq';refine o7 λq' hq'=>?_;refine Ia (i:=1) (c:=0) (D:=p.dims) (f:=f) rfl hI rfl dc hfs h3 (by have:=gf.l;omega) hdn (λt ht=>(gf.all t ht).1) (by simp only[w5,y6,d6,d7,d9];omega) λv h hI=>?_;apply hq';refine o7 λq' hq'=>?_;intro b161;refine aL (i:=1) (j:=5) dc rfl hI (L:=[[32,60,61,32,48,59,10]]) rfl rfl sQ (by simp only[w5,y6,d6,d7,d9];omega) λv h hI=>?_;apply hq';refine nwo ?_;refine⟨(k+1,h),⟨by dsimp only;omega,?_⟩,by dsimp only;omega,v6.mk (pj [0,1,2]) rfl rfl⟩;dsimp only;have e:B3++(p.cons.take (k+1)).flatMap (sZ p.dims)=B3++(p.cons.take k).flatMap (sZ p.dims)++([[99,111,110,115,116,114,97,105,110,116,32],P1 nm,[58,32]]:List e8).flatten++bZ (D6 p.dims) f++([[32,60,61,32,48,59,10]]:List e8).flatten:=by rw[hft];unfold sZ;simp
  rw[e];exact hI
 have hk2:k=p.cons.length:=om
 subst hk2;rw[p9] at hI;clear g2 hk;obtain⟨B4,hB4⟩ :∃x,x=B3++p.cons.flatMap (sZ p.dims):=⟨_,rfl⟩
 rw[<-hB4] at hI;have lB4:B4.length=B3.length+(p.cons.flatMap (sZ p.dims)).length:=by rw[hB4,d6]
 refine u6.mk (Nat×Hp) (λg=>[(1,.bx 2 0),(5,.v (pQ b29)),(165,.v (.slice a5 n5 c5)),(166,.v (iQ n5)),(167,.v (iQ g.1))]) (λg=>[.hp c0,.hp g.2,.box b1 [sv p.nm,.slice a1 n1 c1,.slice a2 n2 c2,.slice a3 n3 c3,.slice a4 n4 c4,.slice a5 n5 c5] 30])
  (λg=>g.1<=n5/\kW g.2 b29 (.slice a3 n3 c3) (B4++(p.reqs.take g.1).flatMap (lW p.dims))) (λg=>n5 - g.1) (0,h) ⟨f8 _,by simpa using hI⟩ (v6.mk (pj [0,1,2]) rfl rfl) ?_
 rintro⟨k,h⟩ ⟨hk,hI⟩;dsimp only at hk hI ⊢;refine d8 (λg2=>?_) λg2=>?_
 ·have hkl:k < p.reqs.length:=om
  obtain⟨⟨nm,x,lo,hi⟩,hx⟩ :∃x,x=p.reqs[k]:=⟨_,rfl⟩
  have hxm:(nm,x,lo,hi)∈p.reqs:=by rw[hx];exact j0 hkl
  have gx:=bQ g.gr.2 _ hxm;have hsx:=hs.sr _ hxm;have hfle:=sB (g:=lW p.dims) hkl;have hft:=cW (g:=lW p.dims) hkl;rw[<-hx] at hfle hft;obtain⟨LO,hLO⟩ :∃y,y=(if lo = [] then ([]:e8) else [32,102,114,111,109,32]++lo):=⟨_,rfl⟩
  obtain⟨HI,hHI⟩ :∃y,y=(if hi = [] then ([]:e8) else [32,116,111,32]++hi):=⟨_,rfl⟩
  have hrt:lW p.dims (nm,x,lo,hi) = [114,101,113,117,105,114,101,32]++(P1 nm++([58,32]++(E7 (D6 p.dims) 8 x++(LO++(HI++[59,10]))))):=by rw[hLO,hHI];rfl
  have hxl:(lW p.dims (nm,x,lo,hi)).length=8+((P1 nm).length+(2+((E7 (D6 p.dims) 8 x).length+(LO.length+(HI.length+2))))):=by rw[hrt];simp only[d6,d7,d9]
  have hex:XY p.dims.length 8 x:=xC 8 0 _ gx.g;refine I1 cQ (e:=74) rfl h5 k rfl hkl λb9 o9 cs hcs hR hcell=>?_;rw[<-hx] at hR;obtain⟨xs,rfl,hxs⟩:=hR;dsimp only at hxs hcell;match d,hxs with
  | d+1,hxs=>
  obtain⟨op,f,fac,args⟩:=x;have hxs':=hxs;obtain⟨ax,nx,cx,ay,ny,cy,rfl,hf,ha⟩:=hxs;refine T7 cQ (i:=0) rfl hcell rfl ?_;intro b20;refine o7 λq' hq'=>?_;apply hq';refine o7 λq' hq'=>?_;refine k7 _ (λw' hm=>Z0 nm (by have:=(aY gx.nm).2.1;dsimp only at this;omega) w') ?_;intro b175;refine aL (i:=1) (j:=4) dc rfl hI (L:=[[114,101,113,117,105,114,101,32],P1 nm,[58,32]]) rfl rfl sQ (by simp only[w5,y6,d6,d7,d9];omega) λv h hI=>?_;apply hq';refine o7 λq' hq'=>?_;refine Ic (i:=1) (c:=0) (D:=p.dims) (d:=8) (e:=d+1) rfl hI rfl dc hxs' h3 hex hsx.ex hdn (by simp only[w5,y6,d6,d7,d9];omega) λv h hI=>?_;apply hq';obtain⟨T2,hT2⟩ :∃T2,T2=B4++(p.reqs.take k).flatMap (lW p.dims)++([[114,101,113,117,105,114,101,32],P1 nm,[58,32]]:List e8).flatten++E7 (D6 p.dims) 8 (.mk op f fac args):=⟨_,rfl⟩
  rw[<-hT2] at hI;have hT2l:T2.length=B4.length+((p.reqs.take k).flatMap (lW p.dims)).length+(8+((P1 nm).length+2))+(E7 (D6 p.dims) 8 (.mk op f fac args)).length:=by rw[hT2];simp only[w5,y6,d6,d7,d9]
  refine cG (b:=[]) ?_;refine s8 (λg4=>?_) λg4=>?_
  ·have g4 : ¬ lo = []:=EP g4;have hLl:LO.length=6+lo.length:=by rw[hLO,if_neg g4];simp only[d6,d7,d9]
   refine o7 λq' hq'=>?_;intro b187;refine aL (i:=1) (j:=5) dc rfl hI (L:=[[32,102,114,111,109,32],lo]) rfl rfl sQ (by simp only[w5,y6,d6,d7,d9];omega) λv h hI=>?_;apply hq';refine cG (b:=[]) ?_;refine s8 (λg5=>?_) λg5=>?_
   ·have g5 : ¬ hi = []:=EP g5;have hHl:HI.length=4+hi.length:=by rw[hHI,if_neg g5];simp only[d6,d7,d9]
    refine o7 λq' hq'=>?_;intro b195;refine aL (i:=1) (j:=6) dc rfl hI (L:=[[32,116,111,32],hi]) rfl rfl sQ (by simp only[w5,y6,d6,d7,d9];omega) λv h hI=>?_;apply hq';refine o7 λq' hq'=>?_;intro b198;refine aL (i:=1) (j:=7) dc rfl hI (L:=[[59,10]]) rfl rfl sQ (by simp only[w5,y6,d6,d7,d9];omega) λv h hI=>?_;apply hq';refine nwo ?_;refine⟨(k+1,h),⟨by dsimp only;omega,?_⟩,by dsimp only;omega,v6.mk (pj [0,1,2]) rfl rfl⟩;dsimp only;have e:B4++(p.reqs.take (k+1)).flatMap (lW p.dims)=T2++([[32,102,114,111,109,32],lo]:List e8).flatten++([[32,116,111,32],hi]:List e8).flatten++([[59,10]]:List e8).flatten:=by rw[hft,hrt,hT2,hLO,hHI,if_neg g4,if_neg g5];simp
    rw[e];exact hI
   ·have g5:hi = []:=EX g5;have hHl:HI.length=0:=by rw[hHI,if_pos g5];rfl
    refine o7 λq' hq'=>?_;intro b198;refine aL (i:=1) (j:=6) dc rfl hI (L:=[[59,10]]) rfl rfl sQ (by simp only[w5,y6,d6,d7,d9];omega) λv h hI=>?_;apply hq';refine nwo ?_;refine⟨(k+1,h),⟨by dsimp only;omega,?_⟩,by dsimp only;omega,v6.mk (pj [0,1,2]) rfl rfl⟩;dsimp only;have e:B4++(p.reqs.take (k+1)).flatMap (lW p.dims)=T2++([[32,102,114,111,109,32],lo]:List e8).flatten++([[59,10]]:List e8).flatten:=by rw[hft,hrt,hT2,hLO,hHI,if_neg g4,if_pos g5];simp
    rw[e];exact hI
  ·have g4:lo = []:=EX g4;have hLl:LO.length=0:=by rw[hLO,if_pos g4];rfl
   refine cG (b:=[]) ?_;refine s8 (λg5=>?_) λg5=>?_
   ·have g5 : ¬ hi = []:=EP g5;have hHl:HI.length=4+hi.length:=by rw[hHI,if_neg g5];simp only[d6,d7,d9]
    refine o7 λq' hq'=>?_;intro b195;refine aL (i:=1) (j:=5) dc rfl hI (L:=[[32,116,111,32],hi]) rfl rfl sQ (by simp only[w5,y6,d6,d7,d9];omega) λv h hI=>?_;apply hq';refine o7 λq' hq'=>?_;intro b198;refine aL (i:=1) (j:=6) dc rfl hI (L:=[[59,10]]) rfl rfl sQ (by simp only[w5,y6,d6,d7,d9];omega) λv h hI=>?_;apply hq';refine nwo ?_;refine⟨(k+1,h),⟨by dsimp only;omega,?_⟩,by dsimp only;omega,v6.mk (pj [0,1,2]) rfl rfl⟩;dsimp only;have e:B4++(p.reqs.take (k+1)).flatMap (lW p.dims)=T2++([[32,116,111,32],hi]:List e8).flatten++([[59,10]]:List e8).flatten:=by rw[hft,hrt,hT2,hLO,hHI,if_pos g4,if_neg g5];simp
    rw[e];exact hI
   ·have g5:hi = []:=EX g5;have hHl:HI.length=0:=by rw[hHI,if_pos g5];rfl
    refine o7 λq' hq'=>?_;intro b198;refine aL (i:=1) (j:=5) dc rfl hI (L:=[[59,10]]) rfl rfl sQ (by simp only[w5,y6,d6,d7,d9];omega) λv h hI=>?_;apply hq';refine nwo ?_;refine⟨(k+1,h),⟨by dsimp only;omega,?_⟩,by dsimp only;omega,v6.mk (pj [0,1,2]) rfl rfl⟩;dsimp only;have e:B4++(p.reqs.take (k+1)).flatMap (lW p.dims)=T2++([[59,10]]:List e8).flatten:=by rw[hft,hrt,hT2,hLO,hHI,if_pos g4,if_pos g5];simp
    rw[e];exact hI
 have hk2:k=p.reqs.length:=om
 subst hk2;rw[p9] at hI;clear g2 hk;obtain⟨B5,hB5⟩ :∃x,x=B4++p.reqs.flatMap (lW p.dims):=⟨_,rfl⟩
 rw[<-hB5] at hI;have lB5:B5.length=B4.length+(p.reqs.flatMap (lW p.dims)).length:=by rw[hB5,d6]
 have hB5:B5=QH p:=by rw[hB5,hB4,hB3,hB2,hB1,hpe];simp
 rw[hB5] at hI;refine l6 (i:=1) rfl (λw0 w1 hok=>vE w1 (hok.mem 1 _ rfl) hI (by rw[hpe,hhd];simp)) ?_;rintro _ h2 _ ⟨rfl,rfl,_⟩;refine⟨[],⟨?_,rfl⟩,pk [0]⟩;unfold xR;split <;> rfl
end Go.Proofs.YtpjhmeicbjkcdaaGreatDoor
namespace Go.Proofs.YtpjhmeicbjkcdaaGreatDoor
open Go
def Ht:e8:=[112,114,111,100,117,99,116,32,112,59,32,100,105,109,101,110,115,105,111,110,32,97,32,61,32,49,48,32,91,49,44,32,45,49,93,59]
def Gd:e8:=[112,114,111,100,117,99,116,10,34,112,34,59,32,35,32,97,32,112,114,111,100,117,99,116,10,100,105,109,101,110,115,105,111,110,32,49,97,32,61,32,49,32,91,48,44,32,48,93,59]
def Kf:Ex:=.mk 4 ([],[]) [] [.mk 0 ([48],[(0,[49])]) [] [],.mk 0 ([53],[]) [] []]
theorem Ew:((yN Ht).1.ln,(yN Ht).1.co,(yN Ht).1.e)=(1,36,8):=by decide +kernel
theorem Ev:(yN Gd).1.e=14:=by decide +kernel
theorem Eu:ZV ⟨[112],[],[],[],[],[]⟩=([112,114,111,100,117,99,116,32,112,59,10],0):=by decide +kernel
theorem Et:UN [([97],0,0,0)] Kf=([109,97,120,40,91,48,32,43,32,49,32,42,32,97,93,44,32,91,53,93,41],0):=by decide +kernel
end Go.Proofs.YtpjhmeicbjkcdaaGreatDoor
namespace Go.Proofs.YtpjhmeicbjkcdaaGreatDoor
open Go
theorem sF {d:Nat} {r:RS} {k:Nat} (h:(expS d r k).e=0):d≠0/\k < 64/\expS d r k=r/\r.e=0/\(uA (C7 r)=true\/aA r [91]=true):=by
 unfold expS at h ⊢;by_cases h1:uA (C7 r)=false/\aA r [91]=false
 ·rw[if_pos h1] at h;exact absurd h (bK r dc)
 ·rw[if_neg h1] at h ⊢;by_cases h2:d=0
  ·rw[if_pos h2] at h;exact absurd h (bK r dc)
  ·rw[if_neg h2] at h ⊢;unfold J2 at h ⊢;by_cases h3:64<=k
   ·rw[if_pos h3] at h;exact absurd h (bK r dc)
   ·rw[if_neg h3] at h ⊢;refine⟨h2,om,rfl,h,?_⟩;cases a:uA (C7 r) with
    | true=>exact .inl rfl
    | false=>
     cases b:aA r [91] with
     | true=>exact .inr rfl
     | false=>exact absurd ⟨a,b⟩ h1
theorem XP {g:RS->Nat->RS×Nat×Ex} (hg :∀r k,k<=64->k+1<=(g r k).2.1/\(g r k).2.1<=65/\((g r k).1.e=0->(g r k).2.1<=64)) :
  ∀f r k out,k<=65->(r.e=0->k<=64)->k<=(dR g f r k out).2.1/\(dR g f r k out).2.1<=65/\((dR g f r k out).1.e=0->(dR g f r k out).2.1<=64)
 | 0,_,k,_,h1,h2=>⟨k8 k,h1,h2⟩
 | f+1,r,k,out,h1,h2=>by
  unfold dR;split
  ·rename_i h
   obtain⟨a,b,c⟩:=hg (E5 r) k (h2 (S2 h).1);obtain⟨a',b',c'⟩:=XP hg f (g (E5 r) k).1 (g (E5 r) k).2.1 (out++[(g (E5 r) k).2.2]) b c;exact⟨om,b',c'⟩
  ·exact⟨k8 k,h1,h2⟩
theorem uG (names:List e8) :∀d r k,k<=64->k+1<=(R4 names d r k).2.1/\(R4 names d r k).2.1<=65/\((R4 names d r k).1.e=0->(R4 names d r k).2.1<=64)
 | 0,r,k,hk=>⟨k8 _,Nat.succ_le_succ hk,λh=>absurd rfl (sF h).1⟩
 | d+1,r,k,hk=>by
  unfold R4;by_cases h1:(expS (d+1) r k).e≠0
  ·rw[if_pos h1];exact⟨k8 _,Nat.succ_le_succ hk,λh=>absurd h h1⟩
  ·rw[if_neg h1];obtain⟨_,h64,_,_,_⟩:=sF (l9.1 h1);split
   ·exact⟨k8 _,by dsimp only;omega,λ_=>by dsimp only;omega⟩
   ·dsimp only;generalize (if (KW (C7 r).2.1).getD 0=2 then R6 (E5 r) else (E5 r,[]))=p;obtain⟨a1,a2,a3⟩:=uG names d (x8 p.1 [40]) (k+1) om;generalize R4 names d (x8 p.1 [40]) (k+1)=a at a1 a2 a3;split
    ·obtain⟨b1,b2,b3⟩:=XP (uG names d) (J5 a.1) a.1 a.2.1 [a.2.2] a2 a3;exact⟨om,b2,λh=>b3 ((A7.exp _ _).ok h)⟩
    ·exact⟨by dsimp only;omega,a2,λh=>a3 ((A7.exp _ _).ok h)⟩
theorem XQ (names:List e8) (d:Nat) {r:RS} (he:r.e=0->cP r.ts) (h:aA r [44]=true) (k:Nat):J5 (R4 names d (E5 r) k).1 < J5 r:=by
 obtain⟨h0,h5,_⟩:=S2 h;exact s7 (A7.expr names d _ _).rem (EO he h0 om)
theorem nN (names:List e8) (d:Nat) {r:RS} {k:Nat} (h:(expS d r k).e≠0):R4 names d r k=(expS d r k,k+1,Kp):=by
 cases d with
 | zero=>rfl
 | succ d=>unfold R4;rw[if_pos h]
theorem zR (names:List e8) (d:Nat) {r:RS} {k:Nat} (h:(expS (d+1) r k).e=0) (ho:uA (C7 r)=false):R4 names (d+1) r k=((sA names r).1,k+1,.mk 0 (sA names r).2 [] []):=by
 unfold R4;rw[if_neg (λc=>c h),if_pos ho]
end Go.Proofs.YtpjhmeicbjkcdaaGreatDoor
namespace Go.Proofs.YtpjhmeicbjkcdaaGreatDoor
open Go Go.RowKit Go.Dw
theorem HZ (t:e8):kL (bs t) (lE.map Hq)=(KW t).map λz=>Value.int .i64 z:=by
 have e :∀z:Int,(bs (jP z)=bs t)=(t=jP z):=λz=>propext (MJ.trans eq_comm);show kL (bs t) [(bs (jP 1),iQ 1),(bs (jP 2),iQ 2),(bs (jP 3),iQ 3),(bs (jP 4),iQ 4),(bs (jP 5),iQ 5)]=_
 simp only[kL,e];unfold KW;have o1:jP 1 = [97,100,100]:=dc
 have o2:jP 2 = [115,99,97,108,101]:=dc
 have o3:jP 3 = [109,105,110]:=dc
 have o4:jP 4 = [109,97,120]:=dc
 have o5:jP 5 = [97,98,115]:=dc
 rw[o1,o2,o3,o4,o5];split
 ·rfl
 ·split
  ·rfl
  ·split
   ·rfl
   ·split
    ·rfl
    ·split <;> rfl
theorem RM (t:e8):(kL (bs t) (lE.map Hq)).getD (iQ 0)=iQ ((KW t).getD 0):=by
 rw[HZ];cases KW t <;> rfl
theorem RL (t:e8):(kL (bs t) (lE.map Hq)).isSome=(KW t).isSome:=by
 rw[HZ];cases KW t <;> rfl
end Go.Proofs.YtpjhmeicbjkcdaaGreatDoor
namespace Go.Dw
open Go Go.RowKit
theorem Ct {X:R5} {s:List Ch} {α:Type} {R:uU α} (hX:X.Good) {T e ty:Nat} {te:TI} (hT:bM X T=some (e,te)) {H:Hp} {j b e':Nat} (x:α) (cs:List Value) (hj:m8 s j=some (.box b cs e')) (hf:cs.length=te.size) (h1:aB cs=true)
  (hby:R0 te.bytes 140=true) {q:TV->List Ch->Prop} (hx:FF s->R H x cs)
  (hq :∀o',FF s->aT R e te.size H o' [x]->q (.v o'.v) (s++[.hp o'.h])) :
  tH X.P s #[T,T] ty zl (.bs j 1) q:=by
 by_cases hs:FF s
 ·have hset :∀c:Ch,x9 (s++[.hp Hp.emp]) s.length c=s++[c]:=λc=>by rw[S9];simp
  obtain⟨yv,hy,h2⟩:=oL (R:=R) (s:=s++[.hp Hp.emp]) (ty:=ty) hX hT (i:=s.length) (o:=Os.nil) (eQ s _) (H:=H) (L:=[]) (λ_=>aT.nil) x cs (nB hj) hf h1 hby (by show 0 < 1000000000000;decide) (q:=q) (λ_=>hx hs) (λo' _ hg=>by rw[hset];exact hq o' hs hg);refine⟨yv,?_,h2.emp⟩;simp only[TV.val,nB hj] at hy;simp only[TV.val,hj];exact hy
 ·exact⟨.slice (some ⟨b,0,none⟩) 1 1,by simp[TV.val,hj],⟨λw0 w hok=>absurd ⟨w0,w,hok⟩ hs⟩⟩
end Go.Dw
namespace Go.Proofs.YtpjhmeicbjkcdaaGreatDoor
open Go Go.RowKit Go.Dw
abbrev J1 (b kk:Nat) (ad:Option Addr) (nd cd:Nat):List Value:=[pQ b,.slice ad nd cd,iQ kk]
abbrev KJ (rb b kk:Nat) (ad:Option Addr) (nd cd:Nat):Ch:=.box rb (J1 b kk ad nd cd) 155
def Lw (D:List S1) (d:Nat):Prop:=∀(k h:Hp) (rb b:Nat) (r:RS) (kk:Nat) (ad:Option Addr) (nd cd:Nat) (lv:Int) (w:World),lv=9 - d->((KJ rb b kk ad nd cd).h.join h).In w->(KJ rb b kk ad nd cd).h.dj h->k.le ((Hp.whole w).minus ((KJ rb b kk ad nd cd).h.join h))->G9 k h b r->Sl (B0 O1) 4 ((Hp.whole w).minus ((KJ rb b kk ad nd cd).h.join h)) ad nd cd D->kk<=64->
 j6 Tryz.prog 174 #[pQ rb,iQ lv] w (O6 w ((KJ rb b kk ad nd cd).h.join h) λv h' cs=>∃ys H,cs = [.box rb ys 155,.hp H]/\((∃xs,v=.agg xs.toArray/\xs.length=5/\P5 (d+1) H (R4 (D.map λx:S1=>x.1) d r kk).2.2 xs)/\ys=J1 b (R4 (D.map λx:S1=>x.1) d r kk).2.1 ad nd cd/\G9 k h' b (R4 (D.map λx:S1=>x.1) d r kk).1))
set_option maxHeartbeats 4000000 in
set_option maxRecDepth 10000 in
theorem vV {D:List S1} (hDn:D.length < 1000000) (d:Nat) (hd9:d<=9) (ih :∀d',d=d'+1->Lw D d'):Lw D d:=by
 intro k h rb b r kk ad nd cd lv w hlv hin hdj hk hR hD hkk;have ok0:=Ok.startB hin hdj;refine enterMSZ (cx 126) [pQ rb,iQ lv] ok0 [.cell 4 44] Tryz.func174 ?_;obtain⟨c0,hc0⟩ :∃c0,c0=(Hp.whole w).minus ((KJ rb b kk ad nd cd).h.join h):=⟨_,rfl⟩
 rw[<-hc0] at hk hD ⊢;obtain⟨names,hnames⟩ :∃l,l=D.map λx:S1=>x.1:=⟨_,rfl⟩
 rw[<-hnames];intro b4;refine o7 λq' hq'=>?_;apply hq';refine nQ [.hp c0,.hp h,KJ rb b kk ad nd cd,.box b4 [iQ 0,zs,zl,zs,zl] 44] λq' hq'=>?_;refine lR 2 0 ?_;refine k7 _ (λw' hm=>S7 w' (hm 1 _ rfl) (hk.trans (hm 0 _ rfl).whole) hR) ?_;obtain⟨⟨K,T,ln,co⟩,hP⟩ :∃p,p=C7 r:=⟨_,rfl⟩
 rw[<-hP];intro b5;apply hq';refine s6.cut Unit (λ_=>[(0,.v (pQ rb)),(1,.v (iQ lv)),(4,.bx 3 0),(5,.bx 4 0),(6,.v (iQ ((KW T).getD 0))),(7,.v (.bool (KW T).isSome))]) (λ_=>[.hp c0,.hp h,KJ rb b kk ad nd cd,.box b4 [iQ 0,zs,zl,zs,zl] 44,.box b5 [iQ K,sv T,iQ ln,iQ co] 211]) (λ_=>True) (s6.by_order0 cQ (.take 1 <| .take 2 <| .run 0 <| .run 3 <| .take 4 <| .take 5 <| .take 6 <| .take 7 <| .take 8 <| .done) kr (eM _) ?_) ?_
 ·refine call (λw' hm=>xJ w') ?_;rintro _ _ ⟨bw,hw,rfl,rfl,hM⟩;refine⟨sK,?_⟩;refine Es (i:=5) Tryz.underlying203 Tryz.underlying9 (z:=iQ 0) (λw=>by rfl) rfl hM (bs T) ?_;rw[RM,RL];first | exact⟨sK,(),trivial,v6.mk (pj [0,1,2,3,4]) rfl rfl⟩ | exact⟨(),trivial,v6.mk (pj [0,1,2,3,4]) rfl rfl⟩
 intro _ _ _;dsimp only;refine nQ [.hp c0,.hp h,.box rb (J1 b (kk) ad nd cd) 155,.box b4 [iQ 0,zs,zl,zs,zl] 44,.box b5 [iQ K,sv T,iQ ln,iQ co] 211] λq' hq'=>?_;refine s8 (λs1=>?_) λs1=>?_;focus
  apply hq';refine o7 λq' hq'=>?_;refine s8 (λk1=>?_) λk1=>?_;focus
   have no:uA (C7 r)=false:=by rw[<-hP];unfold uA;rw[s1,F6];exact (by simpa using k1:decide (K=1)=false)
   refine lR 2 0 ?_;refine k7 _ (λw' hm=>S0 w' (hm 1 _ rfl) (hk.trans (hm 0 _ rfl).whole) hR) ?_;apply hq';refine s8 (λq1=>?_) λq1=>?_;focus
    skip
   rotate_left
   ·have q1:aA r [91]=true:=by simpa using q1
    refine nQ [.hp c0,.hp h,.box rb (J1 b (kk) ad nd cd) 155,.box b4 [iQ 0,zs,zl,zs,zl] 44,.box b5 [iQ K,sv T,iQ ln,iQ co] 211] λq' hq'=>?_;apply hq';refine d8 (λv1=>?_) λv1=>?_;focus
     refine nQ [.hp c0,.hp h,.box rb (J1 b (kk) ad nd cd) 155,.box b4 [iQ 0,zs,zl,zs,zl] 44,.box b5 [iQ K,sv T,iQ ln,iQ co] 211] λq' hq'=>?_;refine lR 2 0 ?_;refine l6 (i:=1) rfl (λw0 w' hok=>G8 w' (hok.mem 1 _ rfl) (hok.kle rfl rfl hk) hR) ?_;rintro _ h11 _ ⟨rfl,hR11⟩;have hR11:G9 k h11 b (y7 r 15):=hR11;have eS:expS d r kk=y7 r 15:=by unfold expS;rw[if_neg (λc=>by rw[q1] at c;cases c.2),if_pos om]
     apply hq';refine nQ [.hp c0,.hp h11,.box rb (J1 b (kk) ad nd cd) 155,.box b4 [iQ 0,zs,zl,zs,zl] 44,.box b5 [iQ K,sv T,iQ ln,iQ co] 211] λq' hq'=>?_;refine lR 2 2 ?_;refine nwo ?_;refine fI cQ (i:=2) (j:=2) rfl rfl rfl (by show 2 < 3;decide) rfl rfl ?_;apply hq';refine nQ [.hp c0,.hp h11,.box rb (J1 b (kk+1) ad nd cd) 155,.box b4 [iQ 0,zs,zl,zs,zl] 44,.box b5 [iQ K,sv T,iQ ln,iQ co] 211] λq' hq'=>?_;refine k7 _ (λw' hm=>T9 w' (hm 1 _ rfl) hR11 ((hm 2 _ rfl).whole.cell (J3 rb (cs:=J1 b (kk+1) ad nd cd) _ rfl))) ?_;apply hq';refine d8 (λf1=>?_) λf1=>?_;focus
      skip
     rotate_left
     ·exact absurd (bK r dc) f1
    rotate_left
    focus
     refine nQ [.hp c0,.hp h,.box rb (J1 b (kk) ad nd cd) 155,.box b4 [iQ 0,zs,zl,zs,zl] 44,.box b5 [iQ K,sv T,iQ ln,iQ co] 211] λq' hq'=>?_;refine lR 2 2 ?_;refine l6 (i:=1) rfl (λw0 w' hok=>N9 (n:=kk) (m:=64) rfl rfl w' (hok.mem 1 _ rfl) (DR.mk (hk.trans (hok.le01 rfl rfl)) hR (hok.bx1 (j:=2) (n:=0) rfl rfl dc rfl))) ?_;rintro _ h11 _ ⟨rfl,hR11⟩;have hR11:G9 k h11 b (J2 r kk 64):=hR11;have eS:expS d r kk=J2 r kk 64:=by unfold expS;rw[if_neg (λc=>by rw[q1] at c;cases c.2),if_neg om]
     apply hq';refine nQ [.hp c0,.hp h11,.box rb (J1 b (kk) ad nd cd) 155,.box b4 [iQ 0,zs,zl,zs,zl] 44,.box b5 [iQ K,sv T,iQ ln,iQ co] 211] λq' hq'=>?_;refine lR 2 2 ?_;refine nwo ?_;refine fI cQ (i:=2) (j:=2) rfl rfl rfl (by show 2 < 3;decide) rfl rfl ?_;apply hq';refine nQ [.hp c0,.hp h11,.box rb (J1 b (kk+1) ad nd cd) 155,.box b4 [iQ 0,zs,zl,zs,zl] 44,.box b5 [iQ K,sv T,iQ ln,iQ co] 211] λq' hq'=>?_;refine k7 _ (λw' hm=>T9 w' (hm 1 _ rfl) hR11 ((hm 2 _ rfl).whole.cell (J3 rb (cs:=J1 b (kk+1) ad nd cd) _ rfl))) ?_;apply hq';refine d8 (λf1=>?_) λf1=>?_;focus
      skip
     rotate_left
     ·have h0:(expS d r kk).e=0:=by rw[eS];exact l9.1 f1
      obtain⟨hd0,hk64,eR,h00,_⟩:=sF h0;obtain⟨d',rfl⟩ :∃d',d=d'+1:=⟨d - 1,om⟩
      have eL:J2 r kk 64=r:=by rw[<-eS];exact eR
      rw[eL] at hR11;refine nQ [.hp c0,.hp h11,.box rb (J1 b (kk+1) ad nd cd) 155,.box b4 [iQ 0,zs,zl,zs,zl] 44,.box b5 [iQ K,sv T,iQ ln,iQ co] 211] λq' hq'=>?_;apply hq';refine s8 (λt1=>?_) λt1=>?_
      ·refine nQ [.hp c0,.hp h11,.box rb (J1 b (kk+1) ad nd cd) 155,.box b4 [iQ 0,zs,zl,zs,zl] 44,.box b5 [iQ K,sv T,iQ ln,iQ co] 211] λq' hq'=>?_;refine l6 (i:=1) rfl (λw0 w' hok=>mL w' (hok.mem 1 _ rfl) (DR.mk (hk.trans (hok.le01 rfl rfl)) hR11 (hok.bx1 (j:=2) (n:=0) rfl rfl dc rfl)) (hok.bx1 (j:=2) (n:=1) rfl rfl dc rfl) (hD.mono (j7 _) (hok.le01 rfl rfl)) hDn) ?_;rintro _ hF _ ⟨o,rfl,rfl,hO,hRF⟩;rw[<-hnames] at hO hRF ⊢;apply hq';rw[zR names d' h0 no];exact⟨hF,[.box rb (J1 b (kk+1) ad nd cd) 155,.hp o.h],⟨_,_,rfl,⟨_,rfl,rfl,⟨o.a,o.n,o.c,none,0,0,rfl,w8.sl (f:=U0) (sz:=2) (λ_=>rfl) dc hO,Sl.nil _ _ _ _ _⟩⟩,rfl,hRF⟩,pk [0,1,2,5]⟩
      ·exact absurd no (by rw[<-hP];unfold uA;rw[s1];simpa using t1)
    all_goals
     rw[nN names d (r:=r) (k:=kk) (by rw[eS];exact f1),eS];exact⟨h11,[.box rb (J1 b (kk+1) ad nd cd) 155,.hp Hp.emp],⟨_,_,rfl,⟨_,rfl,rfl,⟨none,0,0,none,0,0,rfl,Sl.nil _ _ _ _ _,Sl.nil _ _ _ _ _⟩⟩,rfl,hR11⟩,λw' h=>(h.pick [0,1,2] rfl rfl).emp⟩
  rotate_left
  ·apply hq';refine dQ rfl ?_;have k1:K=1:=by simpa using k1
   have yo:uA (C7 r)=true:=by rw[<-hP];unfold uA;rw[s1,F6];exact decide_eq_true k1
   refine nQ [.hp c0,.hp h,.box rb (J1 b (kk) ad nd cd) 155,.box b4 [iQ 0,zs,zl,zs,zl] 44,.box b5 [iQ K,sv T,iQ ln,iQ co] 211] λq' hq'=>?_;apply hq';refine d8 (λv1=>?_) λv1=>?_;focus
    refine nQ [.hp c0,.hp h,.box rb (J1 b (kk) ad nd cd) 155,.box b4 [iQ 0,zs,zl,zs,zl] 44,.box b5 [iQ K,sv T,iQ ln,iQ co] 211] λq' hq'=>?_;refine lR 2 0 ?_;refine l6 (i:=1) rfl (λw0 w' hok=>G8 w' (hok.mem 1 _ rfl) (hok.kle rfl rfl hk) hR) ?_;rintro _ h11 _ ⟨rfl,hR11⟩;have hR11:G9 k h11 b (y7 r 15):=hR11;have eS:expS d r kk=y7 r 15:=by unfold expS;rw[if_neg (λc=>by rw[yo] at c;cases c.1),if_pos om]
    apply hq';refine nQ [.hp c0,.hp h11,.box rb (J1 b (kk) ad nd cd) 155,.box b4 [iQ 0,zs,zl,zs,zl] 44,.box b5 [iQ K,sv T,iQ ln,iQ co] 211] λq' hq'=>?_;refine lR 2 2 ?_;refine nwo ?_;refine fI cQ (i:=2) (j:=2) rfl rfl rfl (by show 2 < 3;decide) rfl rfl ?_;apply hq';refine nQ [.hp c0,.hp h11,.box rb (J1 b (kk+1) ad nd cd) 155,.box b4 [iQ 0,zs,zl,zs,zl] 44,.box b5 [iQ K,sv T,iQ ln,iQ co] 211] λq' hq'=>?_;refine k7 _ (λw' hm=>T9 w' (hm 1 _ rfl) hR11 ((hm 2 _ rfl).whole.cell (J3 rb (cs:=J1 b (kk+1) ad nd cd) _ rfl))) ?_;apply hq';refine d8 (λf1=>?_) λf1=>?_;focus
     skip
    rotate_left
    ·exact absurd (bK r dc) f1
   rotate_left
   focus
    refine nQ [.hp c0,.hp h,.box rb (J1 b (kk) ad nd cd) 155,.box b4 [iQ 0,zs,zl,zs,zl] 44,.box b5 [iQ K,sv T,iQ ln,iQ co] 211] λq' hq'=>?_;refine lR 2 2 ?_;refine l6 (i:=1) rfl (λw0 w' hok=>N9 (n:=kk) (m:=64) rfl rfl w' (hok.mem 1 _ rfl) (DR.mk (hk.trans (hok.le01 rfl rfl)) hR (hok.bx1 (j:=2) (n:=0) rfl rfl dc rfl))) ?_;rintro _ h11 _ ⟨rfl,hR11⟩;have hR11:G9 k h11 b (J2 r kk 64):=hR11;have eS:expS d r kk=J2 r kk 64:=by unfold expS;rw[if_neg (λc=>by rw[yo] at c;cases c.1),if_neg om]
    apply hq';refine nQ [.hp c0,.hp h11,.box rb (J1 b (kk) ad nd cd) 155,.box b4 [iQ 0,zs,zl,zs,zl] 44,.box b5 [iQ K,sv T,iQ ln,iQ co] 211] λq' hq'=>?_;refine lR 2 2 ?_;refine nwo ?_;refine fI cQ (i:=2) (j:=2) rfl rfl rfl (by show 2 < 3;decide) rfl rfl ?_;apply hq';refine nQ [.hp c0,.hp h11,.box rb (J1 b (kk+1) ad nd cd) 155,.box b4 [iQ 0,zs,zl,zs,zl] 44,.box b5 [iQ K,sv T,iQ ln,iQ co] 211] λq' hq'=>?_;refine k7 _ (λw' hm=>T9 w' (hm 1 _ rfl) hR11 ((hm 2 _ rfl).whole.cell (J3 rb (cs:=J1 b (kk+1) ad nd cd) _ rfl))) ?_;apply hq';refine d8 (λf1=>?_) λf1=>?_;focus
     skip
    rotate_left
    ·have h0:(expS d r kk).e=0:=by rw[eS];exact l9.1 f1
     obtain⟨hd0,hk64,eR,h00,_⟩:=sF h0;obtain⟨d',rfl⟩ :∃d',d=d'+1:=⟨d - 1,om⟩
     have eL:J2 r kk 64=r:=by rw[<-eS];exact eR
     rw[eL] at hR11;obtain⟨op,hop⟩ :∃x,x=(KW T).getD 0:=⟨_,rfl⟩
     rw[<-hop];refine nQ [.hp c0,.hp h11,.box rb (J1 b (kk+1) ad nd cd) 155,.box b4 [iQ 0,zs,zl,zs,zl] 44,.box b5 [iQ K,sv T,iQ ln,iQ co] 211] λq' hq'=>?_;apply hq';refine s8 (λt1=>?_) λt1=>?_
     ·exact absurd k1 (by simpa using t1)
     ·refine nQ [.hp c0,.hp h11,.box rb (J1 b (kk+1) ad nd cd) 155,.box b4 [iQ 0,zs,zl,zs,zl] 44,.box b5 [iQ K,sv T,iQ ln,iQ co] 211] λq' hq'=>?_;refine lR 2 0 ?_;refine l6 (i:=1) rfl (λw0 w' hok=>cO w' (hok.mem 1 _ rfl) (hok.kle rfl rfl hk) hR11) ?_;rintro _ h12 _ ⟨rfl,rfl,hR12⟩;have hR12:G9 k h12 b (E5 r):=hR12;apply hq';refine nQ [.hp c0,.hp h12,.box rb (J1 b (kk+1) ad nd cd) 155,.box b4 [iQ 0,zs,zl,zs,zl] 44,.box b5 [iQ K,sv T,iQ ln,iQ co] 211] λq' hq'=>?_;intro b8;apply hq';refine nQ [.hp c0,.hp h12,.box rb (J1 b (kk+1) ad nd cd) 155,.box b4 [iQ 0,zs,zl,zs,zl] 44,.box b5 [iQ K,sv T,iQ ln,iQ co] 211,.box b8 [iQ op,zs,zl,zs,zl] 44] λq' hq'=>?_;apply hq';obtain⟨p,hp⟩ :∃x,x=(if op=2 then R6 (E5 r) else (E5 r,[])):=⟨_,rfl⟩
      have hp0:=hp;refine d8 (λo2=>?_) λo2=>?_
      ·refine nQ [.hp c0,.hp h12,.box rb (J1 b (kk+1) ad nd cd) 155,.box b4 [iQ 0,zs,zl,zs,zl] 44,.box b5 [iQ K,sv T,iQ ln,iQ co] 211,.box b8 [iQ op,zs,zl,zs,zl] 44] λq' hq'=>?_;refine l6 (i:=1) rfl (λw0 w' hok=>W5 w' (hok.mem 1 _ rfl) (DR.mk (hk.trans (hok.le01 rfl rfl)) hR12 (hok.bx1 (j:=2) (n:=0) rfl rfl dc rfl))) ?_;rintro _ h13 _ ⟨rfl,rfl,hR13⟩;have hR13:G9 k h13 b ((R6 (E5 r)).1):=hR13;rw[if_pos o2] at hp;rw[<-hp] at hR13 ⊢;apply hq';refine nQ [.hp c0,.hp h13,.box rb (J1 b (kk+1) ad nd cd) 155,.box b4 [iQ 0,zs,zl,zs,zl] 44,.box b5 [iQ K,sv T,iQ ln,iQ co] 211,.box b8 [iQ op,zs,zl,sv p.2,zl] 44] λq' hq'=>?_;refine lR 2 0 ?_;refine l6 (i:=1) rfl (λw0 w' hok=>m6 w' (hok.mem 1 _ rfl) (hok.kle rfl rfl hk) hR13) ?_;rintro _ h14 _ ⟨rfl,hR14⟩;have hR14:G9 k h14 b (x8 p.1 [40]):=hR14;apply hq';obtain⟨A,hA⟩ :∃x,x=R4 names d' (x8 p.1 [40]) (kk+1):=⟨_,rfl⟩
       refine s6.cut (Hp×Hp×Dw.Os) (λ_=>[(0,.v (pQ rb)),(1,.v (iQ lv)),(4,.bx 3 0),(6,.v (iQ op)),(8,.bx 5 0)]) (λg=>[.hp c0,.hp g.1,.box rb (J1 b A.2.1 ad nd cd) 155,.box b4 [iQ 0,zs,zl,zs,zl] 44,.box b5 [iQ K,sv T,iQ ln,iQ co] 211,.box b8 [iQ op,zs,zl,sv p.2,g.2.2.v] 44,.hp g.2.1,.hp g.2.2.h]) (λg=>G9 k g.1 b A.1/\aT (P5 (d'+1)) 44 5 g.2.1 g.2.2 [A.2.2]) (s6.by_order0 (s0:=[.hp c0,.hp Hp.emp,.hp Hp.emp,.box b4 [iQ 0,zs,zl,zs,zl] 44,.box b5 [iQ K,sv T,iQ ln,iQ co] 211,.box b8 [iQ op,zs,zl,sv p.2,zl] 44]) cQ (.take 0 <| .take 1 <| .take 2 <| .take 3 <| .take 4 <| .run 5 <| .run 6 <| .run 7 <| .run 8 <| .run 9 <| .done) kr (sK) ?_) ?_
       ·refine nwo ?_;refine nR (i:=2) (j:=1) dc rfl rfl (λw0 w' hok=>ih d' rfl k h14 rb b (x8 p.1 [40]) (kk+1) ad nd cd (lv+1) w' om (hok.inJ (i:=2) (j:=1) (c:=.box rb (J1 b (kk+1) ad nd cd) 155) (d:=.hp h14) rfl rfl) (hok.disj 2 1 _ _ dc rfl rfl) (hk.trans (hok.le2 (i:=2) (j:=1) (m:=0) dc dc rfl rfl rfl)) hR14 (hD.mono (j7 _) (hok.le2 (i:=2) (j:=1) (m:=0) dc dc rfl rfl rfl)) om) ?_;rintro _ _ h9 H9 ⟨⟨xs,rfl,hx5,hE⟩,rfl,hR9⟩;rw[<-hnames,<-hA] at hE hR9 ⊢;have hE2:=hE;obtain⟨X,hX⟩ :∃X,X=A.2.2:=⟨_,rfl⟩
        rw[<-hX] at hE2;obtain⟨op9,f9,fac9,args9⟩:=X;obtain⟨a9,n9,c9,a8,n8,c8,rfl,_,_⟩:=hE2;refine⟨sK,?_⟩;intro b9;refine⟨sK,?_⟩;refine Ct (R:=P5 (d'+1)) (H:=H9) cQ (e:=44) rfl A.2.2 [iQ op9,sv f9.1,.slice a9 n9 c9,sv fac9,.slice a8 n8 c8] (j:=7) rfl rfl rfl rfl (λ_=>hE) λo9 _ hG9=>?_;refine⟨sK,?_⟩;exact⟨(h9,H9,o9),⟨hR9,hG9⟩,v6.mk (pj [0,1,2,3,4,5,6,8]) rfl rfl⟩
       rintro⟨h9,H9,o9⟩ ⟨hR9,hG9⟩ _;dsimp only at hR9 hG9 ⊢;obtain⟨tot,htot⟩ :∃x,x=(if op≠2/\op≠5 then dR (R4 names d') (J5 A.1) A.1 A.2.1 [A.2.2] else (A.1,A.2.1,[A.2.2])):=⟨_,rfl⟩
       have hAk:=uG names d' (x8 p.1 [40]) (kk+1) om;rw[<-hA] at hAk;refine u6.mkS (RS×Nat×List Ex×Hp×Hp×Dw.Os) (λ_=>[(0,.v (pQ rb)),(1,.v (iQ lv)),(4,.bx 3 0),(6,.v (iQ op)),(8,.bx 5 0)]) (λg=>[.hp c0,.hp g.2.2.2.1,.box rb (J1 b g.2.1 ad nd cd) 155,.box b4 [iQ 0,zs,zl,zs,zl] 44,.box b5 [iQ K,sv T,iQ ln,iQ co] 211,.box b8 [iQ op,zs,zl,sv p.2,g.2.2.2.2.2.v] 44,.hp g.2.2.2.2.1,.hp g.2.2.2.2.2.h])
        (λg=>G9 k g.2.2.2.1 b g.1/\aT (P5 (d'+1)) 44 5 g.2.2.2.2.1 g.2.2.2.2.2 g.2.2.1/\(∃f,J5 g.1<=f/\(if op≠2/\op≠5 then dR (R4 names d') f g.1 g.2.1 g.2.2.1 else (g.1,g.2.1,g.2.2.1))=tot)/\g.2.1<=65/\(g.1.e=0->g.2.1<=64)/\g.2.2.1.length<=g.2.1) (λg=>J5 g.1) (A.1,A.2.1,[A.2.2],h9,H9,o9)
        ⟨hR9,hG9,⟨J5 A.1,k8 _,htot.symm⟩,hAk.2.1,hAk.2.2,by have:=hAk.1;simp only[d7,d9];omega⟩ (v6.mk (λ_ _ h=>h) rfl rfl) ?_
       rintro⟨rr,ka,out,hh,H,o⟩ ⟨hRr,hG,⟨f,hf,htr⟩,hka,hke,hlo⟩ hsat;have hHo:H.dj o.h:=by obtain⟨w0,w1,hok⟩:=hsat;exact hok.disj 6 7 _ _ dc rfl rfl
       dsimp only at hRr hG hf htr hka hke hlo ⊢;have hRend:rr.e=0->cP rr.ts:=by obtain⟨_,_,_,_,_,hE,_⟩:=hRr;exact hE
       have hpk:(KW (C7 r).2.1).getD 0=op:=by rw[<-hP,hop]
       have fin_:tot=(rr,ka,out)->R4 names (d'+1) r kk=(x8 rr [41],ka,.mk op ([],[]) p.2 out):=λeT=>by
        unfold R4;rw[if_neg (λc=>c h0),if_neg (by rw[yo];decide)];dsimp only;rw[hpk,<-hp0,<-hA,<-htot,eT]
       refine nQ [.hp c0,.hp hh,.box rb (J1 b (ka) ad nd cd) 155,.box b4 [iQ 0,zs,zl,zs,zl] 44,.box b5 [iQ K,sv T,iQ ln,iQ co] 211,.box b8 [iQ op,zs,zl,sv p.2,o.v] 44,.hp H,.hp o.h] λq' hq'=>?_;refine d8 (λq2=>?_) λq2=>?_
       ·refine d8 (λq5=>?_) λq5=>?_;focus
         refine lR 2 0 ?_;refine l6 (i:=1) rfl (λw0 w' hok=>cN (s:=[44]) w' (hok.mem 1 _ rfl) (hok.kle rfl rfl hk) hRr) ?_;rintro _ h20 _ ⟨rfl,rfl,hR20⟩;apply hq';refine s8 (λg1=>?_) λg1=>?_
         ·have hR20:G9 k h20 b (E5 rr):=by unfold U5 at hR20;rw[if_pos g1] at hR20;exact hR20
          obtain⟨A2,hA2⟩ :∃x,x=R4 names d' (E5 rr) ka:=⟨_,rfl⟩
          have hk2:=uG names d' (E5 rr) ka (hke (S2 g1).1);have hlt:=XQ names d' hRend g1 ka;have hka2:ka<=64:=hke (S2 g1).1;rw[<-hA2] at hk2 hlt;refine s6.cut (Hp×Hp×Dw.Os) (λ_=>[(0,.v (pQ rb)),(1,.v (iQ lv)),(4,.bx 3 0),(6,.v (iQ op)),(8,.bx 5 0)]) (λg=>[.hp c0,.hp g.1,.box rb (J1 b A2.2.1 ad nd cd) 155,.box b4 [iQ 0,zs,zl,zs,zl] 44,.box b5 [iQ K,sv T,iQ ln,iQ co] 211,.box b8 [iQ op,zs,zl,sv p.2,g.2.2.v] 44,.hp g.2.1,.hp g.2.2.h]) (λg=>G9 k g.1 b A2.1/\aT (P5 (d'+1)) 44 5 g.2.1 g.2.2 (out++[A2.2.2])) (s6.by_order0 (s0:=[.hp c0,.hp Hp.emp,.hp Hp.emp,.box b4 [iQ 0,zs,zl,zs,zl] 44,.box b5 [iQ K,sv T,iQ ln,iQ co] 211,.box b8 [iQ op,zs,zl,sv p.2,o.v] 44,.hp H,.hp Hp.emp]) cQ (.take 0 <| .take 1 <| .take 2 <| .take 3 <| .take 4 <| .run 5 <| .run 6 <| .run 7 <| .run 8 <| .run 9 <| .done) kr (sK) ?_) ?_
          ·refine nwo ?_;refine nR (i:=2) (j:=1) dc rfl rfl (λw0 w' hok=>ih d' rfl k h20 rb b (E5 rr) ka ad nd cd (lv+1) w' om (hok.inJ (i:=2) (j:=1) (c:=.box rb (J1 b ka ad nd cd) 155) (d:=.hp h20) rfl rfl) (hok.disj 2 1 _ _ dc rfl rfl) (hk.trans (hok.le2 (i:=2) (j:=1) (m:=0) dc dc rfl rfl rfl)) hR20 (hD.mono (j7 _) (hok.le2 (i:=2) (j:=1) (m:=0) dc dc rfl rfl rfl)) hka2) ?_;rintro _ _ h22 H22 ⟨⟨xs,rfl,hx5,hE⟩,rfl,hR22⟩;rw[<-hnames,<-hA2] at hE hR22 ⊢;have hE2:=hE;obtain⟨X,hX⟩ :∃X,X=A2.2.2:=⟨_,rfl⟩
           rw[<-hX] at hE2;obtain⟨op9,f9,fac9,args9⟩:=X;obtain⟨a9,n9,c9,a8,n8,c8,rfl,_,_⟩:=hE2;refine⟨sK,?_⟩;intro b9;refine⟨sK,?_⟩;refine oL (R:=P5 (d'+1)) (o:=o) (L:=out) (H:=H.join H22) cQ (e:=44) rfl (i:=7) rfl (λ_=>hG.mono (q7 _) (Hp.le_join_l _ _)) A2.2.2 [iQ op9,sv f9.1,.slice a9 n9 c9,sv fac9,.slice a8 n8 c8] (j:=9) rfl rfl rfl rfl om (λhs=>?_) λo23 _ hG23=>?_
           ·obtain⟨w0,w',hok⟩:=hs;exact q7 _ _ _ _ _ (Hp.le_join_r (hok.disj 6 8 _ _ dc rfl rfl)) hE
           refine⟨sK,?_⟩;exact⟨(h22,H.join H22,o23),⟨hR22,hG23⟩,v6.mk (λ_ _ h=>(Ok.join (h.pick [0,6,8,1,2,3,4,5,7] rfl rfl)).pick [0,2,3,4,5,6,1,7] rfl rfl) rfl rfl⟩
          rintro⟨h21,H21,o21⟩ ⟨hR21,hG21⟩ _;dsimp only at hR21 hG21 ⊢;refine⟨(A2.1,A2.2.1,out++[A2.2.2],h21,H21,o21),⟨hR21,hG21,?_,hk2.2.1,hk2.2.2,?_⟩,hlt,v6.mk (λ_ _ h=>h) rfl rfl⟩
          ·cases f with
           | zero=>exact absurd hf (by have:=jO hRend g1;omega)
           | succ f=>
            refine⟨f,by dsimp only;omega,?_⟩;dsimp only;rw[<-htr,if_pos ⟨q2,q5⟩,if_pos ⟨q2,q5⟩];conv=>rhs;unfold dR
            rw[if_pos g1,<-hA2]
          ·have:=hk2.1;simp only[d6,d7,d9];omega
         focus
          have hR20:G9 k h20 b rr:=by unfold U5 at hR20;rw[if_neg (by rw[g1];decide)] at hR20;exact hR20
          have eX:=fin_ (by rw[<-htr,if_pos ⟨q2,q5⟩];cases f with | zero=>rfl | succ f=>(unfold dR;rw[if_neg (by rw[g1];decide)]));refine nQ [.hp c0,.hp h20,.box rb (J1 b (ka) ad nd cd) 155,.box b4 [iQ 0,zs,zl,zs,zl] 44,.box b5 [iQ K,sv T,iQ ln,iQ co] 211,.box b8 [iQ op,zs,zl,sv p.2,o.v] 44,.hp H,.hp o.h] λq' hq'=>?_;refine lR 2 0 ?_;refine l6 (i:=1) rfl (λw0 w' hok=>m6 w' (hok.mem 1 _ rfl) (hok.kle rfl rfl hk) hR20) ?_
        rotate_left
        focus
         apply hq';refine dQ rfl ?_;have eX:=fin_ (by rw[<-htr,if_neg (λc=>q5 c.2)]);refine nQ [.hp c0,.hp hh,.box rb (J1 b (ka) ad nd cd) 155,.box b4 [iQ 0,zs,zl,zs,zl] 44,.box b5 [iQ K,sv T,iQ ln,iQ co] 211,.box b8 [iQ op,zs,zl,sv p.2,o.v] 44,.hp H,.hp o.h] λq' hq'=>?_;refine lR 2 0 ?_;refine l6 (i:=1) rfl (λw0 w' hok=>m6 w' (hok.mem 1 _ rfl) (hok.kle rfl rfl hk) hRr) ?_
        all_goals
         rintro _ h15 _ ⟨rfl,hR15⟩;have hR15:G9 k h15 b (x8 rr [41]):=hR15;apply hq';rw[eX];exact⟨h15,[.box rb (J1 b ka ad nd cd) 155,.hp (H.join o.h)],⟨_,_,rfl,⟨_,rfl,rfl,⟨none,0,0,o.a,o.n,o.c,rfl,Sl.nil _ _ _ _ _,hG.sl (q7 _) (by decide:0 < 5) (Hp.le_join_l _ _) (Hp.le_join_r hHo)⟩⟩,rfl,hR15⟩,λw' h=>(Ok.join (h.pick [0,6,7,1,2] rfl rfl)).pick [0,2,3,1] rfl rfl⟩
       ·apply hq';refine dQ rfl ?_;have eX:=fin_ (by rw[<-htr,if_neg (λc=>q2 c.1)]);refine nQ [.hp c0,.hp hh,.box rb (J1 b (ka) ad nd cd) 155,.box b4 [iQ 0,zs,zl,zs,zl] 44,.box b5 [iQ K,sv T,iQ ln,iQ co] 211,.box b8 [iQ op,zs,zl,sv p.2,o.v] 44,.hp H,.hp o.h] λq' hq'=>?_;refine lR 2 0 ?_;refine l6 (i:=1) rfl (λw0 w' hok=>m6 w' (hok.mem 1 _ rfl) (hok.kle rfl rfl hk) hRr) ?_;rintro _ h15 _ ⟨rfl,hR15⟩;have hR15:G9 k h15 b (x8 rr [41]):=hR15;apply hq';rw[eX];exact⟨h15,[.box rb (J1 b ka ad nd cd) 155,.hp (H.join o.h)],⟨_,_,rfl,⟨_,rfl,rfl,⟨none,0,0,o.a,o.n,o.c,rfl,Sl.nil _ _ _ _ _,hG.sl (q7 _) (by decide:0 < 5) (Hp.le_join_l _ _) (Hp.le_join_r hHo)⟩⟩,rfl,hR15⟩,λw' h=>(Ok.join (h.pick [0,6,7,1,2] rfl rfl)).pick [0,2,3,1] rfl rfl⟩
      ·rw[if_neg o2] at hp;have p1:p.1=E5 r:=by rw[hp]
       have p2:p.2 = []:=by rw[hp]
       rw[<-p1] at hR12;have hb8:(Value.string (bs ([]:e8)))=sv p.2:=by rw[p2]
       refine X9 [.hp c0,.hp h12,.box rb (J1 b (kk+1) ad nd cd) 155,.box b4 [iQ 0,zs,zl,zs,zl] 44,.box b5 [iQ K,sv T,iQ ln,iQ co] 211,.box b8 [iQ op,zs,zl,sv p.2,zl] 44] (by rw[p2]) ?_;refine o7 λq' hq'=>?_;refine lR 2 0 ?_;refine l6 (i:=1) rfl (λw0 w' hok=>m6 w' (hok.mem 1 _ rfl) (hok.kle rfl rfl hk) hR12) ?_;rintro _ h13 _ ⟨rfl,hR13⟩;have hR13:G9 k h13 b (x8 p.1 [40]):=hR13;apply hq';obtain⟨A,hA⟩ :∃x,x=R4 names d' (x8 p.1 [40]) (kk+1):=⟨_,rfl⟩
       refine s6.cut (Hp×Hp×Dw.Os) (λ_=>[(0,.v (pQ rb)),(1,.v (iQ lv)),(4,.bx 3 0),(6,.v (iQ op)),(8,.bx 5 0)]) (λg=>[.hp c0,.hp g.1,.box rb (J1 b A.2.1 ad nd cd) 155,.box b4 [iQ 0,zs,zl,zs,zl] 44,.box b5 [iQ K,sv T,iQ ln,iQ co] 211,.box b8 [iQ op,zs,zl,sv p.2,g.2.2.v] 44,.hp g.2.1,.hp g.2.2.h]) (λg=>G9 k g.1 b A.1/\aT (P5 (d'+1)) 44 5 g.2.1 g.2.2 [A.2.2]) (s6.by_order0 (s0:=[.hp c0,.hp Hp.emp,.hp Hp.emp,.box b4 [iQ 0,zs,zl,zs,zl] 44,.box b5 [iQ K,sv T,iQ ln,iQ co] 211,.box b8 [iQ op,zs,zl,sv p.2,zl] 44]) cQ (.take 0 <| .take 1 <| .take 2 <| .take 3 <| .take 4 <| .run 5 <| .run 6 <| .run 7 <| .run 8 <| .run 9 <| .done) kr (sK) ?_) ?_
       ·refine nwo ?_;refine nR (i:=2) (j:=1) dc rfl rfl (λw0 w' hok=>ih d' rfl k h13 rb b (x8 p.1 [40]) (kk+1) ad nd cd (lv+1) w' om (hok.inJ (i:=2) (j:=1) (c:=.box rb (J1 b (kk+1) ad nd cd) 155) (d:=.hp h13) rfl rfl) (hok.disj 2 1 _ _ dc rfl rfl) (hk.trans (hok.le2 (i:=2) (j:=1) (m:=0) dc dc rfl rfl rfl)) hR13 (hD.mono (j7 _) (hok.le2 (i:=2) (j:=1) (m:=0) dc dc rfl rfl rfl)) om) ?_;rintro _ _ h9 H9 ⟨⟨xs,rfl,hx5,hE⟩,rfl,hR9⟩;rw[<-hnames,<-hA] at hE hR9 ⊢;have hE2:=hE;obtain⟨X,hX⟩ :∃X,X=A.2.2:=⟨_,rfl⟩
        rw[<-hX] at hE2;obtain⟨op9,f9,fac9,args9⟩:=X;obtain⟨a9,n9,c9,a8,n8,c8,rfl,_,_⟩:=hE2;refine⟨sK,?_⟩;intro b9;refine⟨sK,?_⟩;refine Ct (R:=P5 (d'+1)) (H:=H9) cQ (e:=44) rfl A.2.2 [iQ op9,sv f9.1,.slice a9 n9 c9,sv fac9,.slice a8 n8 c8] (j:=7) rfl rfl rfl rfl (λ_=>hE) λo9 _ hG9=>?_;refine⟨sK,?_⟩;exact⟨(h9,H9,o9),⟨hR9,hG9⟩,v6.mk (pj [0,1,2,3,4,5,6,8]) rfl rfl⟩
       rintro⟨h9,H9,o9⟩ ⟨hR9,hG9⟩ _;dsimp only at hR9 hG9 ⊢;obtain⟨tot,htot⟩ :∃x,x=(if op≠2/\op≠5 then dR (R4 names d') (J5 A.1) A.1 A.2.1 [A.2.2] else (A.1,A.2.1,[A.2.2])):=⟨_,rfl⟩
       have hAk:=uG names d' (x8 p.1 [40]) (kk+1) om;rw[<-hA] at hAk;refine u6.mkS (RS×Nat×List Ex×Hp×Hp×Dw.Os) (λ_=>[(0,.v (pQ rb)),(1,.v (iQ lv)),(4,.bx 3 0),(6,.v (iQ op)),(8,.bx 5 0)]) (λg=>[.hp c0,.hp g.2.2.2.1,.box rb (J1 b g.2.1 ad nd cd) 155,.box b4 [iQ 0,zs,zl,zs,zl] 44,.box b5 [iQ K,sv T,iQ ln,iQ co] 211,.box b8 [iQ op,zs,zl,sv p.2,g.2.2.2.2.2.v] 44,.hp g.2.2.2.2.1,.hp g.2.2.2.2.2.h])
        (λg=>G9 k g.2.2.2.1 b g.1/\aT (P5 (d'+1)) 44 5 g.2.2.2.2.1 g.2.2.2.2.2 g.2.2.1/\(∃f,J5 g.1<=f/\(if op≠2/\op≠5 then dR (R4 names d') f g.1 g.2.1 g.2.2.1 else (g.1,g.2.1,g.2.2.1))=tot)/\g.2.1<=65/\(g.1.e=0->g.2.1<=64)/\g.2.2.1.length<=g.2.1) (λg=>J5 g.1) (A.1,A.2.1,[A.2.2],h9,H9,o9)
        ⟨hR9,hG9,⟨J5 A.1,k8 _,htot.symm⟩,hAk.2.1,hAk.2.2,by have:=hAk.1;simp only[d7,d9];omega⟩ (v6.mk (λ_ _ h=>h) rfl rfl) ?_
       rintro⟨rr,ka,out,hh,H,o⟩ ⟨hRr,hG,⟨f,hf,htr⟩,hka,hke,hlo⟩ hsat;have hHo:H.dj o.h:=by obtain⟨w0,w1,hok⟩:=hsat;exact hok.disj 6 7 _ _ dc rfl rfl
       dsimp only at hRr hG hf htr hka hke hlo ⊢;have hRend:rr.e=0->cP rr.ts:=by obtain⟨_,_,_,_,_,hE,_⟩:=hRr;exact hE
       have hpk:(KW (C7 r).2.1).getD 0=op:=by rw[<-hP,hop]
       have fin_:tot=(rr,ka,out)->R4 names (d'+1) r kk=(x8 rr [41],ka,.mk op ([],[]) p.2 out):=λeT=>by
        unfold R4;rw[if_neg (λc=>c h0),if_neg (by rw[yo];decide)];dsimp only;rw[hpk,<-hp0,<-hA,<-htot,eT]
       refine nQ [.hp c0,.hp hh,.box rb (J1 b (ka) ad nd cd) 155,.box b4 [iQ 0,zs,zl,zs,zl] 44,.box b5 [iQ K,sv T,iQ ln,iQ co] 211,.box b8 [iQ op,zs,zl,sv p.2,o.v] 44,.hp H,.hp o.h] λq' hq'=>?_;refine d8 (λq2=>?_) λq2=>?_
       ·refine d8 (λq5=>?_) λq5=>?_;focus
         refine lR 2 0 ?_;refine l6 (i:=1) rfl (λw0 w' hok=>cN (s:=[44]) w' (hok.mem 1 _ rfl) (hok.kle rfl rfl hk) hRr) ?_;rintro _ h20 _ ⟨rfl,rfl,hR20⟩;apply hq';refine s8 (λg1=>?_) λg1=>?_
         ·have hR20:G9 k h20 b (E5 rr):=by unfold U5 at hR20;rw[if_pos g1] at hR20;exact hR20
          obtain⟨A2,hA2⟩ :∃x,x=R4 names d' (E5 rr) ka:=⟨_,rfl⟩
          have hk2:=uG names d' (E5 rr) ka (hke (S2 g1).1);have hlt:=XQ names d' hRend g1 ka;have hka2:ka<=64:=hke (S2 g1).1;rw[<-hA2] at hk2 hlt;refine s6.cut (Hp×Hp×Dw.Os) (λ_=>[(0,.v (pQ rb)),(1,.v (iQ lv)),(4,.bx 3 0),(6,.v (iQ op)),(8,.bx 5 0)]) (λg=>[.hp c0,.hp g.1,.box rb (J1 b A2.2.1 ad nd cd) 155,.box b4 [iQ 0,zs,zl,zs,zl] 44,.box b5 [iQ K,sv T,iQ ln,iQ co] 211,.box b8 [iQ op,zs,zl,sv p.2,g.2.2.v] 44,.hp g.2.1,.hp g.2.2.h]) (λg=>G9 k g.1 b A2.1/\aT (P5 (d'+1)) 44 5 g.2.1 g.2.2 (out++[A2.2.2])) (s6.by_order0 (s0:=[.hp c0,.hp Hp.emp,.hp Hp.emp,.box b4 [iQ 0,zs,zl,zs,zl] 44,.box b5 [iQ K,sv T,iQ ln,iQ co] 211,.box b8 [iQ op,zs,zl,sv p.2,o.v] 44,.hp H,.hp Hp.emp]) cQ (.take 0 <| .take 1 <| .take 2 <| .take 3 <| .take 4 <| .run 5 <| .run 6 <| .run 7 <| .run 8 <| .run 9 <| .done) kr (sK) ?_) ?_
          ·refine nwo ?_;refine nR (i:=2) (j:=1) dc rfl rfl (λw0 w' hok=>ih d' rfl k h20 rb b (E5 rr) ka ad nd cd (lv+1) w' om (hok.inJ (i:=2) (j:=1) (c:=.box rb (J1 b ka ad nd cd) 155) (d:=.hp h20) rfl rfl) (hok.disj 2 1 _ _ dc rfl rfl) (hk.trans (hok.le2 (i:=2) (j:=1) (m:=0) dc dc rfl rfl rfl)) hR20 (hD.mono (j7 _) (hok.le2 (i:=2) (j:=1) (m:=0) dc dc rfl rfl rfl)) hka2) ?_;rintro _ _ h22 H22 ⟨⟨xs,rfl,hx5,hE⟩,rfl,hR22⟩;rw[<-hnames,<-hA2] at hE hR22 ⊢;have hE2:=hE;obtain⟨X,hX⟩ :∃X,X=A2.2.2:=⟨_,rfl⟩
           rw[<-hX] at hE2;obtain⟨op9,f9,fac9,args9⟩:=X;obtain⟨a9,n9,c9,a8,n8,c8,rfl,_,_⟩:=hE2;refine⟨sK,?_⟩;intro b9;refine⟨sK,?_⟩;refine oL (R:=P5 (d'+1)) (o:=o) (L:=out) (H:=H.join H22) cQ (e:=44) rfl (i:=7) rfl (λ_=>hG.mono (q7 _) (Hp.le_join_l _ _)) A2.2.2 [iQ op9,sv f9.1,.slice a9 n9 c9,sv fac9,.slice a8 n8 c8] (j:=9) rfl rfl rfl rfl om (λhs=>?_) λo23 _ hG23=>?_
           ·obtain⟨w0,w',hok⟩:=hs;exact q7 _ _ _ _ _ (Hp.le_join_r (hok.disj 6 8 _ _ dc rfl rfl)) hE
           refine⟨sK,?_⟩;exact⟨(h22,H.join H22,o23),⟨hR22,hG23⟩,v6.mk (λ_ _ h=>(Ok.join (h.pick [0,6,8,1,2,3,4,5,7] rfl rfl)).pick [0,2,3,4,5,6,1,7] rfl rfl) rfl rfl⟩
          rintro⟨h21,H21,o21⟩ ⟨hR21,hG21⟩ _;dsimp only at hR21 hG21 ⊢;refine⟨(A2.1,A2.2.1,out++[A2.2.2],h21,H21,o21),⟨hR21,hG21,?_,hk2.2.1,hk2.2.2,?_⟩,hlt,v6.mk (λ_ _ h=>h) rfl rfl⟩
          ·cases f with
           | zero=>exact absurd hf (by have:=jO hRend g1;omega)
           | succ f=>
            refine⟨f,by dsimp only;omega,?_⟩;dsimp only;rw[<-htr,if_pos ⟨q2,q5⟩,if_pos ⟨q2,q5⟩];conv=>rhs;unfold dR
            rw[if_pos g1,<-hA2]
          ·have:=hk2.1;simp only[d6,d7,d9];omega
         focus
          have hR20:G9 k h20 b rr:=by unfold U5 at hR20;rw[if_neg (by rw[g1];decide)] at hR20;exact hR20
          have eX:=fin_ (by rw[<-htr,if_pos ⟨q2,q5⟩];cases f with | zero=>rfl | succ f=>(unfold dR;rw[if_neg (by rw[g1];decide)]));refine nQ [.hp c0,.hp h20,.box rb (J1 b (ka) ad nd cd) 155,.box b4 [iQ 0,zs,zl,zs,zl] 44,.box b5 [iQ K,sv T,iQ ln,iQ co] 211,.box b8 [iQ op,zs,zl,sv p.2,o.v] 44,.hp H,.hp o.h] λq' hq'=>?_;refine lR 2 0 ?_;refine l6 (i:=1) rfl (λw0 w' hok=>m6 w' (hok.mem 1 _ rfl) (hok.kle rfl rfl hk) hR20) ?_
        rotate_left
        focus
         apply hq';refine dQ rfl ?_;have eX:=fin_ (by rw[<-htr,if_neg (λc=>q5 c.2)]);refine nQ [.hp c0,.hp hh,.box rb (J1 b (ka) ad nd cd) 155,.box b4 [iQ 0,zs,zl,zs,zl] 44,.box b5 [iQ K,sv T,iQ ln,iQ co] 211,.box b8 [iQ op,zs,zl,sv p.2,o.v] 44,.hp H,.hp o.h] λq' hq'=>?_;refine lR 2 0 ?_;refine l6 (i:=1) rfl (λw0 w' hok=>m6 w' (hok.mem 1 _ rfl) (hok.kle rfl rfl hk) hRr) ?_
        all_goals
         rintro _ h14 _ ⟨rfl,hR14⟩;have hR14:G9 k h14 b (x8 rr [41]):=hR14;apply hq';rw[eX];exact⟨h14,[.box rb (J1 b ka ad nd cd) 155,.hp (H.join o.h)],⟨_,_,rfl,⟨_,rfl,rfl,⟨none,0,0,o.a,o.n,o.c,rfl,Sl.nil _ _ _ _ _,hG.sl (q7 _) (by decide:0 < 5) (Hp.le_join_l _ _) (Hp.le_join_r hHo)⟩⟩,rfl,hR14⟩,λw' h=>(Ok.join (h.pick [0,6,7,1,2] rfl rfl)).pick [0,2,3,1] rfl rfl⟩
       ·apply hq';refine dQ rfl ?_;have eX:=fin_ (by rw[<-htr,if_neg (λc=>q2 c.1)]);refine nQ [.hp c0,.hp hh,.box rb (J1 b (ka) ad nd cd) 155,.box b4 [iQ 0,zs,zl,zs,zl] 44,.box b5 [iQ K,sv T,iQ ln,iQ co] 211,.box b8 [iQ op,zs,zl,sv p.2,o.v] 44,.hp H,.hp o.h] λq' hq'=>?_;refine lR 2 0 ?_;refine l6 (i:=1) rfl (λw0 w' hok=>m6 w' (hok.mem 1 _ rfl) (hok.kle rfl rfl hk) hRr) ?_;rintro _ h14 _ ⟨rfl,hR14⟩;have hR14:G9 k h14 b (x8 rr [41]):=hR14;apply hq';rw[eX];exact⟨h14,[.box rb (J1 b ka ad nd cd) 155,.hp (H.join o.h)],⟨_,_,rfl,⟨_,rfl,rfl,⟨none,0,0,o.a,o.n,o.c,rfl,Sl.nil _ _ _ _ _,hG.sl (q7 _) (by decide:0 < 5) (Hp.le_join_l _ _) (Hp.le_join_r hHo)⟩⟩,rfl,hR14⟩,λw' h=>(Ok.join (h.pick [0,6,7,1,2] rfl rfl)).pick [0,2,3,1] rfl rfl⟩
   all_goals
    rw[nN names d (r:=r) (k:=kk) (by rw[eS];exact f1),eS];exact⟨h11,[.box rb (J1 b (kk+1) ad nd cd) 155,.hp Hp.emp],⟨_,_,rfl,⟨_,rfl,rfl,⟨none,0,0,none,0,0,rfl,Sl.nil _ _ _ _ _,Sl.nil _ _ _ _ _⟩⟩,rfl,hR11⟩,λw' h=>(h.pick [0,1,2] rfl rfl).emp⟩
 rotate_left
 focus
  apply hq';have no:uA (C7 r)=false:=by rw[<-hP];unfold uA;rw[s1,U4]
  refine o7 λq' hq'=>?_;refine lR 2 0 ?_;refine k7 _ (λw' hm=>S0 w' (hm 1 _ rfl) (hk.trans (hm 0 _ rfl).whole) hR) ?_;apply hq';refine s8 (λq1=>?_) λq1=>?_;focus
   skip
  rotate_left
  ·have q1:aA r [91]=true:=by simpa using q1
   refine nQ [.hp c0,.hp h,.box rb (J1 b (kk) ad nd cd) 155,.box b4 [iQ 0,zs,zl,zs,zl] 44,.box b5 [iQ K,sv T,iQ ln,iQ co] 211] λq' hq'=>?_;apply hq';refine d8 (λv1=>?_) λv1=>?_;focus
    refine nQ [.hp c0,.hp h,.box rb (J1 b (kk) ad nd cd) 155,.box b4 [iQ 0,zs,zl,zs,zl] 44,.box b5 [iQ K,sv T,iQ ln,iQ co] 211] λq' hq'=>?_;refine lR 2 0 ?_;refine l6 (i:=1) rfl (λw0 w' hok=>G8 w' (hok.mem 1 _ rfl) (hok.kle rfl rfl hk) hR) ?_;rintro _ h11 _ ⟨rfl,hR11⟩;have hR11:G9 k h11 b (y7 r 15):=hR11;have eS:expS d r kk=y7 r 15:=by unfold expS;rw[if_neg (λc=>by rw[q1] at c;cases c.2),if_pos om]
    apply hq';refine nQ [.hp c0,.hp h11,.box rb (J1 b (kk) ad nd cd) 155,.box b4 [iQ 0,zs,zl,zs,zl] 44,.box b5 [iQ K,sv T,iQ ln,iQ co] 211] λq' hq'=>?_;refine lR 2 2 ?_;refine nwo ?_;refine fI cQ (i:=2) (j:=2) rfl rfl rfl (by show 2 < 3;decide) rfl rfl ?_;apply hq';refine nQ [.hp c0,.hp h11,.box rb (J1 b (kk+1) ad nd cd) 155,.box b4 [iQ 0,zs,zl,zs,zl] 44,.box b5 [iQ K,sv T,iQ ln,iQ co] 211] λq' hq'=>?_;refine k7 _ (λw' hm=>T9 w' (hm 1 _ rfl) hR11 ((hm 2 _ rfl).whole.cell (J3 rb (cs:=J1 b (kk+1) ad nd cd) _ rfl))) ?_;apply hq';refine d8 (λf1=>?_) λf1=>?_;focus
     skip
    rotate_left
    ·exact absurd (bK r dc) f1
   rotate_left
   focus
    refine nQ [.hp c0,.hp h,.box rb (J1 b (kk) ad nd cd) 155,.box b4 [iQ 0,zs,zl,zs,zl] 44,.box b5 [iQ K,sv T,iQ ln,iQ co] 211] λq' hq'=>?_;refine lR 2 2 ?_;refine l6 (i:=1) rfl (λw0 w' hok=>N9 (n:=kk) (m:=64) rfl rfl w' (hok.mem 1 _ rfl) (DR.mk (hk.trans (hok.le01 rfl rfl)) hR (hok.bx1 (j:=2) (n:=0) rfl rfl dc rfl))) ?_;rintro _ h11 _ ⟨rfl,hR11⟩;have hR11:G9 k h11 b (J2 r kk 64):=hR11;have eS:expS d r kk=J2 r kk 64:=by unfold expS;rw[if_neg (λc=>by rw[q1] at c;cases c.2),if_neg om]
    apply hq';refine nQ [.hp c0,.hp h11,.box rb (J1 b (kk) ad nd cd) 155,.box b4 [iQ 0,zs,zl,zs,zl] 44,.box b5 [iQ K,sv T,iQ ln,iQ co] 211] λq' hq'=>?_;refine lR 2 2 ?_;refine nwo ?_;refine fI cQ (i:=2) (j:=2) rfl rfl rfl (by show 2 < 3;decide) rfl rfl ?_;apply hq';refine nQ [.hp c0,.hp h11,.box rb (J1 b (kk+1) ad nd cd) 155,.box b4 [iQ 0,zs,zl,zs,zl] 44,.box b5 [iQ K,sv T,iQ ln,iQ co] 211] λq' hq'=>?_;refine k7 _ (λw' hm=>T9 w' (hm 1 _ rfl) hR11 ((hm 2 _ rfl).whole.cell (J3 rb (cs:=J1 b (kk+1) ad nd cd) _ rfl))) ?_;apply hq';refine d8 (λf1=>?_) λf1=>?_;focus
     skip
    rotate_left
    ·have h0:(expS d r kk).e=0:=by rw[eS];exact l9.1 f1
     obtain⟨hd0,hk64,eR,h00,_⟩:=sF h0;obtain⟨d',rfl⟩ :∃d',d=d'+1:=⟨d - 1,om⟩
     have eL:J2 r kk 64=r:=by rw[<-eS];exact eR
     rw[eL] at hR11;refine nQ [.hp c0,.hp h11,.box rb (J1 b (kk+1) ad nd cd) 155,.box b4 [iQ 0,zs,zl,zs,zl] 44,.box b5 [iQ K,sv T,iQ ln,iQ co] 211] λq' hq'=>?_;apply hq';refine RW rfl ?_;refine nQ [.hp c0,.hp h11,.box rb (J1 b (kk+1) ad nd cd) 155,.box b4 [iQ 0,zs,zl,zs,zl] 44,.box b5 [iQ K,sv T,iQ ln,iQ co] 211] λq' hq'=>?_;refine l6 (i:=1) rfl (λw0 w' hok=>mL w' (hok.mem 1 _ rfl) (DR.mk (hk.trans (hok.le01 rfl rfl)) hR11 (hok.bx1 (j:=2) (n:=0) rfl rfl dc rfl)) (hok.bx1 (j:=2) (n:=1) rfl rfl dc rfl) (hD.mono (j7 _) (hok.le01 rfl rfl)) hDn) ?_;rintro _ hF _ ⟨o,rfl,rfl,hO,hRF⟩;rw[<-hnames] at hO hRF ⊢;apply hq';rw[zR names d' h0 no];exact⟨hF,[.box rb (J1 b (kk+1) ad nd cd) 155,.hp o.h],⟨_,_,rfl,⟨_,rfl,rfl,⟨o.a,o.n,o.c,none,0,0,rfl,w8.sl (f:=U0) (sz:=2) (λ_=>rfl) dc hO,Sl.nil _ _ _ _ _⟩⟩,rfl,hRF⟩,pk [0,1,2,5]⟩
   all_goals
    rw[nN names d (r:=r) (k:=kk) (by rw[eS];exact f1),eS];exact⟨h11,[.box rb (J1 b (kk+1) ad nd cd) 155,.hp Hp.emp],⟨_,_,rfl,⟨_,rfl,rfl,⟨none,0,0,none,0,0,rfl,Sl.nil _ _ _ _ _,Sl.nil _ _ _ _ _⟩⟩,rfl,hR11⟩,λw' h=>(h.pick [0,1,2] rfl rfl).emp⟩
 all_goals
  have q1:aA r [91]=false:=by simpa using q1
  refine nQ [.hp c0,.hp h,.box rb (J1 b (kk) ad nd cd) 155,.box b4 [iQ 0,zs,zl,zs,zl] 44,.box b5 [iQ K,sv T,iQ ln,iQ co] 211] λq' hq'=>?_;refine lR 2 0 ?_;refine l6 (i:=1) rfl (λw0 w' hok=>G8 w' (hok.mem 1 _ rfl) (hok.kle rfl rfl hk) hR) ?_;rintro _ h11 _ ⟨rfl,hR11⟩;have hR11:G9 k h11 b (y7 r 14):=hR11;have eS:expS d r kk=y7 r 14:=by unfold expS;rw[if_pos ⟨no,q1⟩]
  apply hq';refine nQ [.hp c0,.hp h11,.box rb (J1 b (kk) ad nd cd) 155,.box b4 [iQ 0,zs,zl,zs,zl] 44,.box b5 [iQ K,sv T,iQ ln,iQ co] 211] λq' hq'=>?_;refine lR 2 2 ?_;refine nwo ?_;refine fI cQ (i:=2) (j:=2) rfl rfl rfl (by show 2 < 3;decide) rfl rfl ?_;apply hq';refine nQ [.hp c0,.hp h11,.box rb (J1 b (kk+1) ad nd cd) 155,.box b4 [iQ 0,zs,zl,zs,zl] 44,.box b5 [iQ K,sv T,iQ ln,iQ co] 211] λq' hq'=>?_;refine k7 _ (λw' hm=>T9 w' (hm 1 _ rfl) hR11 ((hm 2 _ rfl).whole.cell (J3 rb (cs:=J1 b (kk+1) ad nd cd) _ rfl))) ?_;apply hq';refine d8 (λf1=>?_) λf1=>?_
  ·rw[nN names d (r:=r) (k:=kk) (by rw[eS];exact f1),eS];exact⟨h11,[.box rb (J1 b (kk+1) ad nd cd) 155,.hp Hp.emp],⟨_,_,rfl,⟨_,rfl,rfl,⟨none,0,0,none,0,0,rfl,Sl.nil _ _ _ _ _,Sl.nil _ _ _ _ _⟩⟩,rfl,hR11⟩,λw' h=>(h.pick [0,1,2] rfl rfl).emp⟩
  ·exact absurd (bK r dc) f1
end Go.Proofs.YtpjhmeicbjkcdaaGreatDoor
namespace Go.Proofs.YtpjhmeicbjkcdaaGreatDoor
open Go Go.RowKit Go.Dw
theorem vW {D:List S1} (hDn:D.length < 1000000) :∀d,d<=9->Lw D d
 | 0,h=>vV hDn 0 h (λd' e=>by omega)
 | d+1,h=>vV hDn (d+1) h (λd' e=>by
  have:d'=d:=om
  subst this;exact vW hDn d' om)
end Go.Proofs.YtpjhmeicbjkcdaaGreatDoor
namespace Go.Proofs.YtpjhmeicbjkcdaaGreatDoor
open Go
theorem RK {r:RS} (g:Y3 r) (h0:r.e=0):Dl (C7 r):=by
 have hp:=(g.l h0).pos;unfold C7;rw[if_neg (λc=>c h0)];cases e:r.ts with
 | nil=>rw[e] at hp;cases hp
 | cons x l=>exact g.t x (by rw[e];exact bU)
theorem Em {t:e8} (h:VD t) :∃k,Fs t k/\bO t k=true:=by
 obtain⟨hl,a,b,ha,h0,h⟩:=h;rcases h with ⟨rfl,hc⟩ | ⟨rfl,hb,hb0,hc⟩
 ·exact⟨t.length,⟨hl,t,b,ha,h0,rfl,.inl rfl⟩,by unfold bO;rw[if_pos rfl];exact hc⟩
 ·exact⟨a.length,⟨hl,a,b,ha,h0,rfl,.inr ⟨rfl,hb,hb0⟩⟩,hc⟩
theorem nF {r:RS} (g:Y3 r) (h:(R6 r).1.e=0):I7 (R6 r).2=0:=by
 unfold R6 at h ⊢;by_cases hl:400 < (aM r).2.length
 ·rw[if_pos hl] at h;exact absurd h (bK _ dc)
 rw[if_neg hl] at h;dsimp only at h ⊢;unfold aM at h hl ⊢;dsimp only at h hl ⊢;have hs0:(tM r).e=0:=(A7.kind (tM r) 2).ok h;have hk:(C7 (tM r)).1=2:=by
  refine j9 λc=>?_;unfold O4 at h;rw[if_pos c] at h;exact absurd h (bK _ dc)
 have hk2:(O4 (tM r) 2).2=(C7 (tM r)).2.1:=by unfold O4;rw[if_neg (λc=>c hk)]
 have gs:Y3 (tM r):=(((A7.take r [45]).trans (A7.fail _ 3)).ite (A7.take r [45])).good g;have ht:=(RK gs hs0).2 hk;have hne:(C7 (tM r)).2.1≠[]:=by
  obtain⟨_,a,b,_,h0,h⟩:=ht;rcases h with ⟨e,_⟩ | ⟨e,_⟩
  ·rw[e];exact G2.1 h0
  ·rw[e];intro c;cases a <;> cases c
 rw[hk2] at hl ⊢;rw[if_neg hne] at hl ⊢;refine yQ (sg:=aA r [45]) (t:=(C7 (tM r)).2.1) ⟨rfl,Em ht,λhi c=>?_⟩ om;have e:tM r=U5 r [45]:=by
  unfold tM;by_cases hc:aA r [45]=true/\(C7 (U5 r [45])).1=2/\(C7 (U5 r [45])).2.1 = [48]
  ·unfold tM at hs0;rw[if_pos hc] at hs0;exact absurd hs0 (bK _ dc)
  ·rw[if_neg hc]
 rw[e] at hk c;unfold tM at hs0;rw[if_pos ⟨hi,hk,c⟩] at hs0;exact absurd hs0 (bK _ dc)
theorem KH {x:e8} (h:I7 x=0):bB 65536 x=0:=by
 have hl:x.length<=400:=Q2 h;unfold I7 bB at h;unfold bB;rw[if_neg om] at h ⊢;exact h
end Go.Proofs.YtpjhmeicbjkcdaaGreatDoor
namespace Go.Proofs.YtpjhmeicbjkcdaaGreatDoor
open Go Go.RowKit Go.Dw
theorem fE (s:e8) (hs:s.length < 1000000) (w:World) :
  j6 Tryz.prog 175 #[sv s] w (fD w λv cs=>∃g,cs = [.hp g]/\FG 65536 s g v):=by
 refine enterZ (cx 8) [sv s] [.cell 2 141,.tmp 3] Tryz.func175 ?_;intro b2;refine call (λw' hm=>CE s 65536 dc hs w') ?_;rintro _ _ ⟨g,rfl,n1,a1,k1,c1,a2,k2,c2,x,y,rfl,hr⟩;exact⟨[.hp g],⟨g,rfl,n1,a1,k1,c1,a2,k2,c2,x,y,rfl,hr⟩,pk [0,2]⟩
theorem eW {s:e8} {g:Hp} {v:Value} (h:FG 65536 s g v) (hn:I7 s=0) :∃r,v=.tuple #[.agg (fR r).toArray,iQ 0]/\SI s g r:=by
 have h2:FG 400 s g v:=by
  have e:bB 400 s=0:=hn;unfold FG at h ⊢;rw[KH hn] at h;rw[e];exact h
 obtain⟨r,h3,h4⟩:=NP h2 hn;rw[hn] at h3;exact⟨r,h3,h4⟩
set_option maxHeartbeats 4000000 in
set_option maxRecDepth 10000 in
theorem oZ {k h:Hp} {rb b kk dd:Nat} {r:RS} {a:Option Addr} {n c:Nat} {L:List kV} {ad:Option Addr} {nd cd:Nat} {DD:List S1} (w:World) (hin:((KJ rb b kk ad nd cd).h.join h).In w) (hdj:(KJ rb b kk ad nd cd).h.dj h) (hk:k.le ((Hp.whole w).minus ((KJ rb b kk ad nd cd).h.join h))) (hR:G9 k h b r) (hg:Y3 r)
  (hL:Sl (jJ dd) 8 ((Hp.whole w).minus ((KJ rb b kk ad nd cd).h.join h)) a n c L) (hn:L.length < 1000000) (hD:Sl (B0 O1) 4 ((Hp.whole w).minus ((KJ rb b kk ad nd cd).h.join h)) ad nd cd DD) (hdn:DD.length < 1000000) :
  j6 Tryz.prog 84 #[pQ rb,.slice a n c] w (O6 w ((KJ rb b kk ad nd cd).h.join h) λv h' cs=>∃ys H,cs = [.box rb ys 155,.hp H]/\((∃xs,v=.agg xs.toArray/\xs.length=8/\jJ 9 H (rH (L.map λx:kV=>x.1) (DD.map λx:S1=>x.1) r).2 xs)/\(∃kk',ys=J1 b kk' ad nd cd)/\G9 k h' b (rH (L.map λx:kV=>x.1) (DD.map λx:S1=>x.1) r).1)):=by
 have hlen:=hL.len;have ok0:=Ok.startB hin hdj;refine enterMSZ (cx 95) [pQ rb,.slice a n c] ok0 [.cell 4 74] Tryz.func84 ?_;obtain⟨c0,hc0⟩ :∃c0,c0=(Hp.whole w).minus ((KJ rb b kk ad nd cd).h.join h):=⟨_,rfl⟩
 rw[<-hc0] at hk hD hL ⊢;obtain⟨names,hnames⟩ :∃l,l=L.map λx:kV=>x.1:=⟨_,rfl⟩
 rw[<-hnames];have hnl:n=names.length:=by rw[hnames,l7];exact hlen
 obtain⟨dims,hdims⟩ :∃l,l=DD.map λx:S1=>x.1:=⟨_,rfl⟩
 rw[<-hdims];intro b3 b4;refine o7 λq' hq'=>?_;apply hq';refine nQ [.hp c0,.hp h,.box rb (J1 b (kk) ad nd cd) 155,.box b3 [.slice a n c] 28,.box b4 [zs,iQ 0,zs,zl,zs,zl,zs,zs] 74] λq' hq'=>?_;refine l6 (i:=1) rfl (λw0 w' hok=>N9 (n:=names.length) (m:=64) (by rw[hnl]) rfl w' (hok.mem 1 _ rfl) (DR.mk (hk.trans (hok.le01 rfl rfl)) hR (hok.bx1 (j:=2) (n:=0) rfl rfl dc rfl))) ?_;rintro _ h1 _ ⟨rfl,hR1⟩;have hR1:G9 k h1 b (J2 (r) names.length 64):=hR1;apply hq';refine nQ [.hp c0,.hp h1,.box rb (J1 b (kk) ad nd cd) 155,.box b3 [.slice a n c] 28,.box b4 [zs,iQ 0,zs,zl,zs,zl,zs,zs] 74] λq' hq'=>?_;refine lR 2 0 ?_;refine l6 (i:=1) rfl (λw0 w' hok=>m6 w' (hok.mem 1 _ rfl) (hok.kle rfl rfl hk) hR1) ?_;rintro _ h2 _ ⟨rfl,hR2⟩;have hR2:G9 k h2 b (x8 (J2 (r) names.length 64) qN):=hR2;obtain⟨r2,er2⟩ :∃x,x=x8 (J2 (r) names.length 64) qN:=⟨_,rfl⟩
 rw[<-er2] at hR2;apply hq';refine nQ [.hp c0,.hp h2,.box rb (J1 b (kk) ad nd cd) 155,.box b3 [.slice a n c] 28,.box b4 [zs,iQ 0,zs,zl,zs,zl,zs,zs] 74] λq' hq'=>?_;refine call (λw' hm=>V7 _ _ _ w') ?_;rintro _ _ ⟨b5,b6,rfl,rfl⟩;refine l6 (i:=1) rfl (λw0 w' hok=>P8 (cap:=[pQ b5,pQ b6]) (chk:=dY names) w' (hok.mem 1 _ rfl) (DR.mk (hk.trans (hok.le01 rfl rfl)) hR2 (hok.bx1 (j:=2) (n:=0) rfl rfl dc rfl)) (λw1 hi1 s _=>T5 (cap:=[pQ b3]) s w1 om (by rw[<-hnl];exact hi1.whole.cell (hok.bx1 (j:=5) (n:=0) rfl rfl dc rfl)) (hi1.whole.cell (hok.bx1 (j:=6) (n:=0) rfl rfl dc rfl)) (λw2 hi2 i hi=>by
   have hle:c0.le (Hp.whole w2):=((hok.le01 rfl rfl).trans hi1.whole).trans hi2.whole;subst hnames;exact GI (L:=L) i w2 ((hi1.whole.trans hi2.whole).cell (hok.bx1 (j:=3) (n:=0) rfl rfl dc rfl)) (hL.mono (M8 _) hle) hi))) ?_
 rintro _ h3 _ ⟨rfl,rfl,hR3⟩;obtain⟨A,hA⟩ :∃x,x=P2 r2 (dY names):=⟨_,rfl⟩
 rw[<-hA] at hR3 ⊢;intro b7;apply hq';refine nQ [.hp c0,.hp h3,.box rb (J1 b (kk) ad nd cd) 155,.box b3 [.slice a n c] 28,.box b4 [zs,iQ 0,zs,zl,zs,zl,zs,zs] 74,.box b5 [iQ n] 3,.box b6 [.func (.func 173) #[] #[pQ b3]] 110,.box b7 [sv A.2,iQ 0,zs,zl,zs,zl,zs,zs] 74] λq' hq'=>?_;refine lR 2 0 ?_;refine l6 (i:=1) rfl (λw0 w' hok=>m6 w' (hok.mem 1 _ rfl) (hok.kle rfl rfl hk) hR3) ?_;rintro _ h4 _ ⟨rfl,hR4⟩;have hR4:G9 k h4 b (x8 A.1 [58]):=hR4;obtain⟨r4,er4⟩ :∃x,x=x8 A.1 [58]:=⟨_,rfl⟩
 rw[<-er4] at hR4;apply hq';refine nQ [.hp c0,.hp h4,.box rb (J1 b (kk) ad nd cd) 155,.box b3 [.slice a n c] 28,.box b4 [zs,iQ 0,zs,zl,zs,zl,zs,zs] 74,.box b5 [iQ n] 3,.box b6 [.func (.func 173) #[] #[pQ b3]] 110,.box b7 [sv A.2,iQ 0,zs,zl,zs,zl,zs,zs] 74] λq' hq'=>?_;refine fI cQ (i:=2) (j:=2) rfl rfl rfl (by show 2 < 3;decide) rfl rfl ?_;apply hq';refine nQ [.hp c0,.hp h4,.box rb (J1 b (0) ad nd cd) 155,.box b3 [.slice a n c] 28,.box b4 [zs,iQ 0,zs,zl,zs,zl,zs,zs] 74,.box b5 [iQ n] 3,.box b6 [.func (.func 173) #[] #[pQ b3]] 110,.box b7 [sv A.2,iQ 0,zs,zl,zs,zl,zs,zs] 74] λq' hq'=>?_;obtain⟨E,hE⟩ :∃x,x=R4 dims 8 r4 0:=⟨_,rfl⟩
 refine nR (i:=2) (j:=1) dc rfl rfl (λw0 w' hok=>vW hdn 8 dc k h4 rb b r4 0 ad nd cd 1 w' dc (hok.inJ (i:=2) (j:=1) (c:=.box rb (J1 b 0 ad nd cd) 155) (d:=.hp h4) rfl rfl) (hok.disj 2 1 _ _ dc rfl rfl) (hk.trans (hok.le2 (i:=2) (j:=1) (m:=0) dc dc rfl rfl rfl)) hR4 (hD.mono (j7 _) (hok.le2 (i:=2) (j:=1) (m:=0) dc dc rfl rfl rfl)) dc) ?_;rintro _ _ h9 H9 ⟨⟨xs,rfl,hx5,hE9⟩,rfl,hR9⟩;rw[<-hdims,<-hE] at hE9 hR9 ⊢;have hE2:=hE9;obtain⟨Y,hY⟩ :∃Y,Y=E.2.2:=⟨_,rfl⟩
 rw[<-hY] at hE2;obtain⟨op9,f9,fac9,args9⟩:=Y;obtain⟨a9,n9,c9,a8,n8,c8,rfl,_,_⟩:=hE2;obtain⟨kx,hkx⟩ :∃kx,kx=E.2.1:=⟨_,rfl⟩
 rw[<-hkx];have gE:Y3 E.1:=by
  rw[hE,er4,hA,er2];exact A7.good ((((A7.lim r _ 64).trans (A7.exp _ _)).trans ((A7.nam _ _).trans (A7.exp _ _))).trans (A7.expr dims 8 _ 0)) hg
 apply hq';refine nQ [.hp c0,.hp h9,.box rb (J1 b (kx) ad nd cd) 155,.box b3 [.slice a n c] 28,.box b4 [zs,iQ 0,zs,zl,zs,zl,zs,zs] 74,.box b5 [iQ n] 3,.box b6 [.func (.func 173) #[] #[pQ b3]] 110,.box b7 [sv A.2,iQ op9,sv f9.1,.slice a9 n9 c9,sv fac9,.slice a8 n8 c8,zs,zs] 74,.hp H9] λq' hq'=>?_;refine lR 2 0 ?_;refine l6 (i:=1) rfl (λw0 w' hok=>cN (s:=xN) w' (hok.mem 1 _ rfl) (hok.kle rfl rfl hk) hR9) ?_;rintro _ h10 _ ⟨rfl,rfl,hR10⟩;obtain⟨lo,hlo⟩ :∃x,x=(if aA E.1 xN=true then R6 (E5 E.1) else (E.1,[])):=⟨_,rfl⟩
 have hlo0:=hlo;apply hq';refine s8 (λglo=>?_) λglo=>?_;focus
  have hR10:G9 k h10 b (E5 E.1):=by unfold U5 at hR10;rw[if_pos glo] at hR10;exact hR10
  rw[if_pos glo] at hlo;refine nQ [.hp c0,.hp h10,.box rb (J1 b (kx) ad nd cd) 155,.box b3 [.slice a n c] 28,.box b4 [zs,iQ 0,zs,zl,zs,zl,zs,zs] 74,.box b5 [iQ n] 3,.box b6 [.func (.func 173) #[] #[pQ b3]] 110,.box b7 [sv A.2,iQ op9,sv f9.1,.slice a9 n9 c9,sv fac9,.slice a8 n8 c8,zs,zs] 74,.hp H9] λq' hq'=>?_;refine l6 (i:=1) rfl (λw0 w' hok=>W5 w' (hok.mem 1 _ rfl) (DR.mk (hk.trans (hok.le01 rfl rfl)) hR10 (hok.bx1 (j:=2) (n:=0) rfl rfl dc rfl))) ?_;rintro _ h11 _ ⟨rfl,rfl,hR11⟩;have hR11:G9 k h11 b ((R6 (E5 E.1)).1):=hR11;rw[<-hlo] at hR11 ⊢;apply hq';refine nQ [.hp c0,.hp h11,.box rb (J1 b (kx) ad nd cd) 155,.box b3 [.slice a n c] 28,.box b4 [zs,iQ 0,zs,zl,zs,zl,zs,zs] 74,.box b5 [iQ n] 3,.box b6 [.func (.func 173) #[] #[pQ b3]] 110,.box b7 [sv A.2,iQ op9,sv f9.1,.slice a9 n9 c9,sv fac9,.slice a8 n8 c8,sv lo.2,zs] 74,.hp H9] λq' hq'=>?_;refine lR 2 0 ?_;refine l6 (i:=1) rfl (λw0 w' hok=>cN (s:=YO) w' (hok.mem 1 _ rfl) (hok.kle rfl rfl hk) hR11) ?_;rintro _ h12 _ ⟨rfl,rfl,hR12⟩;obtain⟨hi,hhi⟩ :∃x,x=(if aA lo.1 YO=true then R6 (E5 lo.1) else (lo.1,[])):=⟨_,rfl⟩
  have hhi0:=hhi;apply hq';refine s8 (λghi=>?_) λghi=>?_
  ·have hR12:G9 k h12 b (E5 lo.1):=by unfold U5 at hR12;rw[if_pos ghi] at hR12;exact hR12
   rw[if_pos ghi] at hhi;refine nQ [.hp c0,.hp h12,.box rb (J1 b (kx) ad nd cd) 155,.box b3 [.slice a n c] 28,.box b4 [zs,iQ 0,zs,zl,zs,zl,zs,zs] 74,.box b5 [iQ n] 3,.box b6 [.func (.func 173) #[] #[pQ b3]] 110,.box b7 [sv A.2,iQ op9,sv f9.1,.slice a9 n9 c9,sv fac9,.slice a8 n8 c8,sv lo.2,zs] 74,.hp H9] λq' hq'=>?_;refine l6 (i:=1) rfl (λw0 w' hok=>W5 w' (hok.mem 1 _ rfl) (DR.mk (hk.trans (hok.le01 rfl rfl)) hR12 (hok.bx1 (j:=2) (n:=0) rfl rfl dc rfl))) ?_;rintro _ h13 _ ⟨rfl,rfl,hR13⟩;have hR13:G9 k h13 b ((R6 (E5 lo.1)).1):=hR13;rw[<-hhi] at hR13 ⊢;apply hq';refine nQ [.hp c0,.hp h13,.box rb (J1 b (kx) ad nd cd) 155,.box b3 [.slice a n c] 28,.box b4 [zs,iQ 0,zs,zl,zs,zl,zs,zs] 74,.box b5 [iQ n] 3,.box b6 [.func (.func 173) #[] #[pQ b3]] 110,.box b7 [sv A.2,iQ op9,sv f9.1,.slice a9 n9 c9,sv fac9,.slice a8 n8 c8,sv lo.2,sv hi.2] 74,.hp H9] λq' hq'=>?_;have eF :∀R9,R9=(if (lo.2≠[]/\hi.2≠[])/\aA hi.1 [59]=true/\dF hi.2*dG lo.2 < dF lo.2*dG hi.2 then y7 hi.1 8 else hi.1)->rH names dims r=(x8 R9 [59],(A.2,E.2.2,lo.2,hi.2)):=by
    rintro _ rfl;unfold rH;dsimp only;rw[<-er2,<-hA,<-er4,<-hE,<-hlo0,<-hhi0]
   refine cG (b:=[]) ?_;refine d8 (λs1=>?_) λs1=>?_;focus
    refine cG (b:=[]) ?_;refine d8 (λs2=>?_) λs2=>?_
    ·refine lR 2 0 ?_;refine k7 _ (λw' hm=>S0 w' (hm 1 _ rfl) (hk.trans (hm 0 _ rfl).whole) hR13) ?_;apply hq';refine s8 (λs3=>?_) λs3=>?_;focus
      have h0:hi.1.e=0:=(S2 s3).1;have gL:Y3 lo.1:=by rw[hlo0];exact A7.good (A7.opt E.1 xN) gE
      have nH:I7 hi.2=0:=by
       rw[hhi0] at h0 s2 ⊢;split at h0
       ·rename_i q;rw[if_pos q];exact nF (A7.good (A7.next _) gL) h0
       ·rename_i q;rw[if_neg q] at s2;exact absurd rfl s2
      have l0:lo.1.e=0:=A7.ok (by rw[hhi0];exact A7.opt lo.1 YO) h0;have nL:I7 lo.2=0:=by
       rw[hlo0] at l0 s1 ⊢;split at l0
       ·rename_i q;rw[if_pos q];exact nF (A7.good (A7.next _) gE) l0
       ·rename_i q;rw[if_neg q] at s1;exact absurd rfl s1
      have lnL:=Q2 nL;have lnH:=Q2 nH;refine nQ [.hp c0,.hp h13,.box rb (J1 b (kx) ad nd cd) 155,.box b3 [.slice a n c] 28,.box b4 [zs,iQ 0,zs,zl,zs,zl,zs,zs] 74,.box b5 [iQ n] 3,.box b6 [.func (.func 173) #[] #[pQ b3]] 110,.box b7 [sv A.2,iQ op9,sv f9.1,.slice a9 n9 c9,sv fac9,.slice a8 n8 c8,sv lo.2,sv hi.2] 74,.hp H9] λq' hq'=>?_;refine call (λw' hm=>fE lo.2 om w') ?_;rintro _ _ ⟨g8,rfl,hRat1⟩;obtain⟨⟨m1,⟨p1,u1,v1⟩,⟨x1,y1,z1⟩⟩,rfl,hS1⟩:=eW hRat1 nL;intro b8;apply hq';refine nQ [.hp c0,.hp h13,.box rb (J1 b (kx) ad nd cd) 155,.box b3 [.slice a n c] 28,.box b4 [zs,iQ 0,zs,zl,zs,zl,zs,zs] 74,.box b5 [iQ n] 3,.box b6 [.func (.func 173) #[] #[pQ b3]] 110,.box b7 [sv A.2,iQ op9,sv f9.1,.slice a9 n9 c9,sv fac9,.slice a8 n8 c8,sv lo.2,sv hi.2] 74,.hp H9,.hp g8,.box b8 [.bool m1,.slice p1 u1 v1,.bool false,.slice x1 y1 z1] 141] λq' hq'=>?_;refine call (λw' hm=>fE hi.2 om w') ?_;rintro _ _ ⟨g9,rfl,hRat2⟩;obtain⟨⟨m2,⟨p2,u2,v2⟩,⟨x2,y2,z2⟩⟩,rfl,hS2⟩:=eW hRat2 nH;intro b9;obtain⟨X1,Y1,q1,q2,q3⟩:=hS1;obtain⟨X2,Y2,w1,w2,w3⟩:=hS2;apply hq';refine nQ [.hp c0,.hp h13,.box rb (J1 b (kx) ad nd cd) 155,.box b3 [.slice a n c] 28,.box b4 [zs,iQ 0,zs,zl,zs,zl,zs,zs] 74,.box b5 [iQ n] 3,.box b6 [.func (.func 173) #[] #[pQ b3]] 110,.box b7 [sv A.2,iQ op9,sv f9.1,.slice a9 n9 c9,sv fac9,.slice a8 n8 c8,sv lo.2,sv hi.2] 74,.hp H9,.hp g8,.box b8 [.bool m1,.slice p1 u1 v1,.bool false,.slice x1 y1 z1] 141,.hp g9,.box b9 [.bool m2,.slice p2 u2 v2,.bool false,.slice x2 y2 z2] 141] λq' hq'=>?_;refine k7 _ (λw' hm=>cS w' (q1.mono (hm 9 _ rfl).whole) (w1.mono (hm 11 _ rfl).whole)) ?_;rw[q2,q3,w2,w3];apply hq';refine d8 (λs4=>?_) λs4=>?_
      ·refine nQ [.hp c0,.hp h13,.box rb (J1 b (kx) ad nd cd) 155,.box b3 [.slice a n c] 28,.box b4 [zs,iQ 0,zs,zl,zs,zl,zs,zs] 74,.box b5 [iQ n] 3,.box b6 [.func (.func 173) #[] #[pQ b3]] 110,.box b7 [sv A.2,iQ op9,sv f9.1,.slice a9 n9 c9,sv fac9,.slice a8 n8 c8,sv lo.2,sv hi.2] 74,.hp H9,.hp g8,.box b8 [.bool m1,.slice p1 u1 v1,.bool false,.slice x1 y1 z1] 141,.hp g9,.box b9 [.bool m2,.slice p2 u2 v2,.bool false,.slice x2 y2 z2] 141] λq' hq'=>?_;refine lR 2 0 ?_;refine l6 (i:=1) rfl (λw0 w' hok=>G8 w' (hok.mem 1 _ rfl) (hok.kle rfl rfl hk) hR13) ?_;rintro _ h14 _ ⟨rfl,hR14⟩;have hR14:G9 k h14 b (y7 hi.1 8):=hR14;apply hq';refine nQ [.hp c0,.hp h14,.box rb (J1 b (kx) ad nd cd) 155,.box b3 [.slice a n c] 28,.box b4 [zs,iQ 0,zs,zl,zs,zl,zs,zs] 74,.box b5 [iQ n] 3,.box b6 [.func (.func 173) #[] #[pQ b3]] 110,.box b7 [sv A.2,iQ op9,sv f9.1,.slice a9 n9 c9,sv fac9,.slice a8 n8 c8,sv lo.2,sv hi.2] 74,.hp H9,.hp g8,.box b8 [.bool m1,.slice p1 u1 v1,.bool false,.slice x1 y1 z1] 141,.hp g9,.box b9 [.bool m2,.slice p2 u2 v2,.bool false,.slice x2 y2 z2] 141] λq' hq'=>?_;refine lR 2 0 ?_;refine l6 (i:=1) rfl (λw0 w' hok=>m6 w' (hok.mem 1 _ rfl) (hok.kle rfl rfl hk) hR14) ?_;rintro _ h15 _ ⟨rfl,hR15⟩;have hR15:G9 k h15 b (x8 (y7 hi.1 8) [59]):=hR15;apply hq';refine nQ [.hp c0,.hp h15,.box rb (J1 b (kx) ad nd cd) 155,.box b3 [.slice a n c] 28,.box b4 [zs,iQ 0,zs,zl,zs,zl,zs,zs] 74,.box b5 [iQ n] 3,.box b6 [.func (.func 173) #[] #[pQ b3]] 110,.box b7 [sv A.2,iQ op9,sv f9.1,.slice a9 n9 c9,sv fac9,.slice a8 n8 c8,sv lo.2,sv hi.2] 74,.hp H9,.hp g8,.box b8 [.bool m1,.slice p1 u1 v1,.bool false,.slice x1 y1 z1] 141,.hp g9,.box b9 [.bool m2,.slice p2 u2 v2,.bool false,.slice x2 y2 z2] 141] λq' hq'=>?_;apply hq';rw[eF (y7 hi.1 8) (by rw[if_pos ⟨⟨s1,s2⟩,s3,fL.1 s4⟩])];exact⟨h15,[.box rb (J1 b kx ad nd cd) 155,.hp H9],⟨_,_,rfl,⟨_,rfl,rfl,⟨[iQ op9,sv f9.1,.slice a9 n9 c9,sv fac9,.slice a8 n8 c8],rfl,hE9⟩⟩,⟨kx,rfl⟩,hR15⟩,pk [0,1,2,8]⟩
      focus
       refine nQ [.hp c0,.hp h13,.box rb (J1 b (kx) ad nd cd) 155,.box b3 [.slice a n c] 28,.box b4 [zs,iQ 0,zs,zl,zs,zl,zs,zs] 74,.box b5 [iQ n] 3,.box b6 [.func (.func 173) #[] #[pQ b3]] 110,.box b7 [sv A.2,iQ op9,sv f9.1,.slice a9 n9 c9,sv fac9,.slice a8 n8 c8,sv lo.2,sv hi.2] 74,.hp H9,.hp g8,.box b8 [.bool m1,.slice p1 u1 v1,.bool false,.slice x1 y1 z1] 141,.hp g9,.box b9 [.bool m2,.slice p2 u2 v2,.bool false,.slice x2 y2 z2] 141] λq' hq'=>?_;refine lR 2 0 ?_;refine l6 (i:=1) rfl (λw0 w' hok=>m6 w' (hok.mem 1 _ rfl) (hok.kle rfl rfl hk) hR13) ?_;rintro _ h14 _ ⟨rfl,hR14⟩;have hR14:G9 k h14 b (x8 (hi.1) [59]):=hR14;apply hq';refine nQ [.hp c0,.hp h14,.box rb (J1 b (kx) ad nd cd) 155,.box b3 [.slice a n c] 28,.box b4 [zs,iQ 0,zs,zl,zs,zl,zs,zs] 74,.box b5 [iQ n] 3,.box b6 [.func (.func 173) #[] #[pQ b3]] 110,.box b7 [sv A.2,iQ op9,sv f9.1,.slice a9 n9 c9,sv fac9,.slice a8 n8 c8,sv lo.2,sv hi.2] 74,.hp H9,.hp g8,.box b8 [.bool m1,.slice p1 u1 v1,.bool false,.slice x1 y1 z1] 141,.hp g9,.box b9 [.bool m2,.slice p2 u2 v2,.bool false,.slice x2 y2 z2] 141] λq' hq'=>?_;apply hq';rw[eF (hi.1) (by rw[if_neg (λc=>s4 (fL.2 c.2.2))])]
     rotate_left
     focus
      refine nQ [.hp c0,.hp h13,.box rb (J1 b (kx) ad nd cd) 155,.box b3 [.slice a n c] 28,.box b4 [zs,iQ 0,zs,zl,zs,zl,zs,zs] 74,.box b5 [iQ n] 3,.box b6 [.func (.func 173) #[] #[pQ b3]] 110,.box b7 [sv A.2,iQ op9,sv f9.1,.slice a9 n9 c9,sv fac9,.slice a8 n8 c8,sv lo.2,sv hi.2] 74,.hp H9] λq' hq'=>?_;refine lR 2 0 ?_;refine l6 (i:=1) rfl (λw0 w' hok=>m6 w' (hok.mem 1 _ rfl) (hok.kle rfl rfl hk) hR13) ?_;rintro _ h14 _ ⟨rfl,hR14⟩;have hR14:G9 k h14 b (x8 (hi.1) [59]):=hR14;apply hq';refine nQ [.hp c0,.hp h14,.box rb (J1 b (kx) ad nd cd) 155,.box b3 [.slice a n c] 28,.box b4 [zs,iQ 0,zs,zl,zs,zl,zs,zs] 74,.box b5 [iQ n] 3,.box b6 [.func (.func 173) #[] #[pQ b3]] 110,.box b7 [sv A.2,iQ op9,sv f9.1,.slice a9 n9 c9,sv fac9,.slice a8 n8 c8,sv lo.2,sv hi.2] 74,.hp H9] λq' hq'=>?_;apply hq';rw[eF (hi.1) (by rw[if_neg (λc=>by rw[s3] at c;cases c.2.1)])]
     all_goals
      exact⟨h14,[.box rb (J1 b kx ad nd cd) 155,.hp H9],⟨_,_,rfl,⟨_,rfl,rfl,⟨[iQ op9,sv f9.1,.slice a9 n9 c9,sv fac9,.slice a8 n8 c8],rfl,hE9⟩⟩,⟨kx,rfl⟩,hR14⟩,pk [0,1,2,8]⟩
    focus
     apply hq';refine dQ rfl ?_;refine nQ [.hp c0,.hp h13,.box rb (J1 b (kx) ad nd cd) 155,.box b3 [.slice a n c] 28,.box b4 [zs,iQ 0,zs,zl,zs,zl,zs,zs] 74,.box b5 [iQ n] 3,.box b6 [.func (.func 173) #[] #[pQ b3]] 110,.box b7 [sv A.2,iQ op9,sv f9.1,.slice a9 n9 c9,sv fac9,.slice a8 n8 c8,sv lo.2,sv hi.2] 74,.hp H9] λq' hq'=>?_;refine lR 2 0 ?_;refine l6 (i:=1) rfl (λw0 w' hok=>m6 w' (hok.mem 1 _ rfl) (hok.kle rfl rfl hk) hR13) ?_;rintro _ h14 _ ⟨rfl,hR14⟩;have hR14:G9 k h14 b (x8 (hi.1) [59]):=hR14;apply hq';refine nQ [.hp c0,.hp h14,.box rb (J1 b (kx) ad nd cd) 155,.box b3 [.slice a n c] 28,.box b4 [zs,iQ 0,zs,zl,zs,zl,zs,zs] 74,.box b5 [iQ n] 3,.box b6 [.func (.func 173) #[] #[pQ b3]] 110,.box b7 [sv A.2,iQ op9,sv f9.1,.slice a9 n9 c9,sv fac9,.slice a8 n8 c8,sv lo.2,sv hi.2] 74,.hp H9] λq' hq'=>?_;apply hq';rw[eF (hi.1) (by rw[if_neg (λc=>s2 c.1.2)])]
   rotate_left
   focus
    apply hq';refine dQ rfl ?_;refine nQ [.hp c0,.hp h13,.box rb (J1 b (kx) ad nd cd) 155,.box b3 [.slice a n c] 28,.box b4 [zs,iQ 0,zs,zl,zs,zl,zs,zs] 74,.box b5 [iQ n] 3,.box b6 [.func (.func 173) #[] #[pQ b3]] 110,.box b7 [sv A.2,iQ op9,sv f9.1,.slice a9 n9 c9,sv fac9,.slice a8 n8 c8,sv lo.2,sv hi.2] 74,.hp H9] λq' hq'=>?_;refine lR 2 0 ?_;refine l6 (i:=1) rfl (λw0 w' hok=>m6 w' (hok.mem 1 _ rfl) (hok.kle rfl rfl hk) hR13) ?_;rintro _ h14 _ ⟨rfl,hR14⟩;have hR14:G9 k h14 b (x8 (hi.1) [59]):=hR14;apply hq';refine nQ [.hp c0,.hp h14,.box rb (J1 b (kx) ad nd cd) 155,.box b3 [.slice a n c] 28,.box b4 [zs,iQ 0,zs,zl,zs,zl,zs,zs] 74,.box b5 [iQ n] 3,.box b6 [.func (.func 173) #[] #[pQ b3]] 110,.box b7 [sv A.2,iQ op9,sv f9.1,.slice a9 n9 c9,sv fac9,.slice a8 n8 c8,sv lo.2,sv hi.2] 74,.hp H9] λq' hq'=>?_;apply hq';rw[eF (hi.1) (by rw[if_neg (λc=>s1 c.1.1)])]
   all_goals
    exact⟨h14,[.box rb (J1 b kx ad nd cd) 155,.hp H9],⟨_,_,rfl,⟨_,rfl,rfl,⟨[iQ op9,sv f9.1,.slice a9 n9 c9,sv fac9,.slice a8 n8 c8],rfl,hE9⟩⟩,⟨kx,rfl⟩,hR14⟩,pk [0,1,2,8]⟩
  focus
   have hR12:G9 k h12 b lo.1:=by unfold U5 at hR12;rw[if_neg (by rw[ghi];decide)] at hR12;exact hR12
   rw[if_neg (by rw[ghi];decide)] at hhi;have hi1:hi.1=lo.1:=by rw[hhi]
   have hi2:hi.2 = []:=by rw[hhi]
   rw[<-hi1] at hR12;refine X9 [.hp c0,.hp h12,.box rb (J1 b (kx) ad nd cd) 155,.box b3 [.slice a n c] 28,.box b4 [zs,iQ 0,zs,zl,zs,zl,zs,zs] 74,.box b5 [iQ n] 3,.box b6 [.func (.func 173) #[] #[pQ b3]] 110,.box b7 [sv A.2,iQ op9,sv f9.1,.slice a9 n9 c9,sv fac9,.slice a8 n8 c8,sv lo.2,sv hi.2] 74,.hp H9] (by rw[hi2];first | done | rfl) ?_
 rotate_left
 focus
  have hR10:G9 k h10 b E.1:=by unfold U5 at hR10;rw[if_neg (by rw[glo];decide)] at hR10;exact hR10
  rw[if_neg (by rw[glo];decide)] at hlo;have lo1:lo.1=E.1:=by rw[hlo]
  have lo2:lo.2 = []:=by rw[hlo]
  rw[<-lo1] at hR10;refine X9 [.hp c0,.hp h10,.box rb (J1 b (kx) ad nd cd) 155,.box b3 [.slice a n c] 28,.box b4 [zs,iQ 0,zs,zl,zs,zl,zs,zs] 74,.box b5 [iQ n] 3,.box b6 [.func (.func 173) #[] #[pQ b3]] 110,.box b7 [sv A.2,iQ op9,sv f9.1,.slice a9 n9 c9,sv fac9,.slice a8 n8 c8,sv lo.2,zs] 74,.hp H9] (by rw[lo2];first | done | rfl) ?_;refine o7 λq' hq'=>?_;refine lR 2 0 ?_;refine l6 (i:=1) rfl (λw0 w' hok=>cN (s:=YO) w' (hok.mem 1 _ rfl) (hok.kle rfl rfl hk) hR10) ?_;rintro _ h11 _ ⟨rfl,rfl,hR11⟩;obtain⟨hi,hhi⟩ :∃x,x=(if aA lo.1 YO=true then R6 (E5 lo.1) else (lo.1,[])):=⟨_,rfl⟩
  have hhi0:=hhi;apply hq';refine s8 (λghi=>?_) λghi=>?_;focus
   have hR11:G9 k h11 b (E5 lo.1):=by unfold U5 at hR11;rw[if_pos ghi] at hR11;exact hR11
   rw[if_pos ghi] at hhi;refine nQ [.hp c0,.hp h11,.box rb (J1 b (kx) ad nd cd) 155,.box b3 [.slice a n c] 28,.box b4 [zs,iQ 0,zs,zl,zs,zl,zs,zs] 74,.box b5 [iQ n] 3,.box b6 [.func (.func 173) #[] #[pQ b3]] 110,.box b7 [sv A.2,iQ op9,sv f9.1,.slice a9 n9 c9,sv fac9,.slice a8 n8 c8,sv lo.2,zs] 74,.hp H9] λq' hq'=>?_;refine l6 (i:=1) rfl (λw0 w' hok=>W5 w' (hok.mem 1 _ rfl) (DR.mk (hk.trans (hok.le01 rfl rfl)) hR11 (hok.bx1 (j:=2) (n:=0) rfl rfl dc rfl))) ?_;rintro _ h12 _ ⟨rfl,rfl,hR12⟩;have hR12:G9 k h12 b ((R6 (E5 lo.1)).1):=hR12;rw[<-hhi] at hR12 ⊢;apply hq';refine X9 [.hp c0,.hp h12,.box rb (J1 b (kx) ad nd cd) 155,.box b3 [.slice a n c] 28,.box b4 [zs,iQ 0,zs,zl,zs,zl,zs,zs] 74,.box b5 [iQ n] 3,.box b6 [.func (.func 173) #[] #[pQ b3]] 110,.box b7 [sv A.2,iQ op9,sv f9.1,.slice a9 n9 c9,sv fac9,.slice a8 n8 c8,sv lo.2,sv hi.2] 74,.hp H9] rfl ?_
  rotate_left
  ·have hR11:G9 k h11 b lo.1:=by unfold U5 at hR11;rw[if_neg (by rw[ghi];decide)] at hR11;exact hR11
   rw[if_neg (by rw[ghi];decide)] at hhi;have hi1:hi.1=lo.1:=by rw[hhi]
   have hi2:hi.2 = []:=by rw[hhi]
   rw[<-hi1] at hR11;refine X9 [.hp c0,.hp h11,.box rb (J1 b (kx) ad nd cd) 155,.box b3 [.slice a n c] 28,.box b4 [zs,iQ 0,zs,zl,zs,zl,zs,zs] 74,.box b5 [iQ n] 3,.box b6 [.func (.func 173) #[] #[pQ b3]] 110,.box b7 [sv A.2,iQ op9,sv f9.1,.slice a9 n9 c9,sv fac9,.slice a8 n8 c8,sv lo.2,sv hi.2] 74,.hp H9] (by rw[hi2];first | done | rfl) ?_;refine o7 λq' hq'=>?_;have eF :∀R9,R9=(if (lo.2≠[]/\hi.2≠[])/\aA hi.1 [59]=true/\dF hi.2*dG lo.2 < dF lo.2*dG hi.2 then y7 hi.1 8 else hi.1)->rH names dims r=(x8 R9 [59],(A.2,E.2.2,lo.2,hi.2)):=by
    rintro _ rfl;unfold rH;dsimp only;rw[<-er2,<-hA,<-er4,<-hE,<-hlo0,<-hhi0]
   refine cG (b:=[]) ?_;refine d8 (λs1=>?_) λs1=>?_;focus
    refine cG (b:=[]) ?_;refine d8 (λs2=>?_) λs2=>?_
    ·refine lR 2 0 ?_;refine k7 _ (λw' hm=>S0 w' (hm 1 _ rfl) (hk.trans (hm 0 _ rfl).whole) hR11) ?_;apply hq';refine s8 (λs3=>?_) λs3=>?_;focus
      have h0:hi.1.e=0:=(S2 s3).1;have gL:Y3 lo.1:=by rw[hlo0];exact A7.good (A7.opt E.1 xN) gE
      have nH:I7 hi.2=0:=by
       rw[hhi0] at h0 s2 ⊢;split at h0
       ·rename_i q;rw[if_pos q];exact nF (A7.good (A7.next _) gL) h0
       ·rename_i q;rw[if_neg q] at s2;exact absurd rfl s2
      have l0:lo.1.e=0:=A7.ok (by rw[hhi0];exact A7.opt lo.1 YO) h0;have nL:I7 lo.2=0:=by
       rw[hlo0] at l0 s1 ⊢;split at l0
       ·rename_i q;rw[if_pos q];exact nF (A7.good (A7.next _) gE) l0
       ·rename_i q;rw[if_neg q] at s1;exact absurd rfl s1
      have lnL:=Q2 nL;have lnH:=Q2 nH;refine nQ [.hp c0,.hp h11,.box rb (J1 b (kx) ad nd cd) 155,.box b3 [.slice a n c] 28,.box b4 [zs,iQ 0,zs,zl,zs,zl,zs,zs] 74,.box b5 [iQ n] 3,.box b6 [.func (.func 173) #[] #[pQ b3]] 110,.box b7 [sv A.2,iQ op9,sv f9.1,.slice a9 n9 c9,sv fac9,.slice a8 n8 c8,sv lo.2,sv hi.2] 74,.hp H9] λq' hq'=>?_;refine call (λw' hm=>fE lo.2 om w') ?_;rintro _ _ ⟨g8,rfl,hRat1⟩;obtain⟨⟨m1,⟨p1,u1,v1⟩,⟨x1,y1,z1⟩⟩,rfl,hS1⟩:=eW hRat1 nL;intro b8;apply hq';refine nQ [.hp c0,.hp h11,.box rb (J1 b (kx) ad nd cd) 155,.box b3 [.slice a n c] 28,.box b4 [zs,iQ 0,zs,zl,zs,zl,zs,zs] 74,.box b5 [iQ n] 3,.box b6 [.func (.func 173) #[] #[pQ b3]] 110,.box b7 [sv A.2,iQ op9,sv f9.1,.slice a9 n9 c9,sv fac9,.slice a8 n8 c8,sv lo.2,sv hi.2] 74,.hp H9,.hp g8,.box b8 [.bool m1,.slice p1 u1 v1,.bool false,.slice x1 y1 z1] 141] λq' hq'=>?_;refine call (λw' hm=>fE hi.2 om w') ?_;rintro _ _ ⟨g9,rfl,hRat2⟩;obtain⟨⟨m2,⟨p2,u2,v2⟩,⟨x2,y2,z2⟩⟩,rfl,hS2⟩:=eW hRat2 nH;intro b9;obtain⟨X1,Y1,q1,q2,q3⟩:=hS1;obtain⟨X2,Y2,w1,w2,w3⟩:=hS2;apply hq';refine nQ [.hp c0,.hp h11,.box rb (J1 b (kx) ad nd cd) 155,.box b3 [.slice a n c] 28,.box b4 [zs,iQ 0,zs,zl,zs,zl,zs,zs] 74,.box b5 [iQ n] 3,.box b6 [.func (.func 173) #[] #[pQ b3]] 110,.box b7 [sv A.2,iQ op9,sv f9.1,.slice a9 n9 c9,sv fac9,.slice a8 n8 c8,sv lo.2,sv hi.2] 74,.hp H9,.hp g8,.box b8 [.bool m1,.slice p1 u1 v1,.bool false,.slice x1 y1 z1] 141,.hp g9,.box b9 [.bool m2,.slice p2 u2 v2,.bool false,.slice x2 y2 z2] 141] λq' hq'=>?_;refine k7 _ (λw' hm=>cS w' (q1.mono (hm 9 _ rfl).whole) (w1.mono (hm 11 _ rfl).whole)) ?_;rw[q2,q3,w2,w3];apply hq';refine d8 (λs4=>?_) λs4=>?_
      ·refine nQ [.hp c0,.hp h11,.box rb (J1 b (kx) ad nd cd) 155,.box b3 [.slice a n c] 28,.box b4 [zs,iQ 0,zs,zl,zs,zl,zs,zs] 74,.box b5 [iQ n] 3,.box b6 [.func (.func 173) #[] #[pQ b3]] 110,.box b7 [sv A.2,iQ op9,sv f9.1,.slice a9 n9 c9,sv fac9,.slice a8 n8 c8,sv lo.2,sv hi.2] 74,.hp H9,.hp g8,.box b8 [.bool m1,.slice p1 u1 v1,.bool false,.slice x1 y1 z1] 141,.hp g9,.box b9 [.bool m2,.slice p2 u2 v2,.bool false,.slice x2 y2 z2] 141] λq' hq'=>?_;refine lR 2 0 ?_;refine l6 (i:=1) rfl (λw0 w' hok=>G8 w' (hok.mem 1 _ rfl) (hok.kle rfl rfl hk) hR11) ?_;rintro _ h12 _ ⟨rfl,hR12⟩;have hR12:G9 k h12 b (y7 hi.1 8):=hR12;apply hq';refine nQ [.hp c0,.hp h12,.box rb (J1 b (kx) ad nd cd) 155,.box b3 [.slice a n c] 28,.box b4 [zs,iQ 0,zs,zl,zs,zl,zs,zs] 74,.box b5 [iQ n] 3,.box b6 [.func (.func 173) #[] #[pQ b3]] 110,.box b7 [sv A.2,iQ op9,sv f9.1,.slice a9 n9 c9,sv fac9,.slice a8 n8 c8,sv lo.2,sv hi.2] 74,.hp H9,.hp g8,.box b8 [.bool m1,.slice p1 u1 v1,.bool false,.slice x1 y1 z1] 141,.hp g9,.box b9 [.bool m2,.slice p2 u2 v2,.bool false,.slice x2 y2 z2] 141] λq' hq'=>?_;refine lR 2 0 ?_;refine l6 (i:=1) rfl (λw0 w' hok=>m6 w' (hok.mem 1 _ rfl) (hok.kle rfl rfl hk) hR12) ?_;rintro _ h13 _ ⟨rfl,hR13⟩;have hR13:G9 k h13 b (x8 (y7 hi.1 8) [59]):=hR13;apply hq';refine nQ [.hp c0,.hp h13,.box rb (J1 b (kx) ad nd cd) 155,.box b3 [.slice a n c] 28,.box b4 [zs,iQ 0,zs,zl,zs,zl,zs,zs] 74,.box b5 [iQ n] 3,.box b6 [.func (.func 173) #[] #[pQ b3]] 110,.box b7 [sv A.2,iQ op9,sv f9.1,.slice a9 n9 c9,sv fac9,.slice a8 n8 c8,sv lo.2,sv hi.2] 74,.hp H9,.hp g8,.box b8 [.bool m1,.slice p1 u1 v1,.bool false,.slice x1 y1 z1] 141,.hp g9,.box b9 [.bool m2,.slice p2 u2 v2,.bool false,.slice x2 y2 z2] 141] λq' hq'=>?_;apply hq';rw[eF (y7 hi.1 8) (by rw[if_pos ⟨⟨s1,s2⟩,s3,fL.1 s4⟩])];exact⟨h13,[.box rb (J1 b kx ad nd cd) 155,.hp H9],⟨_,_,rfl,⟨_,rfl,rfl,⟨[iQ op9,sv f9.1,.slice a9 n9 c9,sv fac9,.slice a8 n8 c8],rfl,hE9⟩⟩,⟨kx,rfl⟩,hR13⟩,pk [0,1,2,8]⟩
      focus
       refine nQ [.hp c0,.hp h11,.box rb (J1 b (kx) ad nd cd) 155,.box b3 [.slice a n c] 28,.box b4 [zs,iQ 0,zs,zl,zs,zl,zs,zs] 74,.box b5 [iQ n] 3,.box b6 [.func (.func 173) #[] #[pQ b3]] 110,.box b7 [sv A.2,iQ op9,sv f9.1,.slice a9 n9 c9,sv fac9,.slice a8 n8 c8,sv lo.2,sv hi.2] 74,.hp H9,.hp g8,.box b8 [.bool m1,.slice p1 u1 v1,.bool false,.slice x1 y1 z1] 141,.hp g9,.box b9 [.bool m2,.slice p2 u2 v2,.bool false,.slice x2 y2 z2] 141] λq' hq'=>?_;refine lR 2 0 ?_;refine l6 (i:=1) rfl (λw0 w' hok=>m6 w' (hok.mem 1 _ rfl) (hok.kle rfl rfl hk) hR11) ?_;rintro _ h12 _ ⟨rfl,hR12⟩;have hR12:G9 k h12 b (x8 (hi.1) [59]):=hR12;apply hq';refine nQ [.hp c0,.hp h12,.box rb (J1 b (kx) ad nd cd) 155,.box b3 [.slice a n c] 28,.box b4 [zs,iQ 0,zs,zl,zs,zl,zs,zs] 74,.box b5 [iQ n] 3,.box b6 [.func (.func 173) #[] #[pQ b3]] 110,.box b7 [sv A.2,iQ op9,sv f9.1,.slice a9 n9 c9,sv fac9,.slice a8 n8 c8,sv lo.2,sv hi.2] 74,.hp H9,.hp g8,.box b8 [.bool m1,.slice p1 u1 v1,.bool false,.slice x1 y1 z1] 141,.hp g9,.box b9 [.bool m2,.slice p2 u2 v2,.bool false,.slice x2 y2 z2] 141] λq' hq'=>?_;apply hq';rw[eF (hi.1) (by rw[if_neg (λc=>s4 (fL.2 c.2.2))])]
     rotate_left
     focus
      refine nQ [.hp c0,.hp h11,.box rb (J1 b (kx) ad nd cd) 155,.box b3 [.slice a n c] 28,.box b4 [zs,iQ 0,zs,zl,zs,zl,zs,zs] 74,.box b5 [iQ n] 3,.box b6 [.func (.func 173) #[] #[pQ b3]] 110,.box b7 [sv A.2,iQ op9,sv f9.1,.slice a9 n9 c9,sv fac9,.slice a8 n8 c8,sv lo.2,sv hi.2] 74,.hp H9] λq' hq'=>?_;refine lR 2 0 ?_;refine l6 (i:=1) rfl (λw0 w' hok=>m6 w' (hok.mem 1 _ rfl) (hok.kle rfl rfl hk) hR11) ?_;rintro _ h12 _ ⟨rfl,hR12⟩;have hR12:G9 k h12 b (x8 (hi.1) [59]):=hR12;apply hq';refine nQ [.hp c0,.hp h12,.box rb (J1 b (kx) ad nd cd) 155,.box b3 [.slice a n c] 28,.box b4 [zs,iQ 0,zs,zl,zs,zl,zs,zs] 74,.box b5 [iQ n] 3,.box b6 [.func (.func 173) #[] #[pQ b3]] 110,.box b7 [sv A.2,iQ op9,sv f9.1,.slice a9 n9 c9,sv fac9,.slice a8 n8 c8,sv lo.2,sv hi.2] 74,.hp H9] λq' hq'=>?_;apply hq';rw[eF (hi.1) (by rw[if_neg (λc=>by rw[s3] at c;cases c.2.1)])]
     all_goals
      exact⟨h12,[.box rb (J1 b kx ad nd cd) 155,.hp H9],⟨_,_,rfl,⟨_,rfl,rfl,⟨[iQ op9,sv f9.1,.slice a9 n9 c9,sv fac9,.slice a8 n8 c8],rfl,hE9⟩⟩,⟨kx,rfl⟩,hR12⟩,pk [0,1,2,8]⟩
    focus
     apply hq';refine dQ rfl ?_;refine nQ [.hp c0,.hp h11,.box rb (J1 b (kx) ad nd cd) 155,.box b3 [.slice a n c] 28,.box b4 [zs,iQ 0,zs,zl,zs,zl,zs,zs] 74,.box b5 [iQ n] 3,.box b6 [.func (.func 173) #[] #[pQ b3]] 110,.box b7 [sv A.2,iQ op9,sv f9.1,.slice a9 n9 c9,sv fac9,.slice a8 n8 c8,sv lo.2,sv hi.2] 74,.hp H9] λq' hq'=>?_;refine lR 2 0 ?_;refine l6 (i:=1) rfl (λw0 w' hok=>m6 w' (hok.mem 1 _ rfl) (hok.kle rfl rfl hk) hR11) ?_;rintro _ h12 _ ⟨rfl,hR12⟩;have hR12:G9 k h12 b (x8 (hi.1) [59]):=hR12;apply hq';refine nQ [.hp c0,.hp h12,.box rb (J1 b (kx) ad nd cd) 155,.box b3 [.slice a n c] 28,.box b4 [zs,iQ 0,zs,zl,zs,zl,zs,zs] 74,.box b5 [iQ n] 3,.box b6 [.func (.func 173) #[] #[pQ b3]] 110,.box b7 [sv A.2,iQ op9,sv f9.1,.slice a9 n9 c9,sv fac9,.slice a8 n8 c8,sv lo.2,sv hi.2] 74,.hp H9] λq' hq'=>?_;apply hq';rw[eF (hi.1) (by rw[if_neg (λc=>s2 c.1.2)])]
   rotate_left
   focus
    apply hq';refine dQ rfl ?_;refine nQ [.hp c0,.hp h11,.box rb (J1 b (kx) ad nd cd) 155,.box b3 [.slice a n c] 28,.box b4 [zs,iQ 0,zs,zl,zs,zl,zs,zs] 74,.box b5 [iQ n] 3,.box b6 [.func (.func 173) #[] #[pQ b3]] 110,.box b7 [sv A.2,iQ op9,sv f9.1,.slice a9 n9 c9,sv fac9,.slice a8 n8 c8,sv lo.2,sv hi.2] 74,.hp H9] λq' hq'=>?_;refine lR 2 0 ?_;refine l6 (i:=1) rfl (λw0 w' hok=>m6 w' (hok.mem 1 _ rfl) (hok.kle rfl rfl hk) hR11) ?_;rintro _ h12 _ ⟨rfl,hR12⟩;have hR12:G9 k h12 b (x8 (hi.1) [59]):=hR12;apply hq';refine nQ [.hp c0,.hp h12,.box rb (J1 b (kx) ad nd cd) 155,.box b3 [.slice a n c] 28,.box b4 [zs,iQ 0,zs,zl,zs,zl,zs,zs] 74,.box b5 [iQ n] 3,.box b6 [.func (.func 173) #[] #[pQ b3]] 110,.box b7 [sv A.2,iQ op9,sv f9.1,.slice a9 n9 c9,sv fac9,.slice a8 n8 c8,sv lo.2,sv hi.2] 74,.hp H9] λq' hq'=>?_;apply hq';rw[eF (hi.1) (by rw[if_neg (λc=>s1 c.1.1)])]
   all_goals
    exact⟨h12,[.box rb (J1 b kx ad nd cd) 155,.hp H9],⟨_,_,rfl,⟨_,rfl,rfl,⟨[iQ op9,sv f9.1,.slice a9 n9 c9,sv fac9,.slice a8 n8 c8],rfl,hE9⟩⟩,⟨kx,rfl⟩,hR12⟩,pk [0,1,2,8]⟩
 all_goals
  refine o7 λq' hq'=>?_;have eF :∀R9,R9=(if (lo.2≠[]/\hi.2≠[])/\aA hi.1 [59]=true/\dF hi.2*dG lo.2 < dF lo.2*dG hi.2 then y7 hi.1 8 else hi.1)->rH names dims r=(x8 R9 [59],(A.2,E.2.2,lo.2,hi.2)):=by
   rintro _ rfl;unfold rH;dsimp only;rw[<-er2,<-hA,<-er4,<-hE,<-hlo0,<-hhi0]
  refine cG (b:=[]) ?_;refine d8 (λs1=>?_) λs1=>?_;focus
   refine cG (b:=[]) ?_;refine d8 (λs2=>?_) λs2=>?_
   ·refine lR 2 0 ?_;refine k7 _ (λw' hm=>S0 w' (hm 1 _ rfl) (hk.trans (hm 0 _ rfl).whole) hR12) ?_;apply hq';refine s8 (λs3=>?_) λs3=>?_;focus
     have h0:hi.1.e=0:=(S2 s3).1;have gL:Y3 lo.1:=by rw[hlo0];exact A7.good (A7.opt E.1 xN) gE
     have nH:I7 hi.2=0:=by
      rw[hhi0] at h0 s2 ⊢;split at h0
      ·rename_i q;rw[if_pos q];exact nF (A7.good (A7.next _) gL) h0
      ·rename_i q;rw[if_neg q] at s2;exact absurd rfl s2
     have l0:lo.1.e=0:=A7.ok (by rw[hhi0];exact A7.opt lo.1 YO) h0;have nL:I7 lo.2=0:=by
      rw[hlo0] at l0 s1 ⊢;split at l0
      ·rename_i q;rw[if_pos q];exact nF (A7.good (A7.next _) gE) l0
      ·rename_i q;rw[if_neg q] at s1;exact absurd rfl s1
     have lnL:=Q2 nL;have lnH:=Q2 nH;refine nQ [.hp c0,.hp h12,.box rb (J1 b (kx) ad nd cd) 155,.box b3 [.slice a n c] 28,.box b4 [zs,iQ 0,zs,zl,zs,zl,zs,zs] 74,.box b5 [iQ n] 3,.box b6 [.func (.func 173) #[] #[pQ b3]] 110,.box b7 [sv A.2,iQ op9,sv f9.1,.slice a9 n9 c9,sv fac9,.slice a8 n8 c8,sv lo.2,sv hi.2] 74,.hp H9] λq' hq'=>?_;refine call (λw' hm=>fE lo.2 om w') ?_;rintro _ _ ⟨g8,rfl,hRat1⟩;obtain⟨⟨m1,⟨p1,u1,v1⟩,⟨x1,y1,z1⟩⟩,rfl,hS1⟩:=eW hRat1 nL;intro b8;apply hq';refine nQ [.hp c0,.hp h12,.box rb (J1 b (kx) ad nd cd) 155,.box b3 [.slice a n c] 28,.box b4 [zs,iQ 0,zs,zl,zs,zl,zs,zs] 74,.box b5 [iQ n] 3,.box b6 [.func (.func 173) #[] #[pQ b3]] 110,.box b7 [sv A.2,iQ op9,sv f9.1,.slice a9 n9 c9,sv fac9,.slice a8 n8 c8,sv lo.2,sv hi.2] 74,.hp H9,.hp g8,.box b8 [.bool m1,.slice p1 u1 v1,.bool false,.slice x1 y1 z1] 141] λq' hq'=>?_;refine call (λw' hm=>fE hi.2 om w') ?_;rintro _ _ ⟨g9,rfl,hRat2⟩;obtain⟨⟨m2,⟨p2,u2,v2⟩,⟨x2,y2,z2⟩⟩,rfl,hS2⟩:=eW hRat2 nH;intro b9;obtain⟨X1,Y1,q1,q2,q3⟩:=hS1;obtain⟨X2,Y2,w1,w2,w3⟩:=hS2;apply hq';refine nQ [.hp c0,.hp h12,.box rb (J1 b (kx) ad nd cd) 155,.box b3 [.slice a n c] 28,.box b4 [zs,iQ 0,zs,zl,zs,zl,zs,zs] 74,.box b5 [iQ n] 3,.box b6 [.func (.func 173) #[] #[pQ b3]] 110,.box b7 [sv A.2,iQ op9,sv f9.1,.slice a9 n9 c9,sv fac9,.slice a8 n8 c8,sv lo.2,sv hi.2] 74,.hp H9,.hp g8,.box b8 [.bool m1,.slice p1 u1 v1,.bool false,.slice x1 y1 z1] 141,.hp g9,.box b9 [.bool m2,.slice p2 u2 v2,.bool false,.slice x2 y2 z2] 141] λq' hq'=>?_;refine k7 _ (λw' hm=>cS w' (q1.mono (hm 9 _ rfl).whole) (w1.mono (hm 11 _ rfl).whole)) ?_;rw[q2,q3,w2,w3];apply hq';refine d8 (λs4=>?_) λs4=>?_
     ·refine nQ [.hp c0,.hp h12,.box rb (J1 b (kx) ad nd cd) 155,.box b3 [.slice a n c] 28,.box b4 [zs,iQ 0,zs,zl,zs,zl,zs,zs] 74,.box b5 [iQ n] 3,.box b6 [.func (.func 173) #[] #[pQ b3]] 110,.box b7 [sv A.2,iQ op9,sv f9.1,.slice a9 n9 c9,sv fac9,.slice a8 n8 c8,sv lo.2,sv hi.2] 74,.hp H9,.hp g8,.box b8 [.bool m1,.slice p1 u1 v1,.bool false,.slice x1 y1 z1] 141,.hp g9,.box b9 [.bool m2,.slice p2 u2 v2,.bool false,.slice x2 y2 z2] 141] λq' hq'=>?_;refine lR 2 0 ?_;refine l6 (i:=1) rfl (λw0 w' hok=>G8 w' (hok.mem 1 _ rfl) (hok.kle rfl rfl hk) hR12) ?_;rintro _ h13 _ ⟨rfl,hR13⟩;have hR13:G9 k h13 b (y7 hi.1 8):=hR13;apply hq';refine nQ [.hp c0,.hp h13,.box rb (J1 b (kx) ad nd cd) 155,.box b3 [.slice a n c] 28,.box b4 [zs,iQ 0,zs,zl,zs,zl,zs,zs] 74,.box b5 [iQ n] 3,.box b6 [.func (.func 173) #[] #[pQ b3]] 110,.box b7 [sv A.2,iQ op9,sv f9.1,.slice a9 n9 c9,sv fac9,.slice a8 n8 c8,sv lo.2,sv hi.2] 74,.hp H9,.hp g8,.box b8 [.bool m1,.slice p1 u1 v1,.bool false,.slice x1 y1 z1] 141,.hp g9,.box b9 [.bool m2,.slice p2 u2 v2,.bool false,.slice x2 y2 z2] 141] λq' hq'=>?_;refine lR 2 0 ?_;refine l6 (i:=1) rfl (λw0 w' hok=>m6 w' (hok.mem 1 _ rfl) (hok.kle rfl rfl hk) hR13) ?_;rintro _ h14 _ ⟨rfl,hR14⟩;have hR14:G9 k h14 b (x8 (y7 hi.1 8) [59]):=hR14;apply hq';refine nQ [.hp c0,.hp h14,.box rb (J1 b (kx) ad nd cd) 155,.box b3 [.slice a n c] 28,.box b4 [zs,iQ 0,zs,zl,zs,zl,zs,zs] 74,.box b5 [iQ n] 3,.box b6 [.func (.func 173) #[] #[pQ b3]] 110,.box b7 [sv A.2,iQ op9,sv f9.1,.slice a9 n9 c9,sv fac9,.slice a8 n8 c8,sv lo.2,sv hi.2] 74,.hp H9,.hp g8,.box b8 [.bool m1,.slice p1 u1 v1,.bool false,.slice x1 y1 z1] 141,.hp g9,.box b9 [.bool m2,.slice p2 u2 v2,.bool false,.slice x2 y2 z2] 141] λq' hq'=>?_;apply hq';rw[eF (y7 hi.1 8) (by rw[if_pos ⟨⟨s1,s2⟩,s3,fL.1 s4⟩])];exact⟨h14,[.box rb (J1 b kx ad nd cd) 155,.hp H9],⟨_,_,rfl,⟨_,rfl,rfl,⟨[iQ op9,sv f9.1,.slice a9 n9 c9,sv fac9,.slice a8 n8 c8],rfl,hE9⟩⟩,⟨kx,rfl⟩,hR14⟩,pk [0,1,2,8]⟩
     focus
      refine nQ [.hp c0,.hp h12,.box rb (J1 b (kx) ad nd cd) 155,.box b3 [.slice a n c] 28,.box b4 [zs,iQ 0,zs,zl,zs,zl,zs,zs] 74,.box b5 [iQ n] 3,.box b6 [.func (.func 173) #[] #[pQ b3]] 110,.box b7 [sv A.2,iQ op9,sv f9.1,.slice a9 n9 c9,sv fac9,.slice a8 n8 c8,sv lo.2,sv hi.2] 74,.hp H9,.hp g8,.box b8 [.bool m1,.slice p1 u1 v1,.bool false,.slice x1 y1 z1] 141,.hp g9,.box b9 [.bool m2,.slice p2 u2 v2,.bool false,.slice x2 y2 z2] 141] λq' hq'=>?_;refine lR 2 0 ?_;refine l6 (i:=1) rfl (λw0 w' hok=>m6 w' (hok.mem 1 _ rfl) (hok.kle rfl rfl hk) hR12) ?_;rintro _ h13 _ ⟨rfl,hR13⟩;have hR13:G9 k h13 b (x8 (hi.1) [59]):=hR13;apply hq';refine nQ [.hp c0,.hp h13,.box rb (J1 b (kx) ad nd cd) 155,.box b3 [.slice a n c] 28,.box b4 [zs,iQ 0,zs,zl,zs,zl,zs,zs] 74,.box b5 [iQ n] 3,.box b6 [.func (.func 173) #[] #[pQ b3]] 110,.box b7 [sv A.2,iQ op9,sv f9.1,.slice a9 n9 c9,sv fac9,.slice a8 n8 c8,sv lo.2,sv hi.2] 74,.hp H9,.hp g8,.box b8 [.bool m1,.slice p1 u1 v1,.bool false,.slice x1 y1 z1] 141,.hp g9,.box b9 [.bool m2,.slice p2 u2 v2,.bool false,.slice x2 y2 z2] 141] λq' hq'=>?_;apply hq';rw[eF (hi.1) (by rw[if_neg (λc=>s4 (fL.2 c.2.2))])]
    rotate_left
    focus
     refine nQ [.hp c0,.hp h12,.box rb (J1 b (kx) ad nd cd) 155,.box b3 [.slice a n c] 28,.box b4 [zs,iQ 0,zs,zl,zs,zl,zs,zs] 74,.box b5 [iQ n] 3,.box b6 [.func (.func 173) #[] #[pQ b3]] 110,.box b7 [sv A.2,iQ op9,sv f9.1,.slice a9 n9 c9,sv fac9,.slice a8 n8 c8,sv lo.2,sv hi.2] 74,.hp H9] λq' hq'=>?_;refine lR 2 0 ?_;refine l6 (i:=1) rfl (λw0 w' hok=>m6 w' (hok.mem 1 _ rfl) (hok.kle rfl rfl hk) hR12) ?_;rintro _ h13 _ ⟨rfl,hR13⟩;have hR13:G9 k h13 b (x8 (hi.1) [59]):=hR13;apply hq';refine nQ [.hp c0,.hp h13,.box rb (J1 b (kx) ad nd cd) 155,.box b3 [.slice a n c] 28,.box b4 [zs,iQ 0,zs,zl,zs,zl,zs,zs] 74,.box b5 [iQ n] 3,.box b6 [.func (.func 173) #[] #[pQ b3]] 110,.box b7 [sv A.2,iQ op9,sv f9.1,.slice a9 n9 c9,sv fac9,.slice a8 n8 c8,sv lo.2,sv hi.2] 74,.hp H9] λq' hq'=>?_;apply hq';rw[eF (hi.1) (by rw[if_neg (λc=>by rw[s3] at c;cases c.2.1)])]
    all_goals
     exact⟨h13,[.box rb (J1 b kx ad nd cd) 155,.hp H9],⟨_,_,rfl,⟨_,rfl,rfl,⟨[iQ op9,sv f9.1,.slice a9 n9 c9,sv fac9,.slice a8 n8 c8],rfl,hE9⟩⟩,⟨kx,rfl⟩,hR13⟩,pk [0,1,2,8]⟩
   focus
    apply hq';refine dQ rfl ?_;refine nQ [.hp c0,.hp h12,.box rb (J1 b (kx) ad nd cd) 155,.box b3 [.slice a n c] 28,.box b4 [zs,iQ 0,zs,zl,zs,zl,zs,zs] 74,.box b5 [iQ n] 3,.box b6 [.func (.func 173) #[] #[pQ b3]] 110,.box b7 [sv A.2,iQ op9,sv f9.1,.slice a9 n9 c9,sv fac9,.slice a8 n8 c8,sv lo.2,sv hi.2] 74,.hp H9] λq' hq'=>?_;refine lR 2 0 ?_;refine l6 (i:=1) rfl (λw0 w' hok=>m6 w' (hok.mem 1 _ rfl) (hok.kle rfl rfl hk) hR12) ?_;rintro _ h13 _ ⟨rfl,hR13⟩;have hR13:G9 k h13 b (x8 (hi.1) [59]):=hR13;apply hq';refine nQ [.hp c0,.hp h13,.box rb (J1 b (kx) ad nd cd) 155,.box b3 [.slice a n c] 28,.box b4 [zs,iQ 0,zs,zl,zs,zl,zs,zs] 74,.box b5 [iQ n] 3,.box b6 [.func (.func 173) #[] #[pQ b3]] 110,.box b7 [sv A.2,iQ op9,sv f9.1,.slice a9 n9 c9,sv fac9,.slice a8 n8 c8,sv lo.2,sv hi.2] 74,.hp H9] λq' hq'=>?_;apply hq';rw[eF (hi.1) (by rw[if_neg (λc=>s2 c.1.2)])]
  rotate_left
  focus
   apply hq';refine dQ rfl ?_;refine nQ [.hp c0,.hp h12,.box rb (J1 b (kx) ad nd cd) 155,.box b3 [.slice a n c] 28,.box b4 [zs,iQ 0,zs,zl,zs,zl,zs,zs] 74,.box b5 [iQ n] 3,.box b6 [.func (.func 173) #[] #[pQ b3]] 110,.box b7 [sv A.2,iQ op9,sv f9.1,.slice a9 n9 c9,sv fac9,.slice a8 n8 c8,sv lo.2,sv hi.2] 74,.hp H9] λq' hq'=>?_;refine lR 2 0 ?_;refine l6 (i:=1) rfl (λw0 w' hok=>m6 w' (hok.mem 1 _ rfl) (hok.kle rfl rfl hk) hR12) ?_;rintro _ h13 _ ⟨rfl,hR13⟩;have hR13:G9 k h13 b (x8 (hi.1) [59]):=hR13;apply hq';refine nQ [.hp c0,.hp h13,.box rb (J1 b (kx) ad nd cd) 155,.box b3 [.slice a n c] 28,.box b4 [zs,iQ 0,zs,zl,zs,zl,zs,zs] 74,.box b5 [iQ n] 3,.box b6 [.func (.func 173) #[] #[pQ b3]] 110,.box b7 [sv A.2,iQ op9,sv f9.1,.slice a9 n9 c9,sv fac9,.slice a8 n8 c8,sv lo.2,sv hi.2] 74,.hp H9] λq' hq'=>?_;apply hq';rw[eF (hi.1) (by rw[if_neg (λc=>s1 c.1.1)])]
  all_goals
   exact⟨h13,[.box rb (J1 b kx ad nd cd) 155,.hp H9],⟨_,_,rfl,⟨_,rfl,rfl,⟨[iQ op9,sv f9.1,.slice a9 n9 c9,sv fac9,.slice a8 n8 c8],rfl,hE9⟩⟩,⟨kx,rfl⟩,hR13⟩,pk [0,1,2,8]⟩
end Go.Proofs.YtpjhmeicbjkcdaaGreatDoor
namespace Go.Proofs.YtpjhmeicbjkcdaaGreatDoor
open Go
theorem Hi {r:RS} {c m:Nat} (h:(J2 r c m).e=0):c < m:=by
 unfold J2 at h;split at h
 ·exact absurd h (bK r dc)
 ·omega
theorem UV (names:List e8) (r:RS):A7 (x8 (J2 r names.length 64) vC) (oB names r).1:=by
 unfold oB;dsimp only;exact (((((A7.nam _ _).trans (A7.exp _ _)).trans (A7.int _ _ _)).trans (A7.exp _ _)).trans (A7.cels _ _ _)).trans (A7.exp _ _)
theorem VT (parts names:List e8) (r:RS):A7 (x8 (J2 r names.length 12) vD) (BD parts names r).1:=by
 unfold BD;dsimp only;exact (((((((A7.nam _ _).trans (A7.exp _ _)).trans (A7.nam _ _)).trans (A7.exp _ _)).trans (A7.lst (λr=>A7.int r _ _) 4 _)).trans (A7.exp _ _)).trans (A7.lst A7.numb 3 _)).trans (A7.exp _ _)
theorem WU (names:List e8) (r:RS):A7 (x8 (J2 r names.length 64) qO) (BJ names r).1:=by
 unfold BJ wI;dsimp only;have h:=(((((((A7.nam (x8 (J2 r names.length 64) qO) (dY names)).trans (A7.exp _ [61])).trans (A7.int _ (-1073741824) 1073741824)).trans (A7.exp _ [91])).trans (A7.int _ (-1073741824) 1073741824)).trans (A7.exp _ [44])).trans (A7.int _ (-1073741824) 1073741824)).trans (A7.exp _ [93]);exact ((h.trans (A7.fail _ 8)).ite h).trans (A7.exp _ _)
theorem XF (names dims:List e8) (r:RS):A7 (x8 (J2 r names.length 64) qP) (wN names dims r).1:=by
 unfold wN;dsimp only;have h:=(((A7.nam (x8 (J2 r names.length 64) qP) (dY names)).trans (A7.exp _ [58])).trans (A7.for dims _)).trans (A7.exp _ [60,61]);exact (((h.trans (A7.fail _ 14)).ite h).trans (A7.next _)).trans (A7.exp _ _)
theorem UA (names dims:List e8) (r:RS):A7 (x8 (J2 r names.length 64) qN) (rH names dims r).1:=by
 unfold rH;dsimp only;have h:=((((A7.nam (x8 (J2 r names.length 64) qN) (dY names)).trans (A7.exp _ [58])).trans (A7.expr dims 8 _ 0)).trans (A7.opt _ xN)).trans (A7.opt _ YO);exact ((h.trans (A7.fail _ 8)).ite h).trans (A7.exp _ _)
structure JG {α:Type} (w:e8) (tk:List α->RS->RS×α) (m:Nat) (tot:RS×List α) (r:RS) (out:List α):Prop where
 t :∃f,J5 r<=f/\pF w tk f r out=tot
 l:out.length<=m+1
 k:r.e=0->out.length<=m
 g:Y3 r
section
variable {α:Type} {w:e8} {tk:List α->RS->RS×α} {m:Nat} {tot:RS×List α} {r:RS} {out:List α}
theorem JG.zero (g:Y3 r):JG w tk m (pF w tk (J5 r) r []) r []:=⟨⟨J5 r,k8 _,rfl⟩,f8 _,λ_=>f8 _,g⟩
theorem JG.next (ht:A7 (x8 (J2 r out.length m) w) (tk out r).1) (h:JG w tk m tot r out) (hi:aA r w=true):JG w tk m tot (tk out r).1 (out++[(tk out r).2])/\J5 (tk out r).1 < J5 r:=by
 have h0:=(S2 hi).1;have hlt:J5 (tk out r).1 < J5 r:=s7 ht.rem (pE h.g.l hi);have hm:=h.k h0;obtain⟨f,hf,e⟩:=h.t;have ha:A7 r (tk out r).1:=((A7.lim r _ _).trans (A7.exp _ _)).trans ht;refine⟨⟨?_,by rw[d6];simp only[d7,d9];omega,λe0=>?_,ha.good h.g⟩,hlt⟩
 ·cases f with
  | zero=>exact absurd hf om
  | succ f=>
   refine⟨f,om,?_⟩;rw[<-e];conv=>rhs;unfold pF
   rw[if_pos hi]
 ·have:=Hi ((A7.exp _ w).ok (ht.ok e0));rw[d6];simp only[d7,d9];omega
theorem JG.done (h:JG w tk m tot r out) (hi:aA r w=false):tot=(r,out):=by
 obtain⟨f,hf,e⟩:=h.t;rw[<-e];cases f with
 | zero=>rfl
 | succ f=>unfold pF;rw[if_neg (by rw[hi];decide)]
end
end Go.Proofs.YtpjhmeicbjkcdaaGreatDoor
namespace Go.Dw
open Go Go.RowKit
theorem Ok.leI {w0 w:World} {s:List Ch} (hok:Ok w0 s w) {i j:Nat} {h:Hp} {x:Ch} (hne:j≠i) (hj:m8 s j=some x) (hi:m8 s i=some (.hp h)):x.h.le ((Hp.whole w).minus h):=
 Hp.le_minus (hok.mem j _ hj).whole (hok.disj j i _ _ hne hj hi)
end Go.Dw
namespace Go.Proofs.YtpjhmeicbjkcdaaGreatDoor
open Go Go.RowKit Go.Dw
theorem KR {k h:Hp} {rb b:Nat} {r:RS} {a:Option Addr} {n c:Nat} {L:List W3} (w:World) (hin:h.In w) (hd:DR ((Hp.whole w).minus h) k h rb b r) (hL:Sl bN 3 ((Hp.whole w).minus h) a n c L) (hn:L.length < 1000000) :
  j6 Tryz.prog 80 #[pQ rb,.slice a n c] w (O6 w h λv h' cs=>∃H a9 n9 c9,cs = [.hp H]/\(v=.agg #[sv (oB (L.map λx:W3=>x.1) r).2.1,iQ (oB (L.map λx:W3=>x.1) r).2.2.1,.slice a9 n9 c9]/\Sl pN 1 H a9 n9 c9 (oB (L.map λx:W3=>x.1) r).2.2.2/\G9 k h' b (oB (L.map λx:W3=>x.1) r).1)):=by
 have h0:=GV w hin hd hL hn;refine⟨h0.1,h0.2.mono λe w' he=>?_⟩;obtain⟨v,h',cs,rfl,hok,o,H,rfl,rfl,hG,hR⟩:=he;have hdj:H.dj o.h:=hok.disj 2 3 _ _ dc rfl rfl;exact⟨_,h',[.hp (H.join o.h)],rfl,(Ok.join (hok.pick [0,2,3,1] rfl rfl)).pick [0,2,1] rfl rfl,H.join o.h,o.a,o.n,o.c,rfl,rfl,hG.sl S6 dc (Hp.le_join_l _ _) (Hp.le_join_r hdj),hR⟩
def UT:jL:=⟨[],[],[],[],[],[]⟩
def pB (s:e8):jL×Int×Int×Int:=if (yN s).1.e≠0 then (UT,(yN s).1.ln,(yN s).1.co,(yN s).1.e) else ((yN s).2,0,0,0)
theorem Ec (d:Nat) (H:Hp):qB d H UT [zs,zl,zl,zl,zl,zl]:=
 ⟨⟨none,0,0,none,0,0,none,0,0,none,0,0,none,0,0,rfl,Sl.nil _ _ _ _ _,Sl.nil _ _ _ _ _,Sl.nil _ _ _ _ _,Sl.nil _ _ _ _ _,Sl.nil _ _ _ _ _⟩⟩
theorem UW (s:e8):Y3 (yV s):=Y3.new (tT s).1
set_option maxHeartbeats 4000000 in
set_option maxRecDepth 10000 in
theorem AO (s:e8) (w:World) (hT:kU (Hp.whole w)) :
  j6 Tryz.prog 22 #[sv s] w (fD w λv cs=>∃H xs,cs = [.hp H]/\v=.tuple #[.agg xs.toArray,iQ (pB s).2.1,iQ (pB s).2.2.1,iQ (pB s).2.2.2]/\xs.length=6/\qB 9 H (pB s).1 xs):=by
 refine enterZ (cx 125) [sv s] [.cell 2 30,.tmp 3,.tmp 4,.tmp 5] Tryz.func22 ?_;intro b2;refine o7 λq' hq'=>?_;apply hq';refine nQ [.hp (Hp.whole w),.box b2 [zs,zl,zl,zl,zl,zl] 30] λq' hq'=>?_;refine call (λw' hm=>XU s w' (hT.mono (hm 0 _ rfl).whole)) ?_;rintro _ _ ⟨b,h,k,rfl,rfl,hR⟩;obtain⟨r,hr⟩ :∃r,r=yV s:=⟨_,rfl⟩
 have hg:Y3 r:=by rw[hr];exact UW s
 rw[<-hr] at hR;intro rb;apply hq';refine nQ [.hp (Hp.whole w),.box b2 [zs,zl,zl,zl,zl,zl] 30,.hp h,.hp k,.box rb [pQ b,zl,iQ 0] 155] λq' hq'=>?_;refine l6 (i:=2) rfl (λw0 w' hok=>m6 w' (hok.mem 2 _ rfl) (hok.leI (i:=2) (j:=3) dc rfl rfl) hR) ?_;rintro _ h1 _ ⟨rfl,hR1⟩;have hR1:G9 k h1 b (x8 r NF):=hR1;obtain⟨r1,er1⟩ :∃x,x=x8 r NF:=⟨_,rfl⟩
 rw[<-er1] at hR1;apply hq';refine nQ [.hp (Hp.whole w),.box b2 [zs,zl,zl,zl,zl,zl] 30,.hp h1,.hp k,.box rb [pQ b,zl,iQ 0] 155] λq' hq'=>?_;refine l6 (i:=2) rfl (λw0 w' hok=>P8 (cap:=[]) (chk:=λ_=>0) w' (hok.mem 2 _ rfl) (DR.mk (hok.leI (i:=2) (j:=3) dc rfl rfl) hR1 ((hok.leI (i:=2) (j:=4) dc rfl rfl).cell (J3 rb _ rfl))) (λw1 hi1 s _=>BN s w1)) ?_;rintro _ h2 _ ⟨rfl,rfl,hR2⟩;obtain⟨A,hA⟩ :∃x,x=P2 r1 (λ_=>0):=⟨_,rfl⟩
 rw[<-hA] at hR2 ⊢;apply hq';refine nQ [.hp (Hp.whole w),.box b2 [sv A.2,zl,zl,zl,zl,zl] 30,.hp h2,.hp k,.box rb [pQ b,zl,iQ 0] 155] λq' hq'=>?_;refine l6 (i:=2) rfl (λw0 w' hok=>m6 w' (hok.mem 2 _ rfl) (hok.leI (i:=2) (j:=3) dc rfl rfl) hR2) ?_;rintro _ h3 _ ⟨rfl,hR3⟩;have hR3:G9 k h3 b (x8 A.1 [59]):=hR3;obtain⟨r3,er3⟩ :∃x,x=x8 A.1 [59]:=⟨_,rfl⟩
 rw[<-er3] at hR3;have g3:Y3 r3:=by
  rw[er3,hA,er1];exact A7.good (((A7.exp r NF).trans (A7.nam _ _)).trans (A7.exp _ _)) hg
 apply hq';obtain⟨tp,etp⟩ :∃x,x=pF vC (λout r=>oB (out.map (·.1)) r) (J5 r3) r3 []:=⟨_,rfl⟩
 refine u6.mkS (RS×List W3×Hp×Hp×Dw.Os) (λ_=>[(2,.bx 3 0),(6,.v (pQ rb))]) (λg=>[.hp (Hp.whole w),.hp g.2.2.1,.box rb [pQ b,zl,iQ 0] 155,.box b2 [sv A.2,g.2.2.2.2.v,zl,zl,zl,zl] 30,.hp k,.hp g.2.2.2.1,.hp g.2.2.2.2.h]) (λg=>G9 k g.2.2.1 b g.1/\JG vC (λout r=>oB (out.map (·.1)) r) 64 tp g.1 g.2.1/\aT bN 83 3 g.2.2.2.1 g.2.2.2.2 g.2.1) (λg=>J5 g.1) (r3,[],h3,Hp.emp,Dw.Os.nil) ⟨hR3,by rw[etp];exact JG.zero g3,aT.nil⟩ (v6.mk (λ_ _ h=>(h.pick [0,2,4,1,3] rfl rfl).emp.emp) rfl rfl) ?_;rintro⟨rr,out,hp,HHp,op⟩ ⟨hRp,hI,hGp⟩ hsat;dsimp only at hRp hI hGp ⊢;refine o7 λq' hq'=>?_;refine lR 2 0 ?_;refine k7 _ (λw' hm=>S0 (s:=vC) w' (hm 1 _ rfl) (hm 4 _ rfl).whole hRp) ?_;apply hq';refine s8 (λg1=>?_) λg1=>?_
 ·have hlo:out.length<=64:=hI.k (S2 g1).1;obtain⟨hI2,hlt⟩:=hI.next (by have:=UV (out.map (·.1)) rr;rw[l7] at this;exact this) g1;obtain⟨B,hB⟩ :∃x,x=oB (out.map (·.1)) rr:=⟨_,rfl⟩
  try dsimp only at hI2 hlt
  rw[<-hB] at hI2 hlt;refine s6.cut (Hp×Hp×Dw.Os) (λ_=>[(2,.bx 3 0),(6,.v (pQ rb))]) (λg=>[.hp (Hp.whole w),.hp g.1,.box rb [pQ b,zl,iQ 0] 155,.box b2 [sv A.2,g.2.2.v,zl,zl,zl,zl] 30,.hp k,.hp g.2.1,.hp g.2.2.h]) (λg=>G9 k g.1 b B.1/\aT bN 83 3 g.2.1 g.2.2 (out++[B.2])) (s6.by_order0 (s0:=[.hp (Hp.whole w),.hp Hp.emp,.box rb [pQ b,zl,iQ 0] 155,.box b2 [sv A.2,op.v,zl,zl,zl,zl] 30,.hp k,.hp HHp,.hp Hp.emp]) cQ (.take 0 <| .take 1 <| .take 2 <| .take 3 <| .take 4 <| .take 5 <| .take 6 <| .run 7 <| .run 8 <| .run 9 <| .run 10 <| .run 11 <| .run 12 <| .done) kr (sK) ?_) ?_
  ·refine l6 (i:=1) rfl (λw0 w' hok=>KR (L:=out) w' (hok.mem 1 _ rfl) (DR.mk (hok.leI (i:=1) (j:=4) dc rfl rfl) hRp (hok.bx1 (j:=2) (n:=0) rfl rfl dc rfl)) (hGp.sl I9 dc (hok.leI (i:=1) (j:=5) dc rfl rfl) (hok.leI (i:=1) (j:=6) dc rfl rfl)) om) ?_;rintro _ h9 _ ⟨H9,a9,n9,c9,rfl,rfl,hC9,hR9⟩;rw[<-hB] at hC9 hR9 ⊢;refine⟨sK,?_⟩;intro b9;refine⟨sK,?_⟩;refine oL (R:=bN) (o:=op) (L:=out) (H:=HHp.join H9) cQ (e:=83) rfl (i:=6) rfl (λ_=>hGp.mono I9 (Hp.le_join_l _ _)) B.2 [sv B.2.1,iQ B.2.2.1,.slice a9 n9 c9] (j:=8) rfl rfl rfl rfl om (λhs=>?_) λo2 _ hG2=>?_
   ·obtain⟨w0,w',hok⟩:=hs;exact⟨a9,n9,c9,rfl,hC9.mono S6 (Hp.le_join_r (hok.disj 5 7 _ _ dc rfl rfl))⟩
   refine⟨sK,?_⟩;exact⟨(h9,HHp.join H9,o2),⟨hR9,hG2⟩,v6.mk (λ_ _ h=>(Ok.join (h.pick [0,5,7,1,2,3,4,6] rfl rfl)).pick [0,2,3,4,5,1,6] rfl rfl) rfl rfl⟩
  rintro⟨h9,H9,o9⟩ ⟨hR9,hG9⟩ _;dsimp only at hR9 hG9 ⊢;exact⟨(B.1,out++[B.2],h9,H9,o9),⟨hR9,hI2,hG9⟩,hlt,v6.mk (λ_ _ h=>h) rfl rfl⟩
 have ep:=hI.done g1;have hlp:out.length<=65:=hI.l;have hgp:Y3 rr:=hI.g;obtain⟨rp,erp⟩ :∃x,x=tp.1:=⟨_,rfl⟩
 have eop:out=tp.2:=by rw[ep]
 have ewp:rr=rp:=by rw[erp,ep]
 rw[ewp] at hRp hgp;rw[eop] at hGp hlp;clear hI ep ewp eop hsat;obtain⟨ti,eti⟩ :∃x,x=pF vD (λout r=>BD (tp.2.map (·.1)) (out.map (·.1)) r) (J5 rp) rp []:=⟨_,rfl⟩
 refine u6.mkS (RS×List mX×Hp×Dw.Os) (λ_=>[(2,.bx 3 0),(6,.v (pQ rb))]) (λg=>[.hp (Hp.whole w),.hp g.2.2.1,.box rb [pQ b,zl,iQ 0] 155,.box b2 [sv A.2,op.v,g.2.2.2.v,zl,zl,zl] 30,.hp k,.hp HHp,.hp op.h,.hp g.2.2.2.h]) (λg=>G9 k g.2.2.1 b g.1/\JG vD (λout r=>BD (tp.2.map (·.1)) (out.map (·.1)) r) 12 ti g.1 g.2.1/\w8 dM 93 9 g.2.2.2 g.2.1) (λg=>J5 g.1) (rp,[],hp,Dw.Os.nil) ⟨hRp,by rw[eti];exact JG.zero hgp,w8.nil _ _ _⟩ (v6.mk (λ_ _ h=>h.emp) rfl rfl) ?_;rintro⟨rr,out,hi,oi⟩ ⟨hRi,hI,hGi⟩ hsat;dsimp only at hRi hI hGi ⊢;refine o7 λq' hq'=>?_;refine lR 2 0 ?_;refine k7 _ (λw' hm=>S0 (s:=vD) w' (hm 1 _ rfl) (hm 4 _ rfl).whole hRi) ?_;apply hq';refine s8 (λg1=>?_) λg1=>?_
 ·have hlo:out.length<=12:=hI.k (S2 g1).1;obtain⟨hI2,hlt⟩:=hI.next (by have:=VT (tp.2.map (·.1)) (out.map (·.1)) rr;rw[l7] at this;exact this) g1;obtain⟨B,hB⟩ :∃x,x=BD (tp.2.map (·.1)) (out.map (·.1)) rr:=⟨_,rfl⟩
  try dsimp only at hI2 hlt
  rw[<-hB] at hI2 hlt;refine s6.cut (Hp×Dw.Os) (λ_=>[(2,.bx 3 0),(6,.v (pQ rb))]) (λg=>[.hp (Hp.whole w),.hp g.1,.box rb [pQ b,zl,iQ 0] 155,.box b2 [sv A.2,op.v,g.2.v,zl,zl,zl] 30,.hp k,.hp HHp,.hp op.h,.hp g.2.h]) (λg=>G9 k g.1 b B.1/\w8 dM 93 9 g.2 (out++[B.2])) (s6.by_order0 (s0:=[.hp (Hp.whole w),.hp Hp.emp,.box rb [pQ b,zl,iQ 0] 155,.box b2 [sv A.2,op.v,oi.v,zl,zl,zl] 30,.hp k,.hp HHp,.hp op.h,.hp Hp.emp]) cQ (.take 0 <| .take 1 <| .take 2 <| .take 3 <| .take 4 <| .take 5 <| .run 6 <| .run 7 <| .run 8 <| .run 9 <| .run 10 <| .run 11 <| .done) kr (sK) ?_) ?_
  ·refine l6 (i:=1) rfl (λw0 w' hok=>wK (L:=out) (P:=tp.2) w' (hok.mem 1 _ rfl) (DR.mk (hok.leI (i:=1) (j:=4) dc rfl rfl) hRi (hok.bx1 (j:=2) (n:=0) rfl rfl dc rfl)) ((w8.sl (f:=dM) (λ_=>rfl) dc hGi).mono (j7 _) (hok.leI (i:=1) (j:=7) dc rfl rfl)) om (hGp.sl I9 dc (hok.leI (i:=1) (j:=5) dc rfl rfl) (hok.leI (i:=1) (j:=6) dc rfl rfl)) om) ?_;rintro _ h9 _ ⟨rfl,rfl,hR9⟩;rw[<-hB] at hR9 ⊢;refine⟨sK,?_⟩;intro b9;refine⟨sK,?_⟩;refine gF (f:=dM) cQ (e:=93) rfl (i:=7) rfl hGi B.2 (j:=8) rfl rfl rfl rfl om λo2 hG2=>?_;refine⟨sK,?_⟩;exact⟨(h9,o2),⟨hR9,hG2⟩,v6.mk (pj [0,1,2,3,4,5,6,7]) rfl rfl⟩
  rintro⟨h9,o9⟩ ⟨hR9,hG9⟩ _;dsimp only at hR9 hG9 ⊢;exact⟨(B.1,out++[B.2],h9,o9),⟨hR9,hI2,hG9⟩,hlt,v6.mk (λ_ _ h=>h) rfl rfl⟩
 have ei:=hI.done g1;have hli:out.length<=13:=hI.l;have hgi:Y3 rr:=hI.g;obtain⟨ri,eri⟩ :∃x,x=ti.1:=⟨_,rfl⟩
 have eoi:out=ti.2:=by rw[ei]
 have ewi:rr=ri:=by rw[eri,ei]
 rw[ewi] at hRi hgi;rw[eoi] at hGi hli;clear hI ei ewi eoi hsat;obtain⟨td,etd⟩ :∃x,x=pF qO (λout r=>BJ (out.map (·.1)) r) (J5 ri) ri []:=⟨_,rfl⟩
 refine u6.mkS (RS×List S1×Hp×Dw.Os) (λ_=>[(2,.bx 3 0),(6,.v (pQ rb))]) (λg=>[.hp (Hp.whole w),.hp g.2.2.1,.box rb [pQ b,zl,iQ 0] 155,.box b2 [sv A.2,op.v,oi.v,g.2.2.2.v,zl,zl] 30,.hp k,.hp HHp,.hp op.h,.hp oi.h,.hp g.2.2.2.h]) (λg=>G9 k g.2.2.1 b g.1/\JG qO (λout r=>BJ (out.map (·.1)) r) 64 td g.1 g.2.1/\w8 O1 48 4 g.2.2.2 g.2.1) (λg=>J5 g.1) (ri,[],hi,Dw.Os.nil) ⟨hRi,by rw[etd];exact JG.zero hgi,w8.nil _ _ _⟩ (v6.mk (λ_ _ h=>h.emp) rfl rfl) ?_;rintro⟨rr,out,hd,od⟩ ⟨hRd,hI,hGd⟩ hsat;dsimp only at hRd hI hGd ⊢;refine o7 λq' hq'=>?_;refine lR 2 0 ?_;refine k7 _ (λw' hm=>S0 (s:=qO) w' (hm 1 _ rfl) (hm 4 _ rfl).whole hRd) ?_;apply hq';refine s8 (λg1=>?_) λg1=>?_
 ·have hlo:out.length<=64:=hI.k (S2 g1).1;obtain⟨hI2,hlt⟩:=hI.next (by have:=WU (out.map (·.1)) rr;rw[l7] at this;exact this) g1;obtain⟨B,hB⟩ :∃x,x=BJ (out.map (·.1)) rr:=⟨_,rfl⟩
  try dsimp only at hI2 hlt
  rw[<-hB] at hI2 hlt;refine s6.cut (Hp×Dw.Os) (λ_=>[(2,.bx 3 0),(6,.v (pQ rb))]) (λg=>[.hp (Hp.whole w),.hp g.1,.box rb [pQ b,zl,iQ 0] 155,.box b2 [sv A.2,op.v,oi.v,g.2.v,zl,zl] 30,.hp k,.hp HHp,.hp op.h,.hp oi.h,.hp g.2.h]) (λg=>G9 k g.1 b B.1/\w8 O1 48 4 g.2 (out++[B.2])) (s6.by_order0 (s0:=[.hp (Hp.whole w),.hp Hp.emp,.box rb [pQ b,zl,iQ 0] 155,.box b2 [sv A.2,op.v,oi.v,od.v,zl,zl] 30,.hp k,.hp HHp,.hp op.h,.hp oi.h,.hp Hp.emp]) cQ (.take 0 <| .take 1 <| .take 2 <| .take 3 <| .take 4 <| .run 5 <| .run 6 <| .run 7 <| .run 8 <| .run 9 <| .done) kr (sK) ?_) ?_
  ·refine l6 (i:=1) rfl (λw0 w' hok=>uK (L:=out) w' (hok.mem 1 _ rfl) (DR.mk (hok.leI (i:=1) (j:=4) dc rfl rfl) hRd (hok.bx1 (j:=2) (n:=0) rfl rfl dc rfl)) ((w8.sl (f:=O1) (λ_=>rfl) dc hGd).mono (j7 _) (hok.leI (i:=1) (j:=8) dc rfl rfl)) om) ?_;rintro _ h9 _ ⟨rfl,rfl,hR9⟩;rw[<-hB] at hR9 ⊢;refine⟨sK,?_⟩;intro b9;refine⟨sK,?_⟩;refine gF (f:=O1) cQ (e:=48) rfl (i:=8) rfl hGd B.2 (j:=9) rfl rfl rfl rfl om λo2 hG2=>?_;refine⟨sK,?_⟩;exact⟨(h9,o2),⟨hR9,hG2⟩,v6.mk (pj [0,1,2,3,4,5,6,7,8]) rfl rfl⟩
  rintro⟨h9,o9⟩ ⟨hR9,hG9⟩ _;dsimp only at hR9 hG9 ⊢;exact⟨(B.1,out++[B.2],h9,o9),⟨hR9,hI2,hG9⟩,hlt,v6.mk (λ_ _ h=>h) rfl rfl⟩
 have ed:=hI.done g1;have hld:out.length<=65:=hI.l;have hgd:Y3 rr:=hI.g;obtain⟨rd,erd⟩ :∃x,x=td.1:=⟨_,rfl⟩
 have eod:out=td.2:=by rw[ed]
 have ewd:rr=rd:=by rw[erd,ed]
 rw[ewd] at hRd hgd;rw[eod] at hGd hld;clear hI ed ewd eod hsat;refine nQ [.hp (Hp.whole w),.hp hd,.box rb [pQ b,zl,iQ 0] 155,.box b2 [sv A.2,op.v,oi.v,od.v,zl,zl] 30,.hp k,.hp HHp,.hp op.h,.hp oi.h,.hp od.h] λq' hq'=>?_;refine fI cQ (i:=2) (j:=1) rfl rfl rfl (by show 1 < 3;decide) rfl rfl ?_;apply hq';obtain⟨tc,etc⟩ :∃x,x=pF qP (λout r=>wN (out.map (·.1)) (td.2.map (·.1)) r) (J5 rd) rd []:=⟨_,rfl⟩
 refine u6.mkS (RS×List kY×Hp×Hp×Dw.Os) (λ_=>[(2,.bx 3 0),(6,.v (pQ rb))]) (λg=>[.hp (Hp.whole w),.hp g.2.2.1,.box rb (J1 b 0 od.a od.n od.c) 155,.box b2 [sv A.2,op.v,oi.v,od.v,g.2.2.2.2.v,zl] 30,.hp k,.hp HHp,.hp op.h,.hp oi.h,.hp od.h,.hp g.2.2.2.1,.hp g.2.2.2.2.h]) (λg=>G9 k g.2.2.1 b g.1/\JG qP (λout r=>wN (out.map (·.1)) (td.2.map (·.1)) r) 64 tc g.1 g.2.1/\aT kM 96 3 g.2.2.2.1 g.2.2.2.2 g.2.1) (λg=>J5 g.1) (rd,[],hd,Hp.emp,Dw.Os.nil) ⟨hRd,by rw[etc];exact JG.zero hgd,aT.nil⟩ (v6.mk (λ_ _ h=>h.emp.emp) rfl rfl) ?_;rintro⟨rr,out,hc,HHc,oc⟩ ⟨hRc,hI,hGc⟩ hsat;dsimp only at hRc hI hGc ⊢;refine o7 λq' hq'=>?_;refine lR 2 0 ?_;refine k7 _ (λw' hm=>S0 (s:=qP) w' (hm 1 _ rfl) (hm 4 _ rfl).whole hRc) ?_;apply hq';refine s8 (λg1=>?_) λg1=>?_
 ·have hlo:out.length<=64:=hI.k (S2 g1).1;obtain⟨hI2,hlt⟩:=hI.next (by have:=XF (out.map (·.1)) (td.2.map (·.1)) rr;rw[l7] at this;exact this) g1;obtain⟨B,hB⟩ :∃x,x=wN (out.map (·.1)) (td.2.map (·.1)) rr:=⟨_,rfl⟩
  try dsimp only at hI2 hlt
  rw[<-hB] at hI2 hlt;refine s6.cut (Hp×Hp×Dw.Os) (λ_=>[(2,.bx 3 0),(6,.v (pQ rb))]) (λg=>[.hp (Hp.whole w),.hp g.1,.box rb (J1 b 0 od.a od.n od.c) 155,.box b2 [sv A.2,op.v,oi.v,od.v,g.2.2.v,zl] 30,.hp k,.hp HHp,.hp op.h,.hp oi.h,.hp od.h,.hp g.2.1,.hp g.2.2.h]) (λg=>G9 k g.1 b B.1/\aT kM 96 3 g.2.1 g.2.2 (out++[B.2])) (s6.by_order0 (s0:=[.hp (Hp.whole w),.hp Hp.emp,.box rb (J1 b 0 od.a od.n od.c) 155,.box b2 [sv A.2,op.v,oi.v,od.v,oc.v,zl] 30,.hp k,.hp HHp,.hp op.h,.hp oi.h,.hp od.h,.hp HHc,.hp Hp.emp]) cQ (.take 0 <| .take 1 <| .take 2 <| .take 3 <| .take 4 <| .run 5 <| .run 6 <| .run 7 <| .run 8 <| .run 9 <| .done) kr (sK) ?_) ?_
  ·refine l6 (i:=1) rfl (λw0 w' hok=>sY (L:=out) (DD:=td.2) w' (hok.mem 1 _ rfl) (DR.mk (hok.leI (i:=1) (j:=4) dc rfl rfl) hRc (hok.bx1 (j:=2) (n:=0) rfl rfl dc rfl)) (hGc.sl S5 dc (hok.leI (i:=1) (j:=9) dc rfl rfl) (hok.leI (i:=1) (j:=10) dc rfl rfl)) om (hok.bx1 (j:=2) (n:=1) rfl rfl dc rfl) ((w8.sl (f:=O1) (λ_=>rfl) dc hGd).mono (j7 _) (hok.leI (i:=1) (j:=8) dc rfl rfl)) om) ?_;rintro _ h9 _ ⟨o9,rfl,rfl,hC9,hR9⟩;rw[<-hB] at hC9 hR9 ⊢;refine⟨sK,?_⟩;intro b9;refine⟨sK,?_⟩;refine oL (R:=kM) (o:=oc) (L:=out) (H:=HHc.join o9.h) cQ (e:=96) rfl (i:=10) rfl (λ_=>hGc.mono S5 (Hp.le_join_l _ _)) B.2 [sv B.2.1,sv B.2.2.1,o9.v] (j:=12) rfl rfl rfl rfl om (λhs=>?_) λo2 _ hG2=>?_
   ·obtain⟨w0,w',hok⟩:=hs;exact⟨o9.a,o9.n,o9.c,rfl,(w8.sl (f:=U0) (sz:=2) (λ_=>rfl) dc hC9).mono (j7 _) (Hp.le_join_r (hok.disj 9 11 _ _ dc rfl rfl))⟩
   refine⟨sK,?_⟩;exact⟨(h9,HHc.join o9.h,o2),⟨hR9,hG2⟩,v6.mk (λ_ _ h=>(Ok.join (h.pick [0,9,11,1,2,3,4,5,6,7,8,10] rfl rfl)).pick [0,2,3,4,5,6,7,8,9,1,10] rfl rfl) rfl rfl⟩
  rintro⟨h9,H9,o9⟩ ⟨hR9,hG9⟩ _;dsimp only at hR9 hG9 ⊢;exact⟨(B.1,out++[B.2],h9,H9,o9),⟨hR9,hI2,hG9⟩,hlt,v6.mk (λ_ _ h=>h) rfl rfl⟩
 have ec:=hI.done g1;have hlc:out.length<=65:=hI.l;have hgc:Y3 rr:=hI.g;obtain⟨rc,erc⟩ :∃x,x=tc.1:=⟨_,rfl⟩
 have eoc:out=tc.2:=by rw[ec]
 have ewc:rr=rc:=by rw[erc,ec]
 rw[ewc] at hRc hgc;rw[eoc] at hGc hlc;clear hI ec ewc eoc hsat;obtain⟨tq,etq⟩ :∃x,x=pF qN (λout r=>rH (out.map (·.1)) (td.2.map (·.1)) r) (J5 rc) rc []:=⟨_,rfl⟩
 refine u6.mkS (RS×List kV×Hp×Hp×Dw.Os×Nat) (λ_=>[(2,.bx 3 0),(6,.v (pQ rb))]) (λg=>[.hp (Hp.whole w),.hp g.2.2.1,.box rb (J1 b (g.2.2.2.2.2) od.a od.n od.c) 155,.box b2 [sv A.2,op.v,oi.v,od.v,oc.v,g.2.2.2.2.1.v] 30,.hp k,.hp HHp,.hp op.h,.hp oi.h,.hp od.h,.hp HHc,.hp oc.h,.hp g.2.2.2.1,.hp g.2.2.2.2.1.h]) (λg=>G9 k g.2.2.1 b g.1/\JG qN (λout r=>rH (out.map (·.1)) (td.2.map (·.1)) r) 64 tq g.1 g.2.1/\aT (jJ 9) 74 8 g.2.2.2.1 g.2.2.2.2.1 g.2.1) (λg=>J5 g.1) (rc,[],hc,Hp.emp,Dw.Os.nil,0) ⟨hRc,by rw[etq];exact JG.zero hgc,aT.nil⟩ (v6.mk (λ_ _ h=>h.emp.emp) rfl rfl) ?_;rintro⟨rr,out,hq,HHq,oq,kq⟩ ⟨hRq,hI,hGq⟩ hsat;dsimp only at hRq hI hGq ⊢;have hsat0:=hsat;refine o7 λq' hq'=>?_;refine lR 2 0 ?_;refine k7 _ (λw' hm=>S0 (s:=qN) w' (hm 1 _ rfl) (hm 4 _ rfl).whole hRq) ?_;apply hq';refine s8 (λg1=>?_) λg1=>?_
 ·have hlo:out.length<=64:=hI.k (S2 g1).1;obtain⟨hI2,hlt⟩:=hI.next (by have:=UA (out.map (·.1)) (td.2.map (·.1)) rr;rw[l7] at this;exact this) g1;obtain⟨B,hB⟩ :∃x,x=rH (out.map (·.1)) (td.2.map (·.1)) rr:=⟨_,rfl⟩
  try dsimp only at hI2 hlt
  rw[<-hB] at hI2 hlt;refine s6.cut (Hp×Hp×Dw.Os×Nat) (λ_=>[(2,.bx 3 0),(6,.v (pQ rb))]) (λg=>[.hp (Hp.whole w),.hp g.1,.box rb (J1 b (g.2.2.2) od.a od.n od.c) 155,.box b2 [sv A.2,op.v,oi.v,od.v,oc.v,g.2.2.1.v] 30,.hp k,.hp HHp,.hp op.h,.hp oi.h,.hp od.h,.hp HHc,.hp oc.h,.hp g.2.1,.hp g.2.2.1.h]) (λg=>G9 k g.1 b B.1/\aT (jJ 9) 74 8 g.2.1 g.2.2.1 (out++[B.2])) (s6.by_order0 (s0:=[.hp (Hp.whole w),.hp Hp.emp,.hp Hp.emp,.box b2 [sv A.2,op.v,oi.v,od.v,oc.v,oq.v] 30,.hp k,.hp HHp,.hp op.h,.hp oi.h,.hp od.h,.hp HHc,.hp oc.h,.hp HHq,.hp Hp.emp]) cQ (.take 0 <| .take 1 <| .take 2 <| .take 3 <| .take 4 <| .run 5 <| .run 6 <| .run 7 <| .run 8 <| .run 9 <| .done) kr (sK) ?_) ?_
  ·refine nR (i:=2) (j:=1) dc rfl rfl (λw0 w' hok=>by exact oZ (k:=k) (L:=out) (DD:=td.2) w' (hok.inJ (i:=2) (j:=1) (c:=.box rb (J1 b kq od.a od.n od.c) 155) (d:=.hp hq) rfl rfl) (hok.disj 2 1 _ _ dc rfl rfl) (hok.le2 (i:=2) (j:=1) (m:=4) (x:=.hp k) dc dc rfl rfl rfl) hRq hI.g (by exact hGq.sl (M8 9) dc (hok.le2 (i:=2) (j:=1) (m:=11) (x:=.hp HHq) dc dc rfl rfl rfl) (hok.le2 (i:=2) (j:=1) (m:=12) (x:=.hp oq.h) dc dc rfl rfl rfl)) om (by exact (w8.sl (f:=O1) (λ_=>rfl) dc hGd).mono (j7 _) (hok.le2 (i:=2) (j:=1) (m:=8) (x:=.hp od.h) dc dc rfl rfl rfl)) om) ?_;rintro _ _ h9 H9 ⟨⟨xs,rfl,hx8,hE9⟩,⟨kz,rfl⟩,hR9⟩;rw[<-hB] at hE9 hR9;have hE2:=hE9;obtain⟨y5,rfl,hY⟩:=hE2;obtain⟨Y,eY⟩ :∃Y,Y=B.2.2.1:=⟨_,rfl⟩
   rw[<-eY] at hY;obtain⟨op9,f9,fac9,args9⟩:=Y;obtain⟨a9,n9,c9,a8,n8,c8,rfl,_,_⟩:=hY;refine⟨sK,?_⟩;intro b9;refine⟨sK,?_⟩;refine oL (R:=(jJ 9)) (o:=oq) (L:=out) (H:=HHq.join H9) cQ (e:=74) rfl (i:=12) rfl (λ_=>hGq.mono (M8 9) (Hp.le_join_l _ _)) B.2 [sv B.2.1,iQ op9,sv f9.1,.slice a9 n9 c9,sv fac9,.slice a8 n8 c8,sv B.2.2.2.1,sv B.2.2.2.2] (j:=14) rfl rfl rfl rfl om (λhs=>?_) λo2 _ hG2=>?_
   ·obtain⟨w0,w',hok⟩:=hs;exact M8 9 _ _ _ _ (Hp.le_join_r (hok.disj 11 13 _ _ dc rfl rfl)) hE9
   refine⟨sK,?_⟩;exact⟨(h9,HHq.join H9,o2,kz),⟨hR9,hG2⟩,v6.mk (λ_ _ h=>(Ok.join (h.pick [0,11,13,1,2,3,4,5,6,7,8,9,10,12] rfl rfl)).pick [0,2,3,4,5,6,7,8,9,10,11,1,12] rfl rfl) rfl rfl⟩
  rintro⟨h9,H9,o9,kz⟩ ⟨hR9,hG9⟩ _;dsimp only at hR9 hG9 ⊢;exact⟨(B.1,out++[B.2],h9,H9,o9,kz),⟨hR9,hI2,hG9⟩,hlt,v6.mk (λ_ _ h=>h) rfl rfl⟩
 have eq:=hI.done g1;have hlq:out.length<=65:=hI.l;have hgq:Y3 rr:=hI.g;obtain⟨rq,erq⟩ :∃x,x=tq.1:=⟨_,rfl⟩
 have eoq:out=tq.2:=by rw[eq]
 have ewq:rr=rq:=by rw[erq,eq]
 rw[ewq] at hRq hgq;rw[eoq] at hGq hlq;clear hI eq ewq eoq;refine nQ [.hp (Hp.whole w),.hp hq,.box rb (J1 b kq od.a od.n od.c) 155,.box b2 [sv A.2,op.v,oi.v,od.v,oc.v,oq.v] 30,.hp k,.hp HHp,.hp op.h,.hp oi.h,.hp od.h,.hp HHc,.hp oc.h,.hp HHq,.hp oq.h] λq' hq'=>?_;refine lR 2 0 ?_;refine l6 (i:=1) rfl (λw0 w' hok=>JH w' (hok.mem 1 _ rfl) (hok.leI (i:=1) (j:=4) dc rfl rfl) hRq) ?_;rintro _ hf _ ⟨rfl,hRf⟩;have hRf:G9 k hf b (LW rq):=hRf;have eS:yN s=(LW rq,⟨A.2,tp.2,ti.2,td.2,tc.2,tq.2⟩):=by
  unfold yN He;dsimp only;rw[<-hr,<-er1,<-hA,<-er3,<-etp,<-erp,<-eti,<-eri,<-etd,<-erd,<-etc,<-erc,<-etq,<-erq]
 apply hq';refine nQ [.hp (Hp.whole w),.hp hf,.box rb (J1 b kq od.a od.n od.c) 155,.box b2 [sv A.2,op.v,oi.v,od.v,oc.v,oq.v] 30,.hp k,.hp HHp,.hp op.h,.hp oi.h,.hp od.h,.hp HHc,.hp oc.h,.hp HHq,.hp oq.h] λq' hq'=>?_;refine lR 2 0 ?_;refine k7 _ (λw' hm=>AT w' (hm 1 _ rfl) hRf) ?_;apply hq';refine nQ [.hp (Hp.whole w),.hp hf,.box rb (J1 b kq od.a od.n od.c) 155,.box b2 [sv A.2,op.v,oi.v,od.v,oc.v,oq.v] 30,.hp k,.hp HHp,.hp op.h,.hp oi.h,.hp od.h,.hp HHc,.hp oc.h,.hp HHq,.hp oq.h] λq' hq'=>?_;apply hq';refine d8 (λf1=>?_) λf1=>?_
 ·have eP:pB s=(UT,((LW rq).ln:Int),((LW rq).co:Int),(LW rq).e):=by
   unfold pB;rw[eS,if_pos f1]
  rw[eP,if_neg f1,if_neg f1];exact⟨[.hp Hp.emp],⟨Hp.emp,_,rfl,rfl,rfl,Ec 9 _⟩,λw' h=>(h.pick [0] rfl rfl).emp⟩
 ·have f2:(LW rq).e=0:=l9.1 f1;have eP:pB s=(⟨A.2,tp.2,ti.2,td.2,tc.2,tq.2⟩,0,0,0):=by
   unfold pB;rw[eS,if_neg (λc=>c f2)]
  rw[eP];have hdl:PC [.hp HHp,.hp op.h,.hp oi.h,.hp od.h,.hp HHc,.hp oc.h,.hp HHq,.hp oq.h]:=by
   obtain⟨w0,w1,hok⟩:=hsat0;exact (hok.pick [0,5,6,7,8,9,10,11,12] rfl rfl).djL
  refine⟨[.hp (joinL [.hp HHp,.hp op.h,.hp oi.h,.hp od.h,.hp HHc,.hp oc.h,.hp HHq,.hp oq.h])],⟨_,_,rfl,rfl,rfl,⟨op.a,op.n,op.c,oi.a,oi.n,oi.c,od.a,od.n,od.c,oc.a,oc.n,oc.c,oq.a,oq.n,oq.c,rfl,hGp.sl I9 dc (I3 hdl (i:=0) rfl) (I3 hdl (i:=1) rfl),(w8.sl (f:=dM) (λ_=>rfl) dc hGi).mono (j7 _) (I3 hdl (i:=2) rfl),(w8.sl (f:=O1) (λ_=>rfl) dc hGd).mono (j7 _) (I3 hdl (i:=3) rfl),hGc.sl S5 dc (I3 hdl (i:=4) rfl) (I3 hdl (i:=5) rfl),hGq.sl (M8 9) dc (I3 hdl (i:=6) rfl) (I3 hdl (i:=7) rfl)⟩⟩,λw' h=>(h.pick [0,5,6,7,8,9,10,11,12] rfl rfl).joinL⟩
end Go.Proofs.YtpjhmeicbjkcdaaGreatDoor
