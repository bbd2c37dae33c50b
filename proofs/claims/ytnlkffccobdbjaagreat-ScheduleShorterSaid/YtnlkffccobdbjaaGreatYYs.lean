/- The law ScheduleShorter returns true. Its premises are its own. -/
import Derived.Test.YtnlkffccobdbjaaGreatYXk
import Derived.Test.YtnlkffccobdbjaaGreatYXu
import Derived.Test.YtnlkffccobdbjaaGreatXQ
import Derived.Test.YtnlkffccobdbjaaGreatYYr
import Derived.Test.YtnlkffccobdbjaaGreatYWs
namespace Go.Dw
open Go Go.RowKit
theorem normDs {X : Ctx} {ops : List Oper} {Q : Tm → List Ch → Prop} {t : Tm} {s : List Ch} (s' : List Ch) (hs : s = s') (h : NeedD X ops Q t s') : NeedD X ops Q t s := by subst hs; exact h
end Go.Dw
namespace Go.Proofs.YtnlkffccobdbjaaGreat
open Go Go.RowKit Go.Dw
theorem rdq_snoc {h : Hp} {RL : List Rq} {SS : List Sn} {nm : ByteArray} {za : Option Addr} {zn zc : Nat} {ts : List ByteArray} (hr : RdQ h RL SS) (hz : Sl (encF fS) 1 h za zn zc ts) : RdQ h (RL ++ [⟨nm, za, zn, zc⟩]) (SS ++ [⟨nm, ts⟩]) := by
  refine ⟨by simp [hr.1], fun i h1 h2 => ?_⟩
  by_cases hi : i < RL.length
  · rw [List.getElem_append_left hi, List.getElem_append_left (by rw [← hr.1]; exact hi)]
    exact hr.2 i hi _
  · have e : i = RL.length := by rw [List.length_append, List.length_singleton] at h1; omega
    have e2 := hr.1
    subst e
    rw [List.getElem_append_right (Nat.le_refl _), List.getElem_append_right (by omega)]
    simpa [e2] using hz
def nlR (r : Rw) : Rw := ⟨r.nm, r.du, r.tl, none, 0, 0⟩
def dbR (r : Rw) : Rw := ⟨r.nm, r.du * 2, r.tl, r.a, r.n, r.c⟩
theorem rdr_free {h : Hp} {RL : List Rw} {TT : List Tk} {j : Nat} (hr : RdR h RL TT) (hj : j < RL.length) : RdR h (RL.set j (nlR RL[j])) (frT TT j) := by
  have e1 := hr.1
  refine ⟨by rw [List.length_set, fr_len, e1], fun i h1 h2 => ?_⟩
  rw [List.length_set] at h1
  have hi2 : i < TT.length := by omega
  have hj2 : j < TT.length := by omega
  obtain ⟨g1, g2, g3, g4⟩ := hr.2 i h1 hi2
  have e2 : (frT TT j)[i] = if j = i then frK TT[i] else TT[i] := by
    have := fr_get (TT := TT) hj2 i
    rw [gD h2, gD hi2] at this
    exact this
  rw [e2, List.getElem_set]
  by_cases hij : j = i
  · subst hij
    rw [if_pos rfl, if_pos rfl]
    exact ⟨g1, g2, g3, Sd.nil_rd h⟩
  · rw [if_neg hij, if_neg hij]
    exact ⟨g1, g2, g3, g4⟩
theorem rdr_twice {h : Hp} {RL R2 : List Rw} {TT : List Tk} (hr : RdR h RL TT) (hl : R2.length = RL.length) (he : ∀ i (h1 : i < R2.length) (h2 : i < RL.length), R2[i] = dbR RL[i]) : RdR h R2 (twT TT) := by
  have e1 := hr.1
  refine ⟨by unfold twT; rw [List.length_map, hl, e1], fun i h1 h2 => ?_⟩
  have hi2 : i < TT.length := by omega
  obtain ⟨g1, g2, g3, g4⟩ := hr.2 i (by omega) hi2
  have e2 : (twT TT)[i] = twK TT[i] := by simp only [twT, List.getElem_map]
  rw [e2, he i h1 (by omega)]
  exact ⟨g1, by show RL[i].du * 2 = TT[i].du * 2; rw [g2], g3, g4⟩
theorem stb_more {TT : List Tk} {SS : List Sn} {x : Sn} (h : StB TT SS) (h1 : x.nm.size ≤ 50) (h2 : ∀ y ∈ x.ts, y.size ≤ 50) : StB TT (SS ++ [x]) := ⟨h.t, fun s hs => by
  rcases List.mem_append.1 hs with g | g
  · exact h.s s g
  · rw [List.mem_singleton.1 g]; exact ⟨h1, h2⟩⟩
theorem sml_more {TT : List Tk} {SS : List Sn} {x : Sn} (h : Sml TT SS) (hm : SS.length < 900) (h2 : x.ts.length < 1000) : Sml TT (SS ++ [x]) := ⟨h.n, by rw [List.length_append, List.length_singleton]; omega, h.a, fun s hs => by
  rcases List.mem_append.1 hs with g | g
  · exact h.s s g
  · rw [List.mem_singleton.1 g]; exact h2⟩
theorem stb_twice {TT : List Tk} {SS : List Sn} (h : StB TT SS) : StB (twT TT) SS := ⟨fun t ht => by
  unfold twT at ht
  obtain ⟨u, hu, rfl⟩ := List.mem_map.1 ht
  exact h.t u hu, h.s⟩
theorem best_rng {TT : List Tk} {SS : List Sn} (hF : Fit TT) (hE : shopE TT SS = 0) (h8 : TT.length ≤ 8) : 0 ≤ mspF TT (bstR TT SS) ∧ mspF TT (bstR TT SS) ≤ 100000000 := by
  obtain ⟨g, _⟩ := bst_best hF hE h8
  refine ⟨g.msp.1, g.msp_le (by decide) fun i hi => ?_⟩
  have := g.s0 i hi
  have := hF.d hi
  omega
section
variable {a a' : Option Addr} {n c n' c' : Nat} {TT : List Tk} {SS : List Sn}
set_option maxHeartbeats 4000000 in
set_option maxRecDepth 10000 in
theorem shorter50_ok {oa : Option Addr} {on oc : Nat} {O : List Int} (wh : Int) (w : World) (hT : Sl encT 4 (Hp.whole w) a n c TT) (hS : Sl encN 2 (Hp.whole w) a' n' c' SS) (hO : Sl (encF fU) 1 (Hp.whole w) oa on oc O) (hb : ∀ u ∈ O, 0 ≤ u ∧ u ≤ 255) (hl : 0 ≤ wh ∧ wh ≤ 255) :
    CallsE Tryz.prog 7 #[sv a n c a' n' c', .slice oa on oc, .int .u8 wh] w (RetV w (.bool true)) := by
  have lT := hT.len
  have lS := hS.len
  obtain ⟨fi, hfi⟩ : ∃ fi, fi = fineF50 TT SS 5 := ⟨_, rfl⟩
  have kF : ∀ w' : World, Sl encT 4 (Hp.whole w') a n c TT → Sl encN 2 (Hp.whole w') a' n' c' SS → CallsE Tryz.prog 14 #[sv a n c a' n' c', .int .i64 5] w' (RetV w' (.bool fi)) := fun w' h1 h2 => by
    rw [hfi]; exact fine50_spec 5 w' h1 h2
  refine enter (X := cx 163) (cxg _) (args := [.agg #[.slice a n c, .slice a' n' c'], .slice oa on oc, .int .u8 wh]) [.tmp 6] Tryz.func7 rfl rfl rfl rfl rfl ?_
  intro b2
  refine hideQ (fun _ kz => kz _ _ ?_)
  refine hideQ (fun q0 k0 => ?_)
  refine hideK 3 (fun q1 k1 => ?_)
  refine callV _ (fun w' _ => known50_spec w') ?_
  refine k1 _ _ ?_
  refine hideK 5 (fun q2 k2 => ?_)
  refine callV _ (fun w' hm => kF w' (hT.mono encT_mono (hm 0 _ rfl)) (hS.mono encN_mono (hm 0 _ rfl))) ?_
  refine k2 _ _ ?_
  cases fi with
  | false =>
    refine k0 _ _ ?_
    refine condT rfl ?_
    refine callV _ (fun w' _ => known50_spec w') ?_
    exact ⟨[], ⟨rfl, rfl⟩, fun w' h => h.pick [0] rfl rfl⟩
  | true =>
    obtain ⟨hN, hM, hfw, hE⟩ := fine50_of hfi.symm
    have hs := (few49_sml hfw).1
    have hF := fit_of hs hE
    have hst := few49_str hfw
    refine hideK 5 (fun q3 k3 => ?_)
    refine k3 _ _ ?_
    refine bsplitd (fun h3 => ?_) (fun h3 => ?_)
    · refine k0 _ _ ?_
      refine condT rfl ?_
      refine callV _ (fun w' _ => known50_spec w') ?_
      exact ⟨[], ⟨rfl, rfl⟩, fun w' h => h.pick [0] rfl rfl⟩
    refine hideK 4 (fun q4 k4 => ?_)
    refine k4 _ _ ?_
    refine bsplitd (fun h4 => ?_) (fun h4 => ?_)
    · refine k0 _ _ ?_
      refine condT rfl ?_
      refine callV _ (fun w' _ => known50_spec w') ?_
      exact ⟨[], ⟨rfl, rfl⟩, fun w' h => h.pick [0] rfl rfl⟩
    refine k0 _ _ ?_
    refine bsplitd (fun h5 => ?_) (fun h5 => ?_)
    · refine callV _ (fun w' _ => known50_spec w') ?_
      exact ⟨[], ⟨rfl, rfl⟩, fun w' h => h.pick [0] rfl rfl⟩
    have hN0 : 0 < TT.length := by omega
    have hS0 : 0 < SS.length := by
      have hc := (shop_ok hE).2.2.2.2.2 _ (List.getElem_mem hN0)
      obtain ⟨s, hs1, _⟩ := List.any_eq_true.1 hc
      exact List.length_pos_of_mem hs1
    obtain ⟨g1, g2⟩ := bst_best hF hE (by omega)
    obtain ⟨M, hMd⟩ : ∃ M, M = mspF TT (bstR TT SS) := ⟨_, rfl⟩
    have hMr := best_rng hF hE (by omega)
    rw [← hMd] at hMr g2
    have kM : ∀ w' : World, Sl encT 4 (Hp.whole w') a n c TT → Sl encN 2 (Hp.whole w') a' n' c' SS → CallsE Tryz.prog 31 #[sv a n c a' n' c'] w' (RetV w' (.int .i64 M)) := fun w' h1 h2 => by
      rw [hMd]; exact len50_spec w' h1 h2 hs hE (by omega)
    refine callV (.int .i64 M) (fun w' hm => kM w' (hT.mono encT_mono (hm 0 _ rfl)) (hS.mono encN_mono (hm 0 _ rfl))) ?_
    obtain ⟨order, hor⟩ : ∃ order, order = dwnF O n := ⟨_, rfl⟩
    have hperm : order.Perm (natL (List.range TT.length)) := by rw [hor, lT]; exact dwnF_perm O TT.length
    have hok : OrdOk TT.length order := ord_perm hperm
    have hol := hok.l
    obtain ⟨J, hJ⟩ : ∃ J, J = (lisK TT SS order order.length).1 := ⟨_, rfl⟩
    have hJs : Sch TT SS J := by rw [hJ]; exact lis_sch hF hE hok
    obtain ⟨MJ, hMJ⟩ : ∃ M, M = mspF TT J := ⟨_, rfl⟩
    have le1 : ¬ M > MJ := by have := g2 J hJs; rw [← hMJ] at this; omega
    have kO : ∀ w' : World, Sl (encF fU) 1 (Hp.whole w') oa on oc O → CallsE Tryz.prog 23 #[.slice oa on oc, .int .i64 n] w' (Ret w' fun v cs => ∃ o : Dw.Os, v = o.v ∧ cs = [.hp o.h] ∧ OwnO fI 3 1 o order) := fun w' h => by
      rw [hor]; exact of_spec n w' h hb (by omega)
    have kJ : ∀ (w' : World) {ra : Option Addr} {rn rc : Nat}, Sl encT 4 (Hp.whole w') a n c TT → Sl encN 2 (Hp.whole w') a' n' c' SS → Sl (encF fI) 1 (Hp.whole w') ra rn rc order → CallsE Tryz.prog 24 #[sv a n c a' n' c', .slice ra rn rc] w' (RetJ w' J 0) := fun w' _ _ _ h1 h2 h3 => by
      have := List_spec w' h1 h2 hs h3 (by omega)
      rwa [lisE_perm hE hperm, lisR_perm hE hperm, ← hJ] at this
    refine NeedD.cut Dw.Os (fun g => [(2, .v (.int .u8 wh)), (3, .bx 1 0), (7, .v (.func (.func 31) ⟨[]⟩ ⟨[]⟩)), (8, .v (.int .i64 M)), (9, .v g.v), (10, .v (.int .i64 0))]) (fun g => [.hp (Hp.whole w), .box b2 [.slice a n c, .slice a' n' c'] 25, .hp g.h])
      (fun g => OwnO fJ 52 3 g J) (NeedD.by_order (cxg _) (.take 0 <| .take 1 <| .take 2 <| .take 3 <| .take 4 <| .run 5 <| .run 6 <| .take 7 <| .take 8 <| .take 9 <| .take 10 <| .take 11 <| .done) (by kernel_rfl) ?_) ?_
    · refine call (fun w' hm => kO w' (hO.mono (encF_mono _) (hm 0 _ rfl))) ?_
      rintro _ _ ⟨o1, rfl, rfl, ho1⟩
      have s1 := OwnO.sl (f := fI) (fun _ => rfl) (by decide) ho1
      refine ⟨(by repeat first | exact trivial | refine ⟨.inl rfl, ?_⟩ | refine ⟨.inr rfl, ?_⟩), ?_⟩
      refine call (fun w' hm => kJ w' (hT.mono encT_mono (hm 0 _ rfl)) (hS.mono encN_mono (hm 0 _ rfl)) (s1.mono (encF_mono _) (hm 2 _ rfl))) ?_
      rintro _ _ ⟨oJ, rfl, rfl, hoJ⟩
      refine ⟨(by repeat first | exact trivial | refine ⟨.inl rfl, ?_⟩ | refine ⟨.inr rfl, ?_⟩), ?_⟩
      exact ⟨oJ, hoJ, Ent.mk (fun _ _ h => h.pick [0, 1, 3] rfl rfl) rfl rfl⟩
    rintro oJ hoJ _
    dsimp only
    have sJ := OwnO.sl (f := fJ) (fun _ => rfl) (by decide) hoJ
    have lJ := sJ.len
    have hJl := hJs.len
    clear kO kJ
    -- region 6
    refine hideQ (fun _ k6 => ?_)
    refine hideK 2 (fun _ k1 => ?_)
    refine k1 _ _ ?_
    rw [decide_eq_false (show ¬ M < 0 by omega)]
    refine hideK 10 (fun _ k2 => ?_)
    refine callV (.int .i64 MJ) (fun w' hm => by rw [hMJ]; exact makespan50_spec w' (hT.mono encT_mono (hm 0 _ rfl)) hF (sJ.mono (encF_mono _) (hm 2 _ rfl)) (by omega) (fun i hi => by
      have := hJs.s0 i (by omega)
      exact ⟨hJs.tk i (by omega), this.1, by omega⟩)) ?_
    refine k2 _ _ ?_
    rw [decide_eq_false le1]
    refine k6 _ _ ?_
    refine condF rfl ?_
    clear k0 k1 k2 k3 k4 k6
    -- more
    obtain ⟨RQ, hRQ, hRd⟩ := rq_of hS
    have lRQ := hRd.1
    obtain ⟨RL, hRL, hRt⟩ := rw_of hT
    have lRL := hRt.1
    intro b11
    refine hideQ (fun _ kz => kz _ _ ?_)
    refine normS [.hp (Hp.whole w), .box b2 [.slice a n c, .slice a' n' c'] 25, .hp oJ.h, .box b11 [.slice a n c, .slice a' n' c'] 25] rfl ?_
    refine call (fun w' hm => cloneStations_spec w' (hRQ.mono (encF_mono _) (hm 0 _ rfl)) (by omega)) ?_
    rintro _ _ ⟨oC, rfl, rfl, hoC⟩
    intro b72
    refine appO (f := fQ) (cxg _) (e := 60) rfl (i := 4) rfl hoC (j := 5) (⟨⟨#[102, 117, 114, 116, 104, 101, 114]⟩, none, 0, 0⟩ : Rq) rfl rfl rfl rfl (by omega) (fun oM hoM => ?_)
    have lC := hoC.len
    have lM := hoM.len
    rw [List.length_append, List.length_singleton] at lM
    have sM := OwnO.sl (f := fQ) (fun _ => rfl) (by decide) hoM
    obtain ⟨x0, hx0⟩ : ∃ x, x = RQ[0] := ⟨_, rfl⟩
    obtain ⟨-, sx0⟩ := hRd.2 0 (by omega) hS0
    rw [← hx0] at sx0
    obtain ⟨ts, hts⟩ : ∃ ts, ts = SS[0].ts := ⟨_, rfl⟩
    rw [← hts] at sx0
    have lts : ts.length < 1000 := by rw [hts]; exact hs.s _ (List.getElem_mem hS0)
    have lx0 := sx0.len
    have hlast : (RQ ++ [(⟨⟨#[102, 117, 114, 116, 104, 101, 114]⟩, none, 0, 0⟩ : Rq)]).length = n' + 1 := by rw [List.length_append, List.length_singleton]; omega
    obtain ⟨ma, mn, mc, mh⟩ := oM
    have hmn : mn = n' + 1 := by dsimp only at lM; omega
    subst hmn
    have hlg : (RQ ++ [(⟨⟨#[102, 117, 114, 116, 104, 101, 114]⟩, none, 0, 0⟩ : Rq)])[n']'(by omega) = ⟨⟨#[102, 117, 114, 116, 104, 101, 114]⟩, none, 0, 0⟩ := by
      have e : n' = RQ.length := by omega
      have key : ∀ (k : Nat) (hk : k < (RQ ++ [(⟨⟨#[102, 117, 114, 116, 104, 101, 114]⟩, none, 0, 0⟩ : Rq)]).length), k = RQ.length → (RQ ++ [(⟨⟨#[102, 117, 114, 116, 104, 101, 114]⟩, none, 0, 0⟩ : Rq)])[k] = ⟨⟨#[102, 117, 114, 116, 104, 101, 114]⟩, none, 0, 0⟩ := fun k hk e => by subst e; simp
      exact key _ _ e
    have hlset : ∀ y : Rq, (RQ ++ [(⟨⟨#[102, 117, 114, 116, 104, 101, 114]⟩, none, 0, 0⟩ : Rq)]).set n' y = RQ ++ [y] := fun y => by
      have e : n' = RQ.length := by omega
      rw [e]; simp
    refine hideQ (fun _ kz => kz _ _ ?_)
    refine normDs [.hp (Hp.whole w), .box b2 [.slice a n c, .slice a' n' c'] 25, .hp oJ.h, .box b11 [.slice a n c, .slice ma (n' + 1) mc] 25, .hp mh, .box b72 [.string ⟨#[102, 117, 114, 116, 104, 101, 114]⟩, .slice none 0 0] 60] rfl ?_
    refine NeedD.cut (Dw.Os × Dw.Os) (fun g => [(2, .v (.int .u8 wh)), (3, .bx 1 0), (7, .v (.func (.func 31) ⟨[]⟩ ⟨[]⟩)), (8, .v (.int .i64 M)), (11, .bx 2 0)]) (fun g => [.hp (Hp.whole w), .box b2 [.slice a n c, .slice a' n' c'] 25, .box b11 [.slice a n c, .slice g.1.a (n' + 1) g.1.c] 25, .hp g.1.h, .hp g.2.h])
      (fun g => OwnO fQ 60 2 g.1 (RQ ++ [(⟨⟨#[102, 117, 114, 116, 104, 101, 114]⟩, g.2.a, g.2.n, g.2.c⟩ : Rq)]) ∧ OwnO fS 9 1 g.2 ts) (NeedD.by_order0 (cxg _) (.take 0 <| .take 1 <| .take 2 <| .take 3 <| .take 4 <| .take 5 <| .take 6 <| .take 7 <| .take 8 <| .take 9 <| .run 10 <| .take 11 <| .take 12 <| .run 13 <| .done) (by kernel_rfl) (subL_blank _ 4) ?_) ?_
    · refine idx (cxg _) (e := 60) rfl hRQ 0 rfl (by omega) (fun b9 o9 cs hcs hR9 hcell9 => ?_)
      rw [← hx0] at hR9
      subst hR9
      refine ld1 (cxg _) (i := 0) rfl (hcell9 1 _ rfl) rfl ?_
      refine call (fun w' hm => cloneStrs_spec w' (sx0.mono (encF_mono _) (hm 0 _ rfl)) (by omega)) ?_
      rintro _ _ ⟨oZ, rfl, rfl, hoZ⟩
      refine ⟨(by repeat first | exact trivial | refine ⟨.inl rfl, ?_⟩ | refine ⟨.inr rfl, ?_⟩), ?_⟩
      refine oidxN (cxg _) (e := 60) rfl (o := ⟨ma, n' + 1, mc, mh⟩) hoM n' (by omega) (by omega) fun b7 hb7 => ?_
      refine ostF (f := fQ) (cxg _) (sz := 2) (fo := 1) (fun _ => rfl) (i := 4) (o := ⟨ma, n' + 1, mc, mh⟩) rfl hb7 hoM (by omega) (by decide) rfl rfl (⟨⟨#[102, 117, 114, 116, 104, 101, 114]⟩, oZ.a, oZ.n, oZ.c⟩ : Rq) rfl rfl (by rw [hlg]; rfl) fun o2 f1 f2 f3 ho2 => ?_
      obtain ⟨xa, xn, xc, h3⟩ := o2
      simp only at f1 f2 f3
      subst f1 f2 f3
      rw [hlset] at ho2
      refine ⟨(by repeat first | exact trivial | refine ⟨.inl rfl, ?_⟩ | refine ⟨.inr rfl, ?_⟩), ?_⟩
      exact ⟨(⟨xa, n' + 1, xc, h3⟩, oZ), ⟨ho2, hoZ⟩, Ent.mk (fun _ _ h => h.pick [0, 1, 3, 4, 6] rfl rfl) rfl rfl⟩
    clear hoM sM hlg hlset hlast
    rintro ⟨⟨ma, mn, mc, mh⟩, oZ⟩ ⟨hoM, hoZ⟩ _
    dsimp only at *
    have hmn : mn = n' + 1 := by have := hoM.len; dsimp only at this; rw [List.length_append, List.length_singleton] at this; omega
    subst hmn
    have sM := OwnO.sl (f := fQ) (fun _ => rfl) (by decide) hoM
    have sZ := OwnO.sl (f := fS) (fun _ => rfl) (by decide) hoZ
    -- free, twice
    refine NeedD.cut (Nat × Nat) (fun g => [(2, .v (.int .u8 wh)), (3, .bx 1 0), (7, .v (.func (.func 31) ⟨[]⟩ ⟨[]⟩)), (8, .v (.int .i64 M)), (11, .bx 2 0), (12, .bx 5 0), (13, .bx 6 0)]) (fun g => [.hp (Hp.whole w), .box b2 [.slice a n c, .slice a' n' c'] 25, .box b11 [.slice a n c, .slice ma (n' + 1) mc] 25, .hp mh, .hp oZ.h, .box g.1 [.slice a n c, .slice a' n' c'] 25, .box g.2 [.slice a n c, .slice a' n' c'] 25])
      (fun _ => True) (NeedD.by_order (cxg _) (.take 0 <| .take 1 <| .two 2 (.run 3 <| .run 4 <| .run 5 <| .done) 3 (.run 2 <| .run 4 <| .run 5 <| .done)) (by kernel_rfl) ?_) ?_
    · constructor
      · intro b12
        refine ⟨(by repeat first | exact trivial | refine ⟨.inl rfl, ?_⟩ | refine ⟨.inr rfl, ?_⟩), ?_⟩
        intro b13
        refine ⟨(by repeat first | exact trivial | refine ⟨.inl rfl, ?_⟩ | refine ⟨.inr rfl, ?_⟩), ?_⟩
        refine ⟨(by repeat first | exact trivial | refine ⟨.inl rfl, ?_⟩ | refine ⟨.inr rfl, ?_⟩), ?_⟩
        exact ⟨(b12, b13), trivial, Ent.mk (fun _ _ h => h) rfl rfl⟩
      · intro b13
        refine ⟨(by repeat first | exact trivial | refine ⟨.inl rfl, ?_⟩ | refine ⟨.inr rfl, ?_⟩), ?_⟩
        intro b12
        refine ⟨(by repeat first | exact trivial | refine ⟨.inl rfl, ?_⟩ | refine ⟨.inr rfl, ?_⟩), ?_⟩
        refine ⟨(by repeat first | exact trivial | refine ⟨.inl rfl, ?_⟩ | refine ⟨.inr rfl, ?_⟩), ?_⟩
        exact ⟨(b12, b13), trivial, Ent.mk (fun _ _ h => h.pick [0, 1, 2, 3, 4, 6, 5] rfl rfl) rfl rfl⟩
    rintro ⟨b12, b13⟩ _ _
    dsimp only
    refine NeedD.cut (Dw.Os × Dw.Os) (fun g => [(2, .v (.int .u8 wh)), (3, .bx 1 0), (7, .v (.func (.func 31) ⟨[]⟩ ⟨[]⟩)), (8, .v (.int .i64 M)), (11, .bx 2 0), (12, .bx 5 0), (13, .bx 6 0)]) (fun g => [.hp (Hp.whole w), .box b2 [.slice a n c, .slice a' n' c'] 25, .box b11 [.slice a n c, .slice ma (n' + 1) mc] 25, .hp mh, .hp oZ.h, .box b12 [.slice g.1.a n g.1.c, .slice a' n' c'] 25, .box b13 [.slice g.2.a n g.2.c, .slice a' n' c'] 25, .hp g.1.h, .hp g.2.h])
      (fun g => OwnO fR 64 4 g.1 RL ∧ OwnO fR 64 4 g.2 RL) (NeedD.by_order0 (s0 := [.hp (Hp.whole w), .box b2 [.slice a n c, .slice a' n' c'] 25, .box b11 [.slice a n c, .slice ma (n' + 1) mc] 25, .hp mh, .hp oZ.h, .hp Hp.emp, .hp Hp.emp]) (cxg _) (.take 0 <| .take 1 <| .take 3 <| .take 4 <| .run 2 <| .two 5 (.run 6 <| .run 7 <| .run 8 <| .run 9 <| .done) 6 (.run 5 <| .run 7 <| .run 8 <| .run 9 <| .done)) (by kernel_rfl) ((by repeat first | exact trivial | refine ⟨.inl rfl, ?_⟩ | refine ⟨.inr rfl, ?_⟩)) ?_) ?_
    · refine call (fun w' hm => cloneTasks_spec w' (hRL.mono (encF_mono _) (hm 0 _ rfl)) (by omega)) ?_
      rintro _ _ ⟨⟨fa, fn, fc, fh⟩, rfl, rfl, hoF⟩
      have lF := hoF.len
      dsimp only at lF
      have hfn : n = fn := by omega
      subst hfn
      refine ⟨(by repeat first | exact trivial | refine ⟨.inl rfl, ?_⟩ | refine ⟨.inr rfl, ?_⟩), ?_⟩
      constructor
      · skip
        refine call (fun w' hm => cloneTasks_spec w' (hRL.mono (encF_mono _) (hm 0 _ rfl)) (by omega)) ?_
        rintro _ _ ⟨⟨da, dn, dc, dh⟩, rfl, rfl, hoD⟩
        have lD := hoD.len
        dsimp only at lD
        have hdn : n = dn := by omega
        subst hdn
        refine ⟨(by repeat first | exact trivial | refine ⟨.inl rfl, ?_⟩ | refine ⟨.inr rfl, ?_⟩), ?_⟩
        refine ⟨(by repeat first | exact trivial | refine ⟨.inl rfl, ?_⟩ | refine ⟨.inr rfl, ?_⟩), ?_⟩
        refine ⟨(by repeat first | exact trivial | refine ⟨.inl rfl, ?_⟩ | refine ⟨.inr rfl, ?_⟩), ?_⟩
        exact ⟨(⟨fa, n, fc, fh⟩, ⟨da, n, dc, dh⟩), ⟨hoF, hoD⟩, Ent.mk (fun _ _ h => h) rfl rfl⟩
      · skip
        refine ⟨(by repeat first | exact trivial | refine ⟨.inl rfl, ?_⟩ | refine ⟨.inr rfl, ?_⟩), ?_⟩
        refine call (fun w' hm => cloneTasks_spec w' (hRL.mono (encF_mono _) (hm 0 _ rfl)) (by omega)) ?_
        rintro _ _ ⟨⟨da, dn, dc, dh⟩, rfl, rfl, hoD⟩
        have lD := hoD.len
        dsimp only at lD
        have hdn : n = dn := by omega
        subst hdn
        refine ⟨(by repeat first | exact trivial | refine ⟨.inl rfl, ?_⟩ | refine ⟨.inr rfl, ?_⟩), ?_⟩
        refine ⟨(by repeat first | exact trivial | refine ⟨.inl rfl, ?_⟩ | refine ⟨.inr rfl, ?_⟩), ?_⟩
        exact ⟨(⟨fa, n, fc, fh⟩, ⟨da, n, dc, dh⟩), ⟨hoF, hoD⟩, Ent.mk (fun _ _ h => h) rfl rfl⟩
    rintro ⟨⟨fa, fn, fc, fh⟩, ⟨da, dn, dc, dh⟩⟩ ⟨hoF, hoD⟩ _
    dsimp only at *
    have hfn : n = fn := by
      have e : fn = RL.length := hoF.len
      omega
    subst hfn
    have hdn : n = dn := by
      have e : dn = RL.length := hoD.len
      omega
    subst hdn
    obtain ⟨j, hj, hjl⟩ : ∃ j : Nat, (j : Int) = wh % (n : Int) ∧ j < TT.length := ⟨(wh % (n : Int)).toNat, Int.toNat_of_nonneg (Int.emod_nonneg _ (by omega)), by
      have := Int.emod_lt_of_pos wh (show (0 : Int) < n by omega)
      have := Int.emod_nonneg wh (show (n : Int) ≠ 0 by omega)
      omega⟩
    have hjR : j < RL.length := by omega
    refine NeedD.cut Hp (fun g => [(7, .v (.func (.func 31) ⟨[]⟩ ⟨[]⟩)), (8, .v (.int .i64 M)), (11, .bx 2 0), (12, .bx 5 0), (13, .bx 6 0)]) (fun g => [.hp (Hp.whole w), .box b2 [.slice a n c, .slice a' n' c'] 25, .box b11 [.slice a n c, .slice ma (n' + 1) mc] 25, .hp mh, .hp oZ.h, .box b12 [.slice fa n fc, .slice a' n' c'] 25, .box b13 [.slice da n dc, .slice a' n' c'] 25, .hp g, .hp dh])
      (fun g => OwnO fR 64 4 ⟨fa, n, fc, g⟩ (RL.set j (nlR RL[j]))) (NeedD.by_order0 (cxg _) (.take 0 <| .take 1 <| .take 2 <| .take 3 <| .take 4 <| .take 5 <| .take 6 <| .take 7 <| .take 8 <| .take 9 <| .run 10 <| .done) (by kernel_rfl) (subL_blank _ 7) ?_) ?_
    · refine nw (by omega) (by omega) ?_
      refine qRemI (by omega) (by omega) ?_
      rw [← hj]
      refine oidxN (cxg _) (e := 64) rfl (o := ⟨fa, n, fc, fh⟩) hoF j rfl hjR fun b7 hb7 => ?_
      refine ostF (f := fR) (cxg _) (sz := 4) (fo := 3) (fun _ => rfl) (i := 7) (o := ⟨fa, n, fc, fh⟩) rfl hb7 hoF hjR (by decide) rfl rfl (nlR RL[j]) rfl rfl rfl fun o2 f1 f2 f3 ho2 => ?_
      obtain ⟨xa, xn, xc, h3⟩ := o2
      simp only at f1 f2 f3
      subst f1 f2 f3
      refine ⟨(by repeat first | exact trivial | refine ⟨.inl rfl, ?_⟩ | refine ⟨.inr rfl, ?_⟩), ?_⟩
      exact ⟨h3, ho2, Ent.mk (fun _ _ h => h) rfl rfl⟩
    clear hoF
    rintro fh2 hoF _
    dsimp only at *
    have sF := OwnO.sl (f := fR) (fun _ => rfl) (by decide) hoF
    refine NeedL.mk (Nat × List Rw × Hp) (fun g => [(7, .v (.func (.func 31) ⟨[]⟩ ⟨[]⟩)), (8, .v (.int .i64 M)), (11, .bx 2 0), (12, .bx 5 0), (13, .bx 6 0), (110, .v (.int .i64 n)), (111, .v (.int .i64 g.1))]) (fun g => [.hp (Hp.whole w), .box b2 [.slice a n c, .slice a' n' c'] 25, .box b11 [.slice a n c, .slice ma (n' + 1) mc] 25, .hp mh, .hp oZ.h, .box b12 [.slice fa n fc, .slice a' n' c'] 25, .box b13 [.slice da n dc, .slice a' n' c'] 25, .hp fh2, .hp g.2.2])
      (fun g => g.1 ≤ n ∧ (g.2.1.length = RL.length ∧ ∀ i (h1 : i < g.2.1.length) (h2 : i < RL.length), g.2.1[i] = if i < g.1 then dbR RL[i] else RL[i]) ∧ OwnO fR 64 4 ⟨da, n, dc, g.2.2⟩ g.2.1) (fun g => n - g.1) (0, RL, dh)
      ⟨Nat.zero_le _, ⟨rfl, fun i h1 h2 => by rw [if_neg (Nat.not_lt_zero i)]⟩, hoD⟩ (Ent.mk (fun _ _ h => h) rfl rfl) ?_
    clear hoD
    rintro ⟨k, R2, dh⟩ ⟨hk, ⟨hRl, hRg⟩, hoD⟩
    dsimp only at *
    have sD := OwnO.sl (f := fR) (fun _ => rfl) (by decide) hoD
    refine bsplitd (fun h6 => ?_) (fun h6 => ?_)
    · have hk2 : k < R2.length := by omega
      have hkR : k < RL.length := by omega
      have hkT : k < TT.length := by omega
      obtain ⟨r, hr⟩ : ∃ r, r = RL[k] := ⟨_, rfl⟩
      have hR2k : R2[k] = r := by rw [hRg k hk2 hkR, if_neg (Nat.lt_irrefl k), hr]
      have hrd := (hRt.2 k hkR hkT).2.1
      rw [← hr] at hrd
      have hdu := hF.du _ (List.getElem_mem hkT)
      rw [← hrd] at hdu
      refine idx (cxg _) (e := 64) rfl sD k rfl hk2 (fun b9 o9 cs hcs hR9 hcell9 => ?_)
      rw [hR2k] at hR9
      subst hR9
      refine ld1 (cxg _) (i := 8) rfl (hcell9 1 _ rfl) rfl ?_
      refine nw (by omega) (by omega) ?_
      refine oidxN (cxg _) (e := 64) rfl (o := ⟨da, n, dc, dh⟩) hoD k rfl hk2 fun b7 hb7 => ?_
      refine ostF (f := fR) (cxg _) (sz := 4) (fo := 1) (fun _ => rfl) (i := 8) (o := ⟨da, n, dc, dh⟩) rfl hb7 hoD hk2 (by decide) rfl rfl (dbR r) rfl rfl (by rw [hR2k]; rfl) fun o2 f1 f2 f3 ho2 => ?_
      obtain ⟨xa, xn, xc, h3⟩ := o2
      simp only at f1 f2 f3
      subst f1 f2 f3
      refine nw (by omega) (by omega) ?_
      refine ⟨(k + 1, R2.set k (dbR r), h3), ⟨by dsimp only; omega, ⟨by dsimp only; rw [List.length_set]; exact hRl, fun i h1 h2 => ?_⟩, ho2⟩, by dsimp only; omega, Ent.mk (fun _ _ h => h) rfl rfl⟩
      dsimp only at h1 ⊢
      rw [List.getElem_set]
      by_cases hik : k = i
      · subst hik
        rw [if_pos rfl, if_pos (Nat.lt_succ_self k), ← hr]
      · rw [if_neg hik]
        rw [List.length_set] at h1
        rw [hRg i h1 h2]
        by_cases h7 : i < k
        · rw [if_pos h7, if_pos (by omega)]
        · rw [if_neg h7, if_neg (by omega)]
    have hkn : k = n := by omega
    have hR2 : ∀ i (h1 : i < R2.length) (h2 : i < RL.length), R2[i] = dbR RL[i] := fun i h1 h2 => by rw [hRg i h1 h2, if_pos (by omega)]
    clear hRg h6
    subst hkn
    -- the three shops
    obtain ⟨SSm, hSm⟩ : ∃ SSm, SSm = SS ++ [(⟨⟨#[102, 117, 114, 116, 104, 101, 114]⟩, ts⟩ : Sn)] := ⟨_, rfl⟩
    have hsm : Sml TT SSm := by rw [hSm]; exact sml_more hs (by omega) lts
    have hstm : StB TT SSm := by rw [hSm]; exact stb_more hst (by show (ByteArray.mk #[102, 117, 114, 116, 104, 101, 114]).size ≤ 50; decide) (by rw [hts]; exact (hst.s _ (List.getElem_mem hS0)).2)
    have rM : ∀ {w' : World}, (Hp.whole w).In w' → mh.In w' → oZ.h.In w' → Sl encN 2 (Hp.whole w') ma (n' + 1) mc SSm := fun {w'} h0 h1 h2 => by
      rw [hSm]; exact rq_sl (sM.mono (encF_mono _) h1) (rdq_snoc (hRd.mono h0) (sZ.mono (encF_mono _) h2))
    have rF : ∀ {w' : World}, (Hp.whole w).In w' → fh2.In w' → Sl encT 4 (Hp.whole w') fa k fc (frT TT j) := fun {w'} h0 h1 => rw_sl (sF.mono (encF_mono _) h1) (rdr_free (hRt.mono h0) hjR)
    have rD : ∀ {w' : World}, (Hp.whole w).In w' → dh.In w' → Sl encT 4 (Hp.whole w') da k dc (twT TT) := fun {w'} h0 h1 => rw_sl (sD.mono (encF_mono _) h1) (rdr_twice (hRt.mono h0) hRl hR2)
    have hlt : (twT TT).length = TT.length := by unfold twT; rw [List.length_map]
    have hlf := fr_len TT j
    obtain ⟨E1, hE1⟩ : ∃ E, E = shopE TT SSm := ⟨_, rfl⟩
    obtain ⟨E3, hE3⟩ : ∃ E, E = shopE (twT TT) SS := ⟨_, rfl⟩
    obtain ⟨M2, hM2⟩ : ∃ M, M = mspF (frT TT j) (bstR (frT TT j) SS) := ⟨_, rfl⟩
    have hfE := fr_shop hs hE hjl
    have hM2r := best_rng (fit_of (fr_sml (j := j) hs) hfE) hfE (by omega)
    have hM2l := best_free hs hE (by omega) hjl
    rw [← hM2] at hM2r hM2l
    rw [← hMd] at hM2l
    have kC1 : ∀ {w' : World}, (Hp.whole w).In w' → mh.In w' → oZ.h.In w' → CallsE Tryz.prog 35 #[sv a k c ma (n' + 1) mc] w' (RetV w' (.int .i64 E1)) := fun {w'} h0 h1 h2 => by
      rw [hE1]; exact Check49_spec w' (hT.mono encT_mono h0) (rM h0 h1 h2) hsm hstm
    have kC3 : ∀ {w' : World}, (Hp.whole w).In w' → dh.In w' → CallsE Tryz.prog 35 #[sv da k dc a' n' c'] w' (RetV w' (.int .i64 E3)) := fun {w'} h0 h1 => by
      rw [hE3]; exact Check49_spec w' (rD h0 h1) (hS.mono encN_mono h0) (tw_sml hs) (stb_twice hst)
    have kL1 : ∀ {w' : World}, E1 = 0 → (Hp.whole w).In w' → mh.In w' → oZ.h.In w' → CallsE Tryz.prog 31 #[sv a k c ma (n' + 1) mc] w' (RetV w' (.int .i64 (mspF TT (bstR TT SSm)))) := fun {w'} h h0 h1 h2 => len50_spec w' (hT.mono encT_mono h0) (rM h0 h1 h2) hsm (by rw [← hE1]; exact h) (by omega)
    have kL2 : ∀ {w' : World}, (Hp.whole w).In w' → fh2.In w' → CallsE Tryz.prog 31 #[sv fa k fc a' n' c'] w' (RetV w' (.int .i64 M2)) := fun {w'} h0 h1 => by
      rw [hM2]; exact len50_spec w' (rF h0 h1) (hS.mono encN_mono h0) (fr_sml hs) hfE (by omega)
    have kL3 : ∀ {w' : World}, E3 = 0 → (Hp.whole w).In w' → dh.In w' → CallsE Tryz.prog 31 #[sv da k dc a' n' c'] w' (RetV w' (.int .i64 (2 * M))) := fun {w'} h h0 h1 => by
      rw [hMd, ← best_twice hs hE (by rw [← hE3]; exact h) (by omega)]
      exact len50_spec w' (rD h0 h1) (hS.mono encN_mono h0) (tw_sml hs) (by rw [← hE3]; exact h) (by omega)
    obtain ⟨M1, hM1⟩ : ∃ M, M = mspF TT (bstR TT SSm) := ⟨_, rfl⟩
    have hM1l : E1 = 0 → 0 ≤ M1 ∧ M1 ≤ M := fun h => by
      have hEm : shopE TT SSm = 0 := by rw [← hE1]; exact h
      refine ⟨by rw [hM1]; exact (best_rng (fit_of hsm hEm) hEm (by omega)).1, ?_⟩
      rw [hM1, hMd, hSm]
      exact best_more hF hE (by rw [← hSm]; exact hEm) (by omega)
    rw [← hM1] at kL1
    clear hE1 hE3 hM1 hM2 hSm
    refine hideQ (fun _ k19 => ?_)
    by_cases h1 : E1 = 0
    · obtain ⟨m10, m1l⟩ := hM1l h1
      refine hideK 8 (fun _ k1 => ?_)
      refine callV (.int .i64 0) (fun w' hm => by have := kC1 (hm 0 _ rfl) (hm 3 _ rfl) (hm 4 _ rfl); rwa [h1] at this) ?_
      refine callV (.int .i64 M1) (fun w' hm => kL1 h1 (hm 0 _ rfl) (hm 3 _ rfl) (hm 4 _ rfl)) ?_
      refine k1 _ _ ?_
      rw [decide_eq_false (show ¬ M1 < 0 by omega)]
      refine hideK 6 (fun _ k2 => ?_)
      refine callV (.int .i64 M1) (fun w' hm => kL1 h1 (hm 0 _ rfl) (hm 3 _ rfl) (hm 4 _ rfl)) ?_
      refine k2 _ _ ?_
      rw [decide_eq_false (show ¬ M1 > M by omega)]
      refine k19 _ _ ?_
      refine condF rfl ?_
      refine callV (.int .i64 M2) (fun w' hm => kL2 (hm 0 _ rfl) (hm 7 _ rfl)) ?_
      refine hideQ (fun _ kz => kz _ _ ?_)
      by_cases h3 : E3 = 0
      · refine hideK 2 (fun _ k1 => ?_)
        refine k1 _ _ ?_
        rw [decide_eq_true (show M2 ≥ 0 by omega)]
        refine hideK 4 (fun _ k2 => ?_)
        refine k2 _ _ ?_
        rw [decide_eq_true (show M2 ≤ M by omega)]
        refine hideK 12 (fun _ k3 => ?_)
        refine callV (.int .i64 0) (fun w' hm => by have := kC3 (hm 0 _ rfl) (hm 8 _ rfl); rwa [h3] at this) ?_
        refine callV (.int .i64 (2 * M)) (fun w' hm => kL3 h3 (hm 0 _ rfl) (hm 8 _ rfl)) ?_
        refine nw (by omega) (by omega) ?_
        refine k3 _ _ ?_
        rw [decide_eq_true (rfl : 2 * M = 2 * M)]
        exact ⟨[], ⟨rfl, rfl⟩, fun w' h => h.pick [0] rfl rfl⟩
      · refine hideK 2 (fun _ k1 => ?_)
        refine k1 _ _ ?_
        rw [decide_eq_true (show M2 ≥ 0 by omega)]
        refine hideK 4 (fun _ k2 => ?_)
        refine k2 _ _ ?_
        rw [decide_eq_true (show M2 ≤ M by omega)]
        refine hideK 5 (fun _ k3 => ?_)
        refine callV (.int .i64 E3) (fun w' hm => kC3 (hm 0 _ rfl) (hm 8 _ rfl)) ?_
        refine k3 _ _ ?_
        rw [decide_eq_true (show E3 ≠ 0 from h3)]
        exact ⟨[], ⟨rfl, rfl⟩, fun w' h => h.pick [0] rfl rfl⟩
    · refine hideK 3 (fun _ k1 => ?_)
      refine callV (.int .i64 E1) (fun w' hm => kC1 (hm 0 _ rfl) (hm 3 _ rfl) (hm 4 _ rfl)) ?_
      refine k1 _ _ ?_
      rw [decide_eq_false h1]
      refine k19 _ _ ?_
      refine condF rfl ?_
      refine callV (.int .i64 M2) (fun w' hm => kL2 (hm 0 _ rfl) (hm 7 _ rfl)) ?_
      refine hideQ (fun _ kz => kz _ _ ?_)
      by_cases h3 : E3 = 0
      · refine hideK 2 (fun _ k1 => ?_)
        refine k1 _ _ ?_
        rw [decide_eq_true (show M2 ≥ 0 by omega)]
        refine hideK 4 (fun _ k2 => ?_)
        refine k2 _ _ ?_
        rw [decide_eq_true (show M2 ≤ M by omega)]
        refine hideK 12 (fun _ k3 => ?_)
        refine callV (.int .i64 0) (fun w' hm => by have := kC3 (hm 0 _ rfl) (hm 8 _ rfl); rwa [h3] at this) ?_
        refine callV (.int .i64 (2 * M)) (fun w' hm => kL3 h3 (hm 0 _ rfl) (hm 8 _ rfl)) ?_
        refine nw (by omega) (by omega) ?_
        refine k3 _ _ ?_
        rw [decide_eq_true (rfl : 2 * M = 2 * M)]
        exact ⟨[], ⟨rfl, rfl⟩, fun w' h => h.pick [0] rfl rfl⟩
      · refine hideK 2 (fun _ k1 => ?_)
        refine k1 _ _ ?_
        rw [decide_eq_true (show M2 ≥ 0 by omega)]
        refine hideK 4 (fun _ k2 => ?_)
        refine k2 _ _ ?_
        rw [decide_eq_true (show M2 ≤ M by omega)]
        refine hideK 5 (fun _ k3 => ?_)
        refine callV (.int .i64 E3) (fun w' hm => kC3 (hm 0 _ rfl) (hm 8 _ rfl)) ?_
        refine k3 _ _ ?_
        rw [decide_eq_true (show E3 ≠ 0 from h3)]
        exact ⟨[], ⟨rfl, rfl⟩, fun w' h => h.pick [0] rfl rfl⟩
end
end Go.Proofs.YtnlkffccobdbjaaGreat
