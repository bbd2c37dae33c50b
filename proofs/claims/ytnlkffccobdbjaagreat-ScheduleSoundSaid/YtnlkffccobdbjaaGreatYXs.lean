/- Contract of the model of layer 50: list. Its premises are its own. -/
import Derived.Test.YtnlkffccobdbjaaGreatYXr
import Derived.Test.YtnlkffccobdbjaaGreatYX5
namespace Go.Proofs.YtnlkffccobdbjaaGreat
open Go Go.RowKit Go.Dw
theorem lis_step (TT : List Tk) (SS : List Sn) (order : List Int) (m : Nat) : lisK TT SS order (m + 1) = (putJ TT (lisK TT SS order m).1 (lisK TT SS order m).2.2 (lisI TT (lisK TT SS order m).2.1 order) (bstK TT SS (lisK TT SS order m).1 (lisK TT SS order m).2.2 (lisI TT (lisK TT SS order m).2.1 order) SS.length).toNat, (lisK TT SS order m).2.1.set (lisI TT (lisK TT SS order m).2.1 order) true, putF TT (lisK TT SS order m).1 (lisK TT SS order m).2.2 (lisI TT (lisK TT SS order m).2.1 order) (bstK TT SS (lisK TT SS order m).1 (lisK TT SS order m).2.2 (lisI TT (lisK TT SS order m).2.1 order) SS.length).toNat) := rfl
set_option maxHeartbeats 2000000 in
set_option maxRecDepth 10000 in
theorem list50_spec {a a' : Option Addr} {n c n' c' : Nat} {TT : List Tk} {SS : List Sn} {oa : Option Addr} {on oc : Nat} {order : List Int} (w : World) (hT : Sl encT 4 (Hp.whole w) a n c TT) (hS : Sl encN 2 (Hp.whole w) a' n' c' SS) (hs : Sml TT SS) (hE : shopE TT SS = 0) (hO : Sl (encF fI) 1 (Hp.whole w) oa on oc order)
    (hOk : OrdOk TT.length order) :
    CallsE Tryz.prog 28 #[sv a n c a' n' c', .slice oa on oc] w (Ret w fun v cs => ∃ o : Dw.Os, v = o.v ∧ cs = [.hp o.h] ∧ OwnO fJ 52 3 o (lisK TT SS order order.length).1) := by
  have hlen := hT.len
  have hlen' := hS.len
  have hon := hO.len
  have hF := fit_of hs hE
  have hN := hF.n
  obtain ⟨hol, hor, hoa⟩ := hOk
  obtain ⟨_, hM, _, hfull, _, hcan⟩ := shop_ok hE
  refine enter (X := cx 128) (cxg _) (args := [.agg #[.slice a n c, .slice a' n' c'], .slice oa on oc]) [.tmp 4] Tryz.func28 rfl rfl rfl rfl rfl ?_
  intro b2
  refine mkO (f := fJ) (cxg _) (e := 52) rfl TT.length (0, 0, 0) rfl (by omega) (by omega) rfl (by omega) fun oJ hoJn hoJ => ?_
  refine mkO (f := fB) (cxg _) (e := 4) rfl TT.length false rfl (by omega) (by omega) rfl (by omega) fun oD hoDn hoD => ?_
  intro b6
  refine mkO (f := fI) (cxg _) (e := 3) rfl SS.length 0 rfl (by omega) (by omega) rfl (by omega) fun oF hoFn hoF => ?_
  refine NeedL.mkS (Nat × Hp × Hp × Hp) (fun g => [(1, .v (.slice oa on oc)), (2, .bx 1 0), (5, .v oJ.v), (6, .bx 4 0), (7, .v oF.v), (29, .v (.int .i64 n)), (30, .v (.int .i64 g.1))])
    (fun g => [.hp (Hp.whole w), .box b2 [.slice a n c, .slice a' n' c'] 25, .hp g.2.1, .hp g.2.2.1, .box b6 [oD.v] 99, .hp g.2.2.2])
    (fun g => g.1 ≤ n ∧ Inv TT SS (lisK TT SS order g.1) g.1 ∧ OwnO fJ 52 3 ⟨oJ.a, oJ.n, oJ.c, g.2.1⟩ (lisK TT SS order g.1).1 ∧ OwnO fB 4 1 ⟨oD.a, oD.n, oD.c, g.2.2.1⟩ (lisK TT SS order g.1).2.1 ∧ OwnO fI 3 1 ⟨oF.a, oF.n, oF.c, g.2.2.2⟩ (lisK TT SS order g.1).2.2) (fun g => n - g.1)
    (0, oJ.h, oD.h, oF.h) ⟨Nat.zero_le _, Inv.zero TT SS, hoJ, hoD, hoF⟩ (Ent.mk (fun _ _ h => h) rfl rfl) ?_
  clear hoJ hoD hoF
  rintro ⟨m, hJ, hD, hFr⟩ ⟨hm, hI, hoJ, hoD, hoF⟩ hsat
  dsimp only at *
  have hm100 : m ≤ 100 := by omega
  obtain ⟨st, hst⟩ : ∃ st, st = lisK TT SS order m := ⟨_, rfl⟩
  have hnext := lis_step TT SS order m
  rw [← hst] at hI hoJ hoD hoF hnext
  obtain ⟨J, D, Fr⟩ := st
  dsimp only at *
  have sJ := OwnO.sl (f := fJ) (fun _ => rfl) (by decide) hoJ
  have sD := OwnO.sl (f := fB) (fun _ => rfl) (by decide) hoD
  have sF := OwnO.sl (f := fI) (fun _ => rfl) (by decide) hoF
  have lJ : J.length = TT.length := hI.jl
  have lF : Fr.length = SS.length := hI.fl
  refine bsplitd (fun hlt => ?_) (fun hge => ?_)
  · obtain ⟨S, hSd, hSn, hSl⟩ := hI.dl
    dsimp only at hSd
    have lD : D.length = TT.length := by rw [hSd, dnL_len]
    have hany : order.any (fun x => opnF TT D x.toNat) = true := by
      obtain ⟨i, hi, hr⟩ := ex_open hfull (S := S) (by omega)
      refine List.any_eq_true.2 ⟨(i : Int), hoa i hi, ?_⟩
      rw [Int.toNat_natCast, hSd, opn_rdy hi (hF.ar _ (List.getElem_mem hi))]
      exact hr
    obtain ⟨z1, z2, z3⟩ := idx_get hany
    obtain ⟨z, hz⟩ : ∃ z, z = idxBy (fun x => opnF TT D x.toNat) order := ⟨_, rfl⟩
    obtain ⟨i, hid⟩ : ∃ i, i = lisI TT D order := ⟨_, rfl⟩
    have hiz : (order[(idxBy (fun x => opnF TT D x.toNat) order).toNat]'z1) = (i : Int) := by
      have := hor _ (List.getElem_mem z1)
      rw [hid]; unfold lisI; rw [gD z1]; omega
    have hi : i < TT.length := by have := hor _ (List.getElem_mem z1); omega
    have hop : opnF TT D i = true := by rw [hiz] at z3; simpa using z3
    rw [← hz] at z2
    have hkz : z.toNat < order.length := by rw [hz]; exact z1
    have hiz' : order[z.toNat]'hkz = (i : Int) := by
      have : ∀ (y : Int) (hy : y = z) (h : y.toNat < order.length), order[y.toNat] = (i : Int) → order[z.toNat]'hkz = (i : Int) := fun y hy h e => by subst hy; exact e
      exact this _ hz.symm z1 hiz
    rw [← hid] at hnext
    have kI : ∀ w' : World, Sl (encF fI) 1 (Hp.whole w') oa on oc order → Sl encT 4 (Hp.whole w') a n c TT → Sl (encF fB) 1 (Hp.whole w') oD.a oD.n oD.c D → Bx (Hp.whole w') b6 [oD.v] → Bx (Hp.whole w') b2 [.slice a n c, .slice a' n' c'] →
        CallsE Tryz.prog 76 #[.slice oa on oc, .func (.func 77) ⟨[]⟩ ⟨[.pointer (some ⟨b6, 0, none⟩), .pointer (some ⟨b2, 0, none⟩)]⟩] w' (RetV w' (.int .i64 z)) := fun w' h1 h2 h3 h4 h5 => by
      rw [hz]
      refine indexFuncIntsL_spec 77 _ _ w' h1 (by omega) (fun w2 g x hx => ?_)
      have hxr := hor x hx
      obtain ⟨v, rfl⟩ : ∃ v : Nat, x = v := ⟨x.toNat, by omega⟩
      rw [Int.toNat_natCast]
      exact list50b_spec v w2 (h4.mono g.whole) (h5.mono g.whole) (h3.mono (encF_mono _) g.whole) (h2.mono encT_mono g.whole) hF (by omega) lD
    refine callV _ (fun w' hm => kI w' (hO.mono (encF_mono _) (hm 0 _ rfl)) (hT.mono encT_mono (hm 0 _ rfl)) (sD.mono (encF_mono _) (hm 3 _ rfl)) (Bx.of (hm 4 _ rfl)) (Bx.of (hm 1 _ rfl))) ?_
    refine idx (cxg _) (e := 3) rfl hO z.toNat (by omega) hkz (fun b9 o9 cs hcs hR hcell => ?_)
    rw [hiz'] at hR
    subst hR
    refine ld1 (cxg _) (i := 0) rfl (hcell 0 _ rfl) rfl ?_
    clear kI hany
    obtain ⟨t, ht⟩ : ∃ t, t = TT[i] := ⟨_, rfl⟩
    have htm : t ∈ TT := by rw [ht]; exact List.getElem_mem hi
    have haf : afA TT i = t.af := by unfold afA; rw [tk_get hi, ← ht]
    have hal := hF.al t htm
    have har := hF.ar t htm
    have hok := hI.ok hm100
    have hrd : rdyJ TT J i = t.af.foldl (fun t k => max t (endF TT (J.getD k.toNat (0, 0, 0)))) 0 := by unfold rdyJ; rw [tk_get hi, ← ht]
    refine idx (cxg _) (e := 64) rfl hT i rfl hi (fun b9 o9 cs hcs hR hcell3 => ?_)
    rw [← ht] at hR
    obtain ⟨a3, n3, c3, rfl, hs3⟩ := hR
    have l3 := hs3.len
    refine ld1 (cxg _) (i := 0) rfl (hcell3 3 _ rfl) rfl ?_
    obtain ⟨A, hP, hA⟩ := lis_run hF hE ⟨hol, hor, hoa⟩ m (by omega)
    rw [← hst] at hP
    obtain ⟨hiA, hafA⟩ := (hP.opn hF hi).1 hop
    rw [haf] at hafA
    have hN24 := hF.n
    have hb0 : ∀ x ∈ t.af, (J.getD x.toNat (0, 0, 0)).1 = x.toNat ∧ 0 ≤ (J.getD x.toNat (0, 0, 0)).2.2 ∧ (J.getD x.toNat (0, 0, 0)).2.2 ≤ 100000000 := fun x hx => by
      have h1 := hP.tk _ (hafA x hx)
      have h2 := hP.s0 _ (hafA x hx)
      have h3 := hF.d (hP.lt _ (hafA x hx))
      unfold stA at h2
      unfold jbA at h1 h2
      dsimp only at h1 h2
      exact ⟨h1, h2.1, by omega⟩
    refine NeedL.mk (Nat × Int) (fun g => [(1, .v (.slice oa on oc)), (2, .bx 1 0), (5, .v oJ.v), (6, .bx 4 0), (7, .v oF.v), (9, .v (.int .i64 i)), (10, .v (.int .i64 g.2)), (29, .v (.int .i64 n)), (30, .v (.int .i64 m)), (44, .v (.slice a3 n3 c3)), (45, .v (.int .i64 n3)), (46, .v (.int .i64 g.1))])
      (fun _ => [.hp (Hp.whole w), .box b2 [.slice a n c, .slice a' n' c'] 25, .hp hJ, .hp hD, .box b6 [oD.v] 99, .hp hFr])
      (fun g => g.1 ≤ n3 ∧ g.2 = (t.af.take g.1).foldl (fun t k => max t (endF TT (J.getD k.toNat (0, 0, 0)))) 0 ∧ 0 ≤ g.2 ∧ g.2 ≤ 1000000000) (fun g => n3 - g.1) (0, 0) ⟨Nat.zero_le _, rfl, Int.le_refl _, by decide⟩ (Ent.mk (fun _ _ h => h) rfl rfl) ?_
    rintro ⟨q, mx⟩ ⟨hq, hmx, hmx0, hmx1⟩
    dsimp only at *
    refine bsplitd (fun h4 => ?_) (fun h4 => ?_)
    · have hqt : q < t.af.length := by omega
      obtain ⟨x, hx⟩ : ∃ x, x = t.af[q] := ⟨_, rfl⟩
      have hxm : x ∈ t.af := by rw [hx]; exact List.getElem_mem hqt
      have hxr := har x hxm
      obtain ⟨v, rfl⟩ : ∃ v : Nat, x = v := ⟨x.toNat, by omega⟩
      have hv : v < TT.length := by omega
      have hvJ : v < J.length := by omega
      have hbx := hb0 _ hxm
      rw [Int.toNat_natCast, gD hvJ] at hbx
      obtain ⟨j, hj⟩ : ∃ j, j = J[v] := ⟨_, rfl⟩
      rw [← hj] at hbx
      obtain ⟨j1, j2, j3⟩ := j
      dsimp only at hbx
      obtain ⟨rfl, hj30, hj31⟩ := hbx
      obtain ⟨u, hu⟩ : ∃ u, u = TT[v] := ⟨_, rfl⟩
      have hdu := hF.du u (by rw [hu]; exact List.getElem_mem hv)
      have hst2 : max mx (j3 + u.du) = (t.af.take (q + 1)).foldl (fun t k => max t (endF TT (J.getD k.toNat (0, 0, 0)))) 0 := by
        rw [List.take_succ_eq_append_getElem hqt, List.foldl_append, ← hmx, ← hx]
        show max mx (j3 + u.du) = max mx (endF TT (J.getD v (0, 0, 0)))
        rw [gD hvJ, ← hj]
        unfold endF
        dsimp only
        rw [Int.toNat_natCast, tk_get hv, ← hu]
      refine idx (cxg _) (e := 3) rfl hs3 q rfl hqt (fun b9 o9 cs hcs hR hcell5 => ?_)
      subst hR
      rw [← hx] at hcell5
      refine ld1 (cxg _) (i := 0) rfl (hcell5 0 _ rfl) rfl ?_
      refine NeedD.by_order (cxg _) (.take 0 <| .take 1 <| .take 2 <| .take 3 <| .take 4 <| .take 5 <| .take 6 <| .take 7 <| .take 8 <| .take 9 <| .take 10 <| .take 11 <| .take 12 <| .run 13 <| .take 14 <| .done) (by kernel_rfl) ?_
      refine idx (cxg _) (e := 52) rfl sJ v rfl hvJ (fun b9 o9 cs hcs hR hcell6 => ?_)
      rw [← hj] at hR
      subst hR
      refine ld1 (cxg _) (i := 2) rfl (hcell6 2 _ rfl) rfl ?_
      refine idx (cxg _) (e := 64) rfl hT v rfl hv (fun b9 o9 cs hcs hR hcell7 => ?_)
      rw [← hu] at hR
      obtain ⟨a4, n4, c4, rfl, hs4⟩ := hR
      refine ld1 (cxg _) (i := 0) rfl (hcell7 1 _ rfl) rfl ?_
      refine nw (by dsimp only; omega) (by dsimp only; omega) ?_
      refine qMax ?_
      refine ⟨(by repeat first | exact trivial | refine ⟨.inl rfl, ?_⟩ | refine ⟨.inr rfl, ?_⟩), ?_⟩
      refine nw (by omega) (by omega) ?_
      exact ⟨(q + 1, max mx (j3 + u.du)), ⟨by dsimp only; omega, hst2, by dsimp only; omega, by dsimp only; omega⟩, by dsimp only; omega, Ent.mk (fun _ _ h => h) rfl rfl⟩
    rw [List.take_of_length_le (by omega), ← hrd] at hmx
    obtain ⟨R, hR0⟩ : ∃ R, R = rdyJ TT J i := ⟨_, rfl⟩
    rw [← hR0] at hmx
    subst hmx
    have hsta0 : ∀ k (hk : k < Fr.length), staF TT J Fr i k = max Fr[k] mx := fun k hk => by unfold staF; rw [gD hk, ← hR0]
    clear hrd hq h4
    refine NeedL.mk Nat (fun k => [(1, .v (.slice oa on oc)), (2, .bx 1 0), (5, .v oJ.v), (6, .bx 4 0), (7, .v oF.v), (9, .v (.int .i64 i)), (10, .v (.int .i64 mx)), (13, .v (.int .i64 (bstK TT SS J Fr i k))), (29, .v (.int .i64 n)), (30, .v (.int .i64 m)), (67, .v (.int .i64 n')), (68, .v (.int .i64 k))])
      (fun _ => [.hp (Hp.whole w), .box b2 [.slice a n c, .slice a' n' c'] 25, .hp hJ, .hp hD, .box b6 [oD.v] 99, .hp hFr])
      (fun k => k ≤ n') (fun k => n' - k) 0 (Nat.zero_le _) (Ent.mk (fun _ _ h => h) rfl rfl) ?_
    rintro k hk
    refine bsplitd (fun hltk => ?_) (fun hgek => ?_)
    · have hkS : k < SS.length := by omega
      have hkF : k < Fr.length := by omega
      obtain ⟨r1, r2, _⟩ := bst_rng TT SS J Fr i k
      obtain ⟨B, hB⟩ : ∃ B, B = bstK TT SS J Fr i k := ⟨_, rfl⟩
      obtain ⟨ca, hca⟩ : ∃ ca, ca = caA TT SS i k := ⟨_, rfl⟩
      have hst2 : bstK TT SS J Fr i (k + 1) = if ca && (decide (B < 0) || decide (staF TT J Fr i k < staF TT J Fr i B.toNat)) then (k : Int) else B := by
        rw [hca, hB]; rfl
      rw [← hB] at r1 r2 ⊢
      have kA : ∀ w' : World, Sl encT 4 (Hp.whole w') a n c TT → Sl encN 2 (Hp.whole w') a' n' c' SS → CallsE Tryz.prog 69 #[sv a n c a' n' c', .int .i64 i, .int .i64 k] w' (RetV w' (.bool ca)) := fun w' h1 h2 => by
        rw [hca]; exact able50_spec i k w' h1 h2 hs hi hkS
      obtain ⟨s1, hs1⟩ : ∃ s1, s1 = staF TT J Fr i k := ⟨_, rfl⟩
      obtain ⟨s2, hs2⟩ : ∃ s2, s2 = staF TT J Fr i B.toNat := ⟨_, rfl⟩
      obtain ⟨y1, hy1⟩ : ∃ y1, y1 = Fr[k] := ⟨_, rfl⟩
      have hq1 : s1 = max y1 mx := by rw [hs1, hy1]; exact hsta0 k hkF
      rw [← hs1, ← hs2] at hst2
      refine NeedD.cut Unit (fun _ => [(1, .v (.slice oa on oc)), (2, .bx 1 0), (5, .v oJ.v), (6, .bx 4 0), (7, .v oF.v), (9, .v (.int .i64 i)), (10, .v (.int .i64 mx)), (13, .v (.int .i64 B)), (14, .v (.int .i64 k)), (29, .v (.int .i64 n)), (30, .v (.int .i64 m)), (67, .v (.int .i64 n')), (68, .v (.int .i64 k)), (93, .v (.bool (ca && (decide (B < 0) || decide (s1 < s2)))))])
        (fun _ => [.hp (Hp.whole w), .box b2 [.slice a n c, .slice a' n' c'] 25, .hp hJ, .hp hD, .box b6 [oD.v] 99, .hp hFr]) (fun _ => True) (NeedD.by_order (cxg _) (.take 0 <| .take 1 <| .take 2 <| .run 3 <| .take 4 <| .take 5 <| .take 6 <| .take 7 <| .take 8 <| .take 9 <| .take 10 <| .take 11 <| .take 12 <| .take 14 <| .take 15 <| .take 16 <| .take 17 <| .take 18 <| .two 13 (.run 19 <| .take 20 <| .take 21 <| .take 22 <| .done) 19 (.run 13 <| .take 20 <| .take 21 <| .take 22 <| .done)) (by kernel_rfl) ?_) ?_
      · refine callV _ (fun w' hm => kA w' (hT.mono encT_mono (hm 0 _ rfl)) (hS.mono encN_mono (hm 0 _ rfl))) ?_
        refine ⟨(by repeat first | exact trivial | refine ⟨.inl rfl, ?_⟩ | refine ⟨.inr rfl, ?_⟩), ?_⟩
        clear hca kA
        cases ca with
        | true =>
          refine bsplitd (fun g1 => ?_) (fun g1 => ?_)
          · constructor
            · refine ⟨(by repeat first | exact trivial | refine ⟨.inl rfl, ?_⟩ | refine ⟨.inr rfl, ?_⟩), ?_⟩
              refine ⟨(by repeat first | exact trivial | refine ⟨.inl rfl, ?_⟩ | refine ⟨.inr rfl, ?_⟩), ?_⟩
              exact ⟨(), trivial, Ent.mk (fun _ _ h => h) (by rw [decide_eq_true g1]; rfl) rfl⟩
            · refine ⟨(by repeat first | exact trivial | refine ⟨.inl rfl, ?_⟩ | refine ⟨.inr rfl, ?_⟩), ?_⟩
              refine ⟨(by repeat first | exact trivial | refine ⟨.inl rfl, ?_⟩ | refine ⟨.inr rfl, ?_⟩), ?_⟩
              exact ⟨(), trivial, Ent.mk (fun _ _ h => h) (by rw [decide_eq_true g1]; rfl) rfl⟩
          · obtain ⟨bN, rfl⟩ : ∃ bN : Nat, B = bN := ⟨B.toNat, by omega⟩
            have hbF : bN < Fr.length := by omega
            obtain ⟨y2, hy2⟩ : ∃ y2, y2 = Fr[bN] := ⟨_, rfl⟩
            have hq2 : s2 = max y2 mx := by rw [hs2, hy2, Int.toNat_natCast]; exact hsta0 bN hbF
            refine idx (cxg _) (e := 3) rfl sF k rfl hkF (fun b9 o9 cs hcs hR hcell11 => ?_)
            rw [← hy1] at hR
            subst hR
            refine ld1 (cxg _) (i := 5) rfl (hcell11 0 _ rfl) rfl ?_
            refine idx (cxg _) (e := 3) rfl sF bN rfl hbF (fun b9 o9 cs hcs hR hcell12 => ?_)
            rw [← hy2] at hR
            subst hR
            refine ld1 (cxg _) (i := 5) rfl (hcell12 0 _ rfl) rfl ?_
            constructor
            · refine qMax ?_
              refine ⟨(by repeat first | exact trivial | refine ⟨.inl rfl, ?_⟩ | refine ⟨.inr rfl, ?_⟩), ?_⟩
              refine qMax ?_
              refine ⟨(by repeat first | exact trivial | refine ⟨.inl rfl, ?_⟩ | refine ⟨.inr rfl, ?_⟩), ?_⟩
              exact ⟨(), trivial, Ent.mk (fun _ _ h => h) (by rw [decide_eq_false g1, hq1, hq2]; rfl) rfl⟩
            · refine qMax ?_
              refine ⟨(by repeat first | exact trivial | refine ⟨.inl rfl, ?_⟩ | refine ⟨.inr rfl, ?_⟩), ?_⟩
              refine qMax ?_
              refine ⟨(by repeat first | exact trivial | refine ⟨.inl rfl, ?_⟩ | refine ⟨.inr rfl, ?_⟩), ?_⟩
              exact ⟨(), trivial, Ent.mk (fun _ _ h => h) (by rw [decide_eq_false g1, hq1, hq2]; rfl) rfl⟩
        | false =>
          constructor
          · refine ⟨(by repeat first | exact trivial | refine ⟨.inl rfl, ?_⟩ | refine ⟨.inr rfl, ?_⟩), ?_⟩
            refine ⟨(by repeat first | exact trivial | refine ⟨.inl rfl, ?_⟩ | refine ⟨.inr rfl, ?_⟩), ?_⟩
            exact ⟨(), trivial, Ent.mk (fun _ _ h => h) rfl rfl⟩
          · refine ⟨(by repeat first | exact trivial | refine ⟨.inl rfl, ?_⟩ | refine ⟨.inr rfl, ?_⟩), ?_⟩
            refine ⟨(by repeat first | exact trivial | refine ⟨.inl rfl, ?_⟩ | refine ⟨.inr rfl, ?_⟩), ?_⟩
            exact ⟨(), trivial, Ent.mk (fun _ _ h => h) rfl rfl⟩
      rintro ⟨⟩ _ _
      dsimp only
      refine bsplit (fun hc => ?_) (fun hc => ?_)
      · refine nw (by omega) (by omega) ?_
        exact ⟨k + 1, by omega, by omega, Ent.mk (fun _ _ h => h) (by rw [hst2, if_pos hc]; rfl) rfl⟩
      · refine nw (by omega) (by omega) ?_
        exact ⟨k + 1, by omega, by omega, Ent.mk (fun _ _ h => h) (by rw [hst2, if_neg (by rw [hc]; decide)]; rfl) rfl⟩
    · have hkn : k = SS.length := by omega
      subst hkn
      obtain ⟨r1, r2, r3⟩ := bst_rng TT SS J Fr i SS.length
      have hb0 : 0 ≤ bstK TT SS J Fr i SS.length := r3 (by
        have := hcan _ (List.getElem_mem hi)
        obtain ⟨s, hs1, hs2⟩ := List.any_eq_true.1 this
        obtain ⟨j, hj, rfl⟩ := List.mem_iff_getElem.1 hs1
        exact ⟨j, hj, by rw [tk_get hi, gD hj]; exact hs2⟩)
      obtain ⟨v, hv⟩ : ∃ v : Nat, v = (bstK TT SS J Fr i SS.length).toNat := ⟨_, rfl⟩
      have hvS : v < SS.length := by omega
      have hvF : v < Fr.length := by omega
      rw [show bstK TT SS J Fr i SS.length = (v : Int) by omega]
      rw [← hv] at hnext
      have hsta := hI.sta hF hm100 hi hvS
      dsimp only at hsta
      have hI2 := hI.step hF hm100 hi hvS hop
      dsimp only at hI2
      rw [← hnext] at hI2
      obtain ⟨y1, hy1⟩ : ∃ y1, y1 = Fr[v] := ⟨_, rfl⟩
      obtain ⟨st, hst0⟩ : ∃ st, st = staF TT J Fr i v := ⟨_, rfl⟩
      have hq1 : max y1 mx = st := by rw [hst0, hy1]; exact (hsta0 v hvF).symm
      rw [← hst0] at hsta
      have hend : endF TT ((i : Int), (v : Int), st) = st + t.du := by unfold endF; dsimp only; rw [Int.toNat_natCast, tk_get hi, ← ht]
      have hdu := hF.du t htm
      have hpJ : putJ TT J Fr i v = J.set i ((i : Int), (v : Int), st) := by unfold putJ; rw [← hst0]
      have hpF : putF TT J Fr i v = Fr.set v (st + t.du) := by unfold putF; rw [← hst0, hend]
      have hiJ : i < J.length := by omega
      have hset : (J.set i ((i : Int), (v : Int), st))[i]'(by rw [List.length_set]; exact hiJ) = ((i : Int), (v : Int), st) := by simp
      refine idx (cxg _) (e := 3) rfl sF v rfl hvF (fun b9 o9 cs hcs hR hcell14 => ?_)
      rw [← hy1] at hR
      subst hR
      refine ld1 (cxg _) (i := 5) rfl (hcell14 0 _ rfl) rfl ?_
      refine qMax ?_
      rw [hq1]
      refine oidxN (cxg _) (e := 52) rfl (o := ⟨oJ.a, oJ.n, oJ.c, hJ⟩) hoJ i rfl hiJ fun b8 hb8 => ?_
      refine ostoN (f := fJ) (cxg _) (sz := 3) (fun _ => rfl) (i := 2) (o := ⟨oJ.a, oJ.n, oJ.c, hJ⟩) rfl hb8 hoJ hiJ rfl rfl ((i : Int), (v : Int), st) rfl rfl rfl fun o2 f1 f2 f3 ho2 => ?_
      obtain ⟨ja, jn, jc, hJ2⟩ := o2
      simp only at f1 f2 f3
      subst f1 f2 f3
      have sJ2 := OwnO.sl (f := fJ) (fun _ => rfl) (by decide) ho2
      refine NeedD.by_order0 (cxg _) (.take 0 <| .take 1 <| .take 2 <| .take 3 <| .take 4 <| .take 5 <| .take 6 <| .take 7 <| .take 8 <| .take 9 <| .take 10 <| .take 11 <| .take 12 <| .take 13 <| .take 14 <| .run 15 <| .done) (by kernel_rfl) (subL_blank _ 5) ?_
      refine idx (cxg _) (e := 52) rfl sJ2 i rfl (by rw [List.length_set]; exact hiJ) (fun b9 o9 cs hcs hR hcell16 => ?_)
      rw [hset] at hR
      subst hR
      refine ld1 (cxg _) (i := 2) rfl (hcell16 2 _ rfl) rfl ?_
      refine idx (cxg _) (e := 64) rfl hT i rfl hi (fun b9 o9 cs hcs hR hcell17 => ?_)
      rw [← ht] at hR
      obtain ⟨a4, n4, c4, rfl, hs4⟩ := hR
      refine ld1 (cxg _) (i := 0) rfl (hcell17 1 _ rfl) rfl ?_
      refine nw (by dsimp only; omega) (by dsimp only; omega) ?_
      refine oidx1 (cxg _) (e := 3) rfl rfl (o := ⟨oF.a, oF.n, oF.c, hFr⟩) hoF v rfl hvF fun b6 hb6 => ?_
      refine osto (g := fun x : Int => .int .i64 x) (fun _ => rfl) (cxg _) (i := 5) (o := ⟨oF.a, oF.n, oF.c, hFr⟩) rfl hb6 hoF hvF rfl rfl (st + t.du) rfl rfl rfl fun o4 f1 f2 f3 ho4 => ?_
      obtain ⟨fa, fn, fc, hF2⟩ := o4
      simp only at f1 f2 f3
      subst f1 f2 f3
      refine oidx1 (cxg _) (e := 4) rfl rfl (o := ⟨oD.a, oD.n, oD.c, hD⟩) hoD i rfl (by omega) fun b7 hb7 => ?_
      refine osto (g := fun x : Bool => .bool x) (fun _ => rfl) (cxg _) (i := 3) (o := ⟨oD.a, oD.n, oD.c, hD⟩) rfl hb7 hoD (by omega) rfl rfl true rfl rfl rfl fun o3 f1 f2 f3 ho3 => ?_
      obtain ⟨da, dn, dc, hD2⟩ := o3
      simp only at f1 f2 f3
      subst f1 f2 f3
      refine nw (by omega) (by omega) ?_
      exact ⟨(m + 1, hJ2, hD2, hF2), ⟨by dsimp only; omega, hI2, by dsimp only; rw [hnext, hpJ]; exact ho2, by dsimp only; rw [hnext]; exact ho3, by dsimp only; rw [hnext, hpF]; exact ho4⟩, by dsimp only; omega, Ent.mk (fun _ _ h => h) rfl rfl⟩
  · obtain rfl : m = TT.length := by omega
    rw [hol, ← hst]
    exact ⟨[.hp hJ], ⟨⟨oJ.a, oJ.n, oJ.c, hJ⟩, rfl, rfl, hoJ⟩, fun w' h => h.pick [0, 2] rfl rfl⟩
end Go.Proofs.YtnlkffccobdbjaaGreat
