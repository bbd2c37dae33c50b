/- Contract of the search for a best schedule. Its premises are its own. -/
import Derived.Test.YtnlkffccobdbjaaGreatYWy
namespace Go.Proofs.YtnlkffccobdbjaaGreat
open Go Go.RowKit Go.Dw
/-- the cells of a search -/
abbrev sV (p0 p1 p2 p3 p4 : Value) (ta : Option Addr) (tn tc : Nat) (lower : Int) (ba : Option Addr) (bn bc : Nat) (least : Int) : List Value := [p0, p1, p2, p3, p4, .slice ta tn tc, .int .i64 lower, .slice ba bn bc, .int .i64 least]
theorem join_none {G A : Hp} {b : Nat} (h1 : G b = none) (h2 : A b = none) : (G.join A) b = none := by unfold Hp.join; rw [h1]; exact h2
section
variable {a a' : Option Addr} {n c n' c' : Nat} {TT : List Tk} {SS : List Sn} {T : List Int} {lower : Int} {p0 p1 p2 p3 p4 : Value} {ta : Option Addr} {tn tc bx : Nat}
/-- what the search's results are -/
def RunR (TT : List Tk) (SS : List Sn) (T : List Int) (lower : Int) (p0 p1 p2 p3 p4 : Value) (ta : Option Addr) (tn tc : Nat) (m : Nat) (s : SSt) (last : Int) (x : Int × List Jb) (v : Value) (cs' : List Value) (G' : Hp) : Prop :=
  v = .tuple #[] ∧ ∃ (ba' : Option Addr) (bn' bc' : Nat), cs' = sV p0 p1 p2 p3 p4 ta tn tc lower ba' bn' bc' (runF TT SS T lower m s last x).1 ∧ Sl (encF fJ) 3 G' ba' bn' bc' (runF TT SS T lower m s last x).2
set_option maxHeartbeats 2000000 in
set_option maxRecDepth 10000 in
theorem run_spec (hs : Sml TT SS) (hE : shopE TT SS = 0) (hTl : T.length = TT.length) (hTb : ∀ x ∈ T, 0 ≤ x ∧ x ≤ 1048576 * 24) : ∀ (m : Nat) (s : SSt) (A : List Nat) (last : Int) (x : Int × List Jb) (ba : Option Addr) (bn bc : Nat) (G : Hp) (ja : Option Addr) (jn jc : Nat) (da : Option Addr) (dn dc : Nat) (fa : Option Addr) (fn fc : Nat) (w : World),
    Par TT SS s A → A.length + m = TT.length → (∀ j ∈ s.1, JOk TT.length j) → G bx = none → ((Ch.box bx (sV p0 p1 p2 p3 p4 ta tn tc lower ba bn bc x.1) 104).h.join G).In w → Sl (encF fJ) 3 G ba bn bc x.2 →
    Sl encT 4 ((Hp.whole w).minus ((Ch.box bx (sV p0 p1 p2 p3 p4 ta tn tc lower ba bn bc x.1) 104).h.join G)) a n c TT → Sl encN 2 ((Hp.whole w).minus ((Ch.box bx (sV p0 p1 p2 p3 p4 ta tn tc lower ba bn bc x.1) 104).h.join G)) a' n' c' SS → Sl (encF fI) 1 ((Hp.whole w).minus ((Ch.box bx (sV p0 p1 p2 p3 p4 ta tn tc lower ba bn bc x.1) 104).h.join G)) ta tn tc T →
    Sl (encF fJ) 3 ((Hp.whole w).minus ((Ch.box bx (sV p0 p1 p2 p3 p4 ta tn tc lower ba bn bc x.1) 104).h.join G)) ja jn jc s.1 → Sl (encF fB) 1 ((Hp.whole w).minus ((Ch.box bx (sV p0 p1 p2 p3 p4 ta tn tc lower ba bn bc x.1) 104).h.join G)) da dn dc s.2.1 → Sl (encF fI) 1 ((Hp.whole w).minus ((Ch.box bx (sV p0 p1 p2 p3 p4 ta tn tc lower ba bn bc x.1) 104).h.join G)) fa fn fc s.2.2 →
    CallsE Tryz.prog 68 #[.pointer (some ⟨bx, 0, none⟩), bv a n c a' n' c' ja jn jc da dn dc fa fn fc, .int .i64 m, .int .i64 last] w
      (RetM w ((Ch.box bx (sV p0 p1 p2 p3 p4 ta tn tc lower ba bn bc x.1) 104).h.join G) fun v h' cs2 => cs2 = [] ∧ ∃ cs' G', h' = (Ch.box bx cs' 104).h.join G' ∧ G' bx = none ∧ RunR TT SS T lower p0 p1 p2 p3 p4 ta tn tc m s last x v cs' G') := by
  have hF := fit_of hs hE
  have hN := hF.n
  have hM := (shop_ok hE).2.1
  intro m
  induction m with
  | zero =>
    intro s A last x ba bn bc G ja jn jc da dn dc fa fn fc w hP hA hJo hGb hin hB hT hS hTs hJ hD hFr
    have d := one_dj (o := .cells (sV p0 p1 p2 p3 p4 ta tn tc lower ba bn bc x.1).toArray 104 (0, 0)) hGb
    have ok0' := Ok.part (i := 1) (Ok.start2 w hin) rfl (Hp.le_join_l _ _) (Hp.le_join_r d) d
    obtain ⟨c0, hc0⟩ : ∃ c0, c0 = (Hp.whole w).minus ((Ch.box bx (sV p0 p1 p2 p3 p4 ta tn tc lower ba bn bc x.1) 104).h.join G) := ⟨_, rfl⟩
    rw [← hc0] at hT hS hTs hJ hD hFr ok0'
    have ok0 : Ok w [.hp c0, .box bx (sV p0 p1 p2 p3 p4 ta tn tc lower ba bn bc x.1) 104, .hp G] w := ok0'.reh rfl
    have hr : runF TT SS T lower 0 s last x = if mspF TT s.1 < x.1 then (mspF TT s.1, s.1) else x := rfl
    have lJ := hJ.len
    have hjl := hP.jl
    refine enterMS (X := cx 113) (cxg _) (args := [.pointer (some ⟨bx, 0, none⟩), .agg #[.slice a n c, .slice a' n' c', .slice ja jn jc, .slice da dn dc, .slice fa fn fc], .int .i64 ((0 : Nat) : Int), .int .i64 last]) ok0 [] Tryz.func68 rfl rfl rfl rfl rfl ?_
    intro b5
    refine callV _ (fun w' hm => makespan_spec w' (hT.mono encT_mono (hm 0 _ rfl)) hF (hJ.mono (encF_mono _) (hm 0 _ rfl)) hJo (by omega)) ?_
    refine ldB (cxg _) (i := 1) rfl (j := 8) rfl rfl ?_
    refine bsplitd (fun h2 => ?_) (fun h2 => ?_)
    · rw [if_pos h2] at hr
      refine callS (fun w' hm => cloneJobs_spec w' (hJ.mono (encF_mono _) (hm 0 _ rfl)) (by omega)) ?_
      rintro _ _ ⟨oB, rfl, rfl, hoB⟩ hsat
      have dB : oB.h bx = none := dj_one (hsat.dj 1 4 rfl rfl (by decide))
      have dGB : G.dj oB.h := hsat.dj 2 4 rfl rfl (by decide)
      clear hsat
      have sB := OwnO.sl (f := fJ) (fun _ => rfl) (by decide) hoB
      refine stB (cxg _) (i := 1) rfl (j := 8) (v := .int .i64 (mspF TT s.1)) rfl rfl (by simp) rfl rfl ?_
      refine stB (cxg _) (i := 1) rfl (j := 7) (v := oB.v) rfl rfl (by simp) rfl rfl ?_
      refine ⟨(Ch.box bx (sV p0 p1 p2 p3 p4 ta tn tc lower oB.a oB.n oB.c (mspF TT s.1)) 104).h.join (G.join oB.h), [], ⟨rfl, _, _, rfl, join_none hGb dB, rfl, oB.a, oB.n, oB.c, by rw [hr], by rw [hr]; exact sB.mono (encF_mono _) (Hp.le_join_r dGB)⟩, fun w' h => ?_⟩
      rw [← hc0]
      have e1 := Ok.join (c := .hp c0) (d := .hp G) (e := .hp oB.h) (s := [.box bx (sV p0 p1 p2 p3 p4 ta tn tc lower oB.a oB.n oB.c (mspF TT s.1)) 104]) (h.pick [0, 2, 4, 1] rfl rfl)
      exact Ok.join (c := .hp c0) (d := .box bx (sV p0 p1 p2 p3 p4 ta tn tc lower oB.a oB.n oB.c (mspF TT s.1)) 104) (e := .hp (G.join oB.h)) (s := []) (e1.pick [0, 2, 1] rfl rfl)
    · rw [if_neg h2] at hr
      refine ⟨(Ch.box bx (sV p0 p1 p2 p3 p4 ta tn tc lower ba bn bc x.1) 104).h.join G, [], ⟨rfl, _, _, rfl, hGb, rfl, ba, bn, bc, by rw [hr], by rw [hr]; exact hB⟩, fun w' h => ?_⟩
      rw [← hc0]
      exact Ok.join (c := .hp c0) (d := .box bx (sV p0 p1 p2 p3 p4 ta tn tc lower ba bn bc x.1) 104) (e := .hp G) (s := []) (h.pick [0, 1, 2] rfl rfl)
  | succ m ih =>
    intro s A last x ba bn bc G ja jn jc da dn dc fa fn fc w hP hA hJo hGb hin hB hT hS hTs hJ hD hFr
    have d := one_dj (o := .cells (sV p0 p1 p2 p3 p4 ta tn tc lower ba bn bc x.1).toArray 104 (0, 0)) hGb
    have ok0' := Ok.part (i := 1) (Ok.start2 w hin) rfl (Hp.le_join_l _ _) (Hp.le_join_r d) d
    obtain ⟨c0, hc0⟩ : ∃ c0, c0 = (Hp.whole w).minus ((Ch.box bx (sV p0 p1 p2 p3 p4 ta tn tc lower ba bn bc x.1) 104).h.join G) := ⟨_, rfl⟩
    rw [← hc0] at hT hS hTs hJ hD hFr ok0'
    have ok0 : Ok w [.hp c0, .box bx (sV p0 p1 p2 p3 p4 ta tn tc lower ba bn bc x.1) 104, .hp G] w := ok0'.reh rfl
    have hr : runF TT SS T lower (m + 1) s last x = (List.range TT.length).foldl (rnI TT SS T lower (runF TT SS T lower m) s last) x := rfl
    have lJ := hJ.len
    have lT := hT.len
    have lS := hS.len
    have hjl := hP.jl
    have hfl := hP.fl
    have hdl : s.2.1.length = TT.length := by rw [hP.dl, dnL_len]
    clear d ok0'
    refine enterMS (X := cx 113) (cxg _) (args := [.pointer (some ⟨bx, 0, none⟩), .agg #[.slice a n c, .slice a' n' c', .slice ja jn jc, .slice da dn dc, .slice fa fn fc], .int .i64 ((m + 1 : Nat) : Int), .int .i64 last]) ok0 [] Tryz.func68 rfl rfl rfl rfl rfl ?_
    intro b5
    refine NeedL.mk (Nat × (Int × List Jb) × (Option Addr × Nat × Nat) × Hp) (fun g => [(0, .v (.pointer (some ⟨bx, 0, none⟩))), (2, .v (.int .i64 ((m + 1 : Nat) : Int))), (3, .v (.int .i64 last)), (5, .bx 3 0), (39, .v (.int .i64 n)), (40, .v (.int .i64 g.1))])
      (fun g => [.hp c0, .box bx (sV p0 p1 p2 p3 p4 ta tn tc lower g.2.2.1.1 g.2.2.1.2.1 g.2.2.1.2.2 g.2.1.1) 104, .hp g.2.2.2, .box b5 [.slice a n c, .slice a' n' c', .slice ja jn jc, .slice da dn dc, .slice fa fn fc] 101])
      (fun g => g.1 ≤ n ∧ g.2.1 = (List.range g.1).foldl (rnI TT SS T lower (runF TT SS T lower m) s last) x ∧ g.2.2.2 bx = none ∧ Sl (encF fJ) 3 g.2.2.2 g.2.2.1.1 g.2.2.1.2.1 g.2.2.1.2.2 g.2.1.2) (fun g => n - g.1) (0, x, (ba, bn, bc), G) ⟨Nat.zero_le _, rfl, hGb, hB⟩ (Ent.mk (fun _ _ h => h) rfl rfl) ?_
    clear hB hGb
    rintro ⟨i, y, ⟨ba, bn, bc⟩, G⟩ ⟨hi, hy, hGb, hB⟩
    dsimp only at *
    refine bsplitd (fun h3 => ?_) (fun h3 => ?_)
    · have hiT : i < TT.length := by omega
      have hyn : (List.range (i + 1)).foldl (rnI TT SS T lower (runF TT SS T lower m) s last) x = rnI TT SS T lower (runF TT SS T lower m) s last y i := by
        rw [List.range_succ, List.foldl_append, ← hy]; rfl
      obtain ⟨op, hop⟩ : ∃ op, op = opnF TT s.2.1 i := ⟨_, rfl⟩
      have kO : ∀ w' : World, Sl encT 4 (Hp.whole w') a n c TT → Sl (encF fB) 1 (Hp.whole w') da dn dc s.2.1 → CallsE Tryz.prog 104 #[bv a n c a' n' c' ja jn jc da dn dc fa fn fc, .int .i64 i] w' (RetV w' (.bool op)) := fun w' h1 h2 => by
        rw [hop]; exact open_spec i w' h1 hF h2 hiT hdl
      refine callV _ (fun w' hm => kO w' (hT.mono encT_mono (hm 0 _ rfl)) (hD.mono (encF_mono _) (hm 0 _ rfl))) ?_
      clear kO
      refine bsplit (fun h4 => ?_) (fun h4 => ?_)
      · have hof : op = false := by simpa using h4
        refine nw (by omega) (by omega) ?_
        exact ⟨(i + 1, y, (ba, bn, bc), G), ⟨by dsimp only; omega, by dsimp only; rw [hyn]; unfold rnI; rw [← hop, hof]; rfl, hGb, hB⟩, by dsimp only; omega, Ent.mk (fun _ _ h => h) rfl rfl⟩
      have hot : op = true := by simpa using h4
      have ho : opnF TT s.2.1 i = true := by rw [← hop]; exact hot
      have hyn2 : (List.range (i + 1)).foldl (rnI TT SS T lower (runF TT SS T lower m) s last) x = (List.range SS.length).foldl (rnK TT SS T lower (runF TT SS T lower m) s last i) y := by rw [hyn]; unfold rnI; rw [if_pos ho]
      clear hyn h4
      refine NeedL.mk (Nat × (Int × List Jb) × (Option Addr × Nat × Nat) × Hp) (fun g => [(0, .v (.pointer (some ⟨bx, 0, none⟩))), (2, .v (.int .i64 ((m + 1 : Nat) : Int))), (3, .v (.int .i64 last)), (5, .bx 3 0), (9, .v (.int .i64 i)), (39, .v (.int .i64 n)), (40, .v (.int .i64 i)), (50, .v (.int .i64 n')), (51, .v (.int .i64 g.1))])
        (fun g => [.hp c0, .box bx (sV p0 p1 p2 p3 p4 ta tn tc lower g.2.2.1.1 g.2.2.1.2.1 g.2.2.1.2.2 g.2.1.1) 104, .hp g.2.2.2, .box b5 [.slice a n c, .slice a' n' c', .slice ja jn jc, .slice da dn dc, .slice fa fn fc] 101])
        (fun g => g.1 ≤ n' ∧ g.2.1 = (List.range g.1).foldl (rnK TT SS T lower (runF TT SS T lower m) s last i) y ∧ g.2.2.2 bx = none ∧ Sl (encF fJ) 3 g.2.2.2 g.2.2.1.1 g.2.2.1.2.1 g.2.2.1.2.2 g.2.1.2) (fun g => n' - g.1) (0, y, (ba, bn, bc), G) ⟨Nat.zero_le _, rfl, hGb, hB⟩ (Ent.mk (fun _ _ h => h) rfl rfl) ?_
      clear hB hGb
      rintro ⟨k, z, ⟨ba, bn, bc⟩, G⟩ ⟨hk, hz, hGb, hB⟩
      dsimp only at *
      refine bsplitd (fun h5 => ?_) (fun h5 => ?_)
      · have hkS : k < SS.length := by omega
        have hkF : k < s.2.2.length := by omega
        have hzn : (List.range (k + 1)).foldl (rnK TT SS T lower (runF TT SS T lower m) s last i) y = rnK TT SS T lower (runF TT SS T lower m) s last i z k := by
          rw [List.range_succ, List.foldl_append, ← hz]; rfl
        obtain ⟨ca, hca⟩ : ∃ ca, ca = caA TT SS i k := ⟨_, rfl⟩
        obtain ⟨al, hal⟩ : ∃ al, al = alikF SS s k := ⟨_, rfl⟩
        have kA : ∀ w' : World, Sl encT 4 (Hp.whole w') a n c TT → Sl encN 2 (Hp.whole w') a' n' c' SS → CallsE Tryz.prog 88 #[sv a n c a' n' c', .int .i64 k, .int .i64 i] w' (RetV w' (.bool ca)) := fun w' h1 h2 => by
          rw [hca]; unfold caA; rw [tk_get hiT, gD hkS]; exact able_spec k i w' h1 h2 hiT hkS hs
        have kL : ∀ w' : World, Sl encN 2 (Hp.whole w') a' n' c' SS → Sl (encF fI) 1 (Hp.whole w') fa fn fc s.2.2 → CallsE Tryz.prog 107 #[bv a n c a' n' c' ja jn jc da dn dc fa fn fc, .int .i64 k] w' (RetV w' (.bool al)) := fun w' h1 h2 => by
          rw [hal]; exact alike_spec k w' h1 hs h2 hfl hkS
        have hr1 : rnK TT SS T lower (runF TT SS T lower m) s last i z k = if (!ca || al || decide (z.1 = lower)) = true then z else if t0A TT s i k < last ∨ z.1 ≤ t0A TT s i k + T.getD i 0 then z else runF TT SS T lower m (jbS TT s i k) (t0A TT s i k) z := by
          unfold rnK; rw [← hca, ← hal]
        rw [hr1] at hzn
        clear hr1
        refine NeedD.cut Unit (fun _ => [(0, .v (.pointer (some ⟨bx, 0, none⟩))), (2, .v (.int .i64 ((m + 1 : Nat) : Int))), (3, .v (.int .i64 last)), (5, .bx 3 0), (9, .v (.int .i64 i)), (10, .v (.int .i64 k)), (39, .v (.int .i64 n)), (40, .v (.int .i64 i)), (50, .v (.int .i64 n')), (51, .v (.int .i64 k)), (75, .v (.bool (!ca || al || decide (z.1 = lower))))])
          (fun _ => [.hp c0, .box bx (sV p0 p1 p2 p3 p4 ta tn tc lower ba bn bc z.1) 104, .hp G, .box b5 [.slice a n c, .slice a' n' c', .slice ja jn jc, .slice da dn dc, .slice fa fn fc] 101]) (fun _ => True) (NeedD.by_order (cxg _) (.take 0 <| .take 1 <| .take 2 <| .take 3 <| .run 4 <| .take 5 <| .take 6 <| .take 7 <| .take 8 <| .run 9 <| .take 10 <| .take 11 <| .take 12 <| .take 13 <| .take 14 <| .take 15 <| .take 16 <| .take 17 <| .take 18 <| .take 19 <| .take 20 <| .take 21 <| .done) (by kernel_rfl) ?_) ?_
        · refine callV _ (fun w' hm => kA w' (hT.mono encT_mono (hm 0 _ rfl)) (hS.mono encN_mono (hm 0 _ rfl))) ?_
          refine ⟨(by repeat first | exact trivial | refine ⟨.inl rfl, ?_⟩ | refine ⟨.inr rfl, ?_⟩), ?_⟩
          clear hca
          cases ca with
          | false =>
            refine ⟨(by repeat first | exact trivial | refine ⟨.inl rfl, ?_⟩ | refine ⟨.inr rfl, ?_⟩), ?_⟩
            exact ⟨(), trivial, Ent.mk (fun _ _ h => h) rfl rfl⟩
          | true =>
            refine callV _ (fun w' hm => kL w' (hS.mono encN_mono (hm 0 _ rfl)) (hFr.mono (encF_mono _) (hm 0 _ rfl))) ?_
            refine ⟨(by repeat first | exact trivial | refine ⟨.inl rfl, ?_⟩ | refine ⟨.inr rfl, ?_⟩), ?_⟩
            clear hal
            cases al with
            | true => exact ⟨(), trivial, Ent.mk (fun _ _ h => h) rfl rfl⟩
            | false =>
              refine ldB (cxg _) (i := 1) rfl (j := 8) rfl rfl ?_
              refine ldB (cxg _) (i := 1) rfl (j := 6) rfl rfl ?_
              exact ⟨(), trivial, Ent.mk (fun _ _ h => h) rfl rfl⟩
        rintro ⟨⟩ _ _
        dsimp only
        clear kA kL
        refine bsplit (fun h8 => ?_) (fun h8 => ?_)
        · rw [if_pos h8] at hzn
          refine nw (by omega) (by omega) ?_
          exact ⟨(k + 1, z, (ba, bn, bc), G), ⟨by dsimp only; omega, hzn.symm, hGb, hB⟩, by dsimp only; omega, Ent.mk (fun _ _ h => h) rfl rfl⟩
        rw [if_neg (by rw [h8]; decide)] at hzn
        have hct : caA TT SS i k = true := by
          rw [← hca]
          cases ca with
          | true => rfl
          | false => simp at h8
        clear h8 hca hal
        obtain ⟨t1, t2, t3, t4, t5⟩ := hP.t0 hF hiT hkS ho
        have htd := hF.d hiT
        obtain ⟨T0, hT0⟩ : ∃ T0, T0 = t0A TT s i k := ⟨_, rfl⟩
        have kT : ∀ w' : World, Sl encT 4 (Hp.whole w') a n c TT → Sl (encF fJ) 3 (Hp.whole w') ja jn jc s.1 → Sl (encF fI) 1 (Hp.whole w') fa fn fc s.2.2 → CallsE Tryz.prog 105 #[bv a n c a' n' c' ja jn jc da dn dc fa fn fc, .int .i64 i, .int .i64 k] w' (RetV w' (.int .i64 T0)) := fun w' h1 h2 h3 => by
          rw [hT0]; exact start_spec i k w' h1 hF h2 hJo hjl h3 hiT hkF
        rw [← hT0] at t1 t2 t3 hzn
        refine callV _ (fun w' hm => kT w' (hT.mono encT_mono (hm 0 _ rfl)) (hJ.mono (encF_mono _) (hm 0 _ rfl)) (hFr.mono (encF_mono _) (hm 0 _ rfl))) ?_
        clear kT
        have hiTl : i < T.length := by omega
        obtain ⟨tl, htl⟩ : ∃ tl, tl = T[i] := ⟨_, rfl⟩
        have btl := hTb tl (by rw [htl]; exact List.getElem_mem hiTl)
        rw [gD hiTl, ← htl] at hzn
        refine NeedD.cut Unit (fun _ => [(0, .v (.pointer (some ⟨bx, 0, none⟩))), (2, .v (.int .i64 ((m + 1 : Nat) : Int))), (3, .v (.int .i64 last)), (5, .bx 3 0), (9, .v (.int .i64 i)), (10, .v (.int .i64 k)), (11, .v (.int .i64 T0)), (39, .v (.int .i64 n)), (40, .v (.int .i64 i)), (50, .v (.int .i64 n')), (51, .v (.int .i64 k)), (98, .v (.bool (decide (T0 < last) || decide (T0 + tl ≥ z.1))))])
          (fun _ => [.hp c0, .box bx (sV p0 p1 p2 p3 p4 ta tn tc lower ba bn bc z.1) 104, .hp G, .box b5 [.slice a n c, .slice a' n' c', .slice ja jn jc, .slice da dn dc, .slice fa fn fc] 101]) (fun _ => True) (NeedD.by_order (cxg _) (.take 0 <| .take 1 <| .take 2 <| .take 3 <| .take 4 <| .take 5 <| .take 6 <| .take 7 <| .take 8 <| .take 9 <| .take 10 <| .take 11 <| .take 12 <| .take 13 <| .take 14 <| .take 15 <| .take 16 <| .take 17 <| .take 18 <| .done) (by kernel_rfl) ?_) ?_
        · refine bsplitd (fun h9 => ?_) (fun h9 => ?_)
          · exact ⟨(), trivial, Ent.mk (fun _ _ h => h) (by rw [decide_eq_true h9]; rfl) rfl⟩
          · refine ldB (cxg _) (i := 1) rfl (j := 5) rfl rfl ?_
            refine idx (cxg _) (e := 3) rfl hTs i rfl hiTl (fun b9 o9 cs hcs hR hcell10 => ?_)
            rw [← htl] at hR
            subst hR
            refine ld1 (cxg _) (i := 0) rfl (hcell10 0 _ rfl) rfl ?_
            refine nw (by omega) (by omega) ?_
            refine ldB (cxg _) (i := 1) rfl (j := 8) rfl rfl ?_
            exact ⟨(), trivial, Ent.mk (fun _ _ h => h) (by rw [decide_eq_false h9]; rfl) rfl⟩
        rintro ⟨⟩ _ _
        dsimp only
        refine bsplit (fun h11 => ?_) (fun h11 => ?_)
        · rw [if_pos (by rw [Bool.or_eq_true, decide_eq_true_eq, decide_eq_true_eq] at h11; omega)] at hzn
          refine nw (by omega) (by omega) ?_
          exact ⟨(k + 1, z, (ba, bn, bc), G), ⟨by dsimp only; omega, hzn.symm, hGb, hB⟩, by dsimp only; omega, Ent.mk (fun _ _ h => h) rfl rfl⟩
        rw [if_neg (by rw [Bool.or_eq_false_iff, decide_eq_false_iff_not, decide_eq_false_iff_not] at h11; omega)] at hzn
        clear h11
        have hst : 0 ≤ staF TT s.1 s.2.2 i k ∧ staF TT s.1 s.2.2 i k ≤ 1000000000000 := by
          have e : staF TT s.1 s.2.2 i k = T0 := hT0.symm
          rw [e]; omega
        have hP2 := hP.step hF hiT hkS ho hct
        have hJo2 : ∀ j ∈ (jbS TT s i k).1, JOk TT.length j := fun j hj => by
          have hj : j ∈ s.1.set i ((i : Int), (k : Int), staF TT s.1 s.2.2 i k) := hj
          rcases List.mem_or_eq_of_mem_set hj with hj | rfl
          · exact hJo j hj
          · exact ⟨⟨by dsimp only; omega, by dsimp only; omega⟩, hst⟩
        have hA2 : (A ++ [i]).length + m = TT.length := by simp; omega
        refine call (fun w' hm => copied_spec' w' (hJ.mono (encF_mono _) (hm 0 _ rfl)) (hD.mono (encF_mono _) (hm 0 _ rfl)) (hFr.mono (encF_mono _) (hm 0 _ rfl)) (by omega) (by omega) (by omega)) ?_
        rintro _ _ ⟨oJ, oD, oF, rfl, rfl, hoJ, hoD, hoF⟩
        intro b12
        refine callM3 (i := 4) (j := 5) (k := 6) (by decide) (by decide) (by decide) rfl rfl rfl (fun w0 w1 hok => put_spec oJ oD oF i k w1 (Hp.both_In (Hp.both_In (hok.mem 4 _ rfl) (hok.mem 5 _ rfl)) (hok.mem 6 _ rfl)) (hok.disj 4 5 _ _ (by decide) rfl rfl) (hok.disj 4 6 _ _ (by decide) rfl rfl) (hok.disj 5 6 _ _ (by decide) rfl rfl)
          (hT.mono encT_mono (Hp.le_minus (hok.mem 0 _ rfl).whole (Hp.dj_both (Hp.dj_both (hok.disj 0 4 _ _ (by decide) rfl rfl) (hok.disj 0 5 _ _ (by decide) rfl rfl)) (hok.disj 0 6 _ _ (by decide) rfl rfl)))) hF hoJ hoD hoF hJo hjl hdl hiT hkF hst) ?_
        rintro _ h2 _ ⟨rfl, rfl, hJ2, hD2, hF2, rfl, q1, q2, q3, g1, g2, g3⟩
        have sJ2 := OwnO.sl (f := fJ) (fun _ => rfl) (by decide) g1
        have sD2 := OwnO.sl (f := fB) (fun _ => rfl) (by decide) g2
        have sF2 := OwnO.sl (f := fI) (fun _ => rfl) (by decide) g3
        have dJD : (hJ2.join hD2).dj hF2 := (Hp.dj_both q2.symm q3.symm).symm
        have lJ2 : hJ2.le ((hJ2.join hD2).join hF2) := (Hp.le_join_l _ _).trans (Hp.le_join_l _ _)
        have lD2 : hD2.le ((hJ2.join hD2).join hF2) := (Hp.le_join_r q1).trans (Hp.le_join_l _ _)
        have lF2 : hF2.le ((hJ2.join hD2).join hF2) := Hp.le_join_r dJD
        refine nwEq (y := (m : Int)) (by omega) (by omega) (by omega) ?_
        refine callMX (i := 1) (j := 2) (by decide) rfl rfl (R := RunR TT SS T lower p0 p1 p2 p3 p4 ta tn tc m (jbS TT s i k) T0 z) (fun w0 w1 hok => ?_) ?_
        · have lc := Hp.le_minus (hok.mem 0 _ rfl).whole (Hp.dj_both (hok.disj 0 1 _ _ (by decide) rfl rfl) (hok.disj 0 2 _ _ (by decide) rfl rfl))
          have l4 := Hp.le_minus (hok.mem 4 _ rfl).whole (Hp.dj_both (hok.disj 4 1 _ _ (by decide) rfl rfl) (hok.disj 4 2 _ _ (by decide) rfl rfl))
          exact ih (jbS TT s i k) (A ++ [i]) T0 z ba bn bc G oJ.a oJ.n oJ.c oD.a oD.n oD.c oF.a oF.n oF.c w1 hP2 hA2 hJo2 hGb (Hp.both_In (hok.mem 1 _ rfl) (hok.mem 2 _ rfl)) hB (hT.mono encT_mono lc) (hS.mono encN_mono lc) (hTs.mono (encF_mono _) lc) (sJ2.mono (encF_mono _) (lJ2.trans l4)) (sD2.mono (encF_mono _) (lD2.trans l4)) (sF2.mono (encF_mono _) (lF2.trans l4))
        · rintro _ cs' G' hGb' ⟨rfl, ba', bn', bc', rfl, hB'⟩
          refine nw (by omega) (by omega) ?_
          exact ⟨(k + 1, runF TT SS T lower m (jbS TT s i k) T0 z, (ba', bn', bc'), G'), ⟨by dsimp only; omega, hzn.symm, hGb', hB'⟩, by dsimp only; omega, Ent.mk (fun _ _ h => h.pick [0, 1, 2, 3] rfl rfl) rfl rfl⟩
      · have hkn : k = SS.length := by omega
        rw [hkn, ← hyn2] at hz
        refine nw (by omega) (by omega) ?_
        exact ⟨(i + 1, z, (ba, bn, bc), G), ⟨by dsimp only; omega, hz, hGb, hB⟩, by dsimp only; omega, Ent.mk (fun _ _ h => h) rfl rfl⟩
    · have hin2 : i = TT.length := by omega
      rw [hin2, ← hr] at hy
      refine ⟨(Ch.box bx (sV p0 p1 p2 p3 p4 ta tn tc lower ba bn bc y.1) 104).h.join G, [], ⟨rfl, _, _, rfl, hGb, rfl, ba, bn, bc, by rw [← hy], by rw [← hy]; exact hB⟩, fun w' h => ?_⟩
      rw [← hc0]
      exact Ok.join (c := .hp c0) (d := .box bx (sV p0 p1 p2 p3 p4 ta tn tc lower ba bn bc y.1) 104) (e := .hp G) (s := []) (h.pick [0, 1, 2] rfl rfl)
end
end Go.Proofs.YtnlkffccobdbjaaGreat
