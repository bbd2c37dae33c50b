/- Contract of schedule.Early. Its premises are its own. -/
import Derived.Test.YtnlkffccobdbjaaGreatYWs
namespace Go.Proofs.YtnlkffccobdbjaaGreat
open Go Go.RowKit Go.Dw
theorem okS_at {TT : List Tk} {SS : List Sn} (hF : Fit TT) : ∀ (Q : List (Nat × Nat)) {s : SSt} {A : List Nat}, Par TT SS s A → okS TT SS s Q → ∀ m (hm : m < Q.length), Par TT SS (runS TT s (Q.take m)) (A ++ (Q.take m).map (·.1)) ∧
    (Q[m].1 < TT.length ∧ Q[m].2 < SS.length ∧ opnF TT (runS TT s (Q.take m)).2.1 Q[m].1 = true ∧ caA TT SS Q[m].1 Q[m].2 = true) ∧ runS TT s (Q.take (m + 1)) = jbS TT (runS TT s (Q.take m)) Q[m].1 Q[m].2
  | p :: Q, s, A, h, ho, 0, _ => ⟨by simpa [runS] using h, ho.1, rfl⟩
  | p :: Q, s, A, h, ⟨⟨h1, h2, h3, h4⟩, h5⟩, m + 1, hm => by
    obtain ⟨r1, r2, r3⟩ := okS_at hF Q (h.step hF h1 h2 h3 h4) h5 m (by simpa using hm)
    refine ⟨by simpa [runS] using r1, r2, r3⟩
def earR (TT : List Tk) (SS : List Sn) (L : List Jb) : List Jb := if chkE TT SS L = 0 then earF TT SS L else []
theorem jbA_mem {L : List Jb} {i : Nat} (hi : i < L.length) : jbA L i ∈ L := by unfold jbA; rw [gD hi]; exact List.getElem_mem hi
/-- while Early gives the jobs anew, all of them are jobs -/
structure EaI (TT : List Tk) (SS : List Sn) (L : List Jb) (s : SSt) (A : List Nat) : Prop where
  par : Par TT SS s A
  old : ∀ i, i < TT.length → i ∉ A → jbA s.1 i = jbA L i
  sn : ∀ i, i < TT.length → snA s.1 i = snA L i ∧ (jbA s.1 i).1 = i
theorem EaI.ok {TT : List Tk} {SS : List Sn} {L : List Jb} {s : SSt} {A : List Nat} (h : EaI TT SS L s A) (hL : Sch TT SS L) (hF : Fit TT) (hA : A.length ≤ 24) : ∀ j ∈ s.1, JOk TT.length j := fun j hj => by
  obtain ⟨i, hi, rfl⟩ := List.mem_iff_getElem.1 hj
  have hiT : i < TT.length := by rw [← h.par.jl]; exact hi
  have e : s.1[i] = jbA s.1 i := (gD hi).symm
  rw [e]
  have h1 := (h.sn i hiT).2
  refine ⟨⟨by omega, by omega⟩, ?_⟩
  by_cases hm : i ∈ A
  · have p1 := h.par.s0 i hm
    have := hF.d hiT
    unfold stA at p1; omega
  · rw [h.old i hiT hm]
    have := hL.s0 i hiT
    unfold stA at this; omega
theorem EaI.step {TT : List Tk} {SS : List Sn} {L : List Jb} {s : SSt} {A : List Nat} (h : EaI TT SS L s A) (hF : Fit TT) {i k : Nat} (hi : i < TT.length) (hk : k < SS.length) (ho : opnF TT s.2.1 i = true) (hc : caA TT SS i k = true) (hs : (k : Int) = snA L i) : EaI TT SS L (jbS TT s i k) (A ++ [i]) := by
  obtain ⟨e1, e2, e3⟩ := stp_same (TT := TT) (k := k) h.par.jl hi
  refine ⟨h.par.step hF hi hk ho hc, fun v hv hn => ?_, fun v hv => ?_⟩
  · have hvi : v ≠ i := fun e => hn (by simp [e])
    rw [(stp_other (TT := TT) (k := k) h.par.jl hi hvi).2.2]
    exact h.old v hv fun hm => hn (by simp [hm])
  · by_cases hvi : v = i
    · subst hvi; exact ⟨by rw [e2, hs], e3⟩
    · obtain ⟨q1, q2, q3⟩ := stp_other (TT := TT) (k := k) h.par.jl hi hvi
      rw [q2, q3]; exact h.sn v hv
section
variable {a a' : Option Addr} {n c n' c' : Nat} {TT : List Tk} {SS : List Sn}
theorem early1_spec (x y : Jb) (w : World) (hx : 0 ≤ x.2.2 ∧ x.2.2 ≤ 1000000000000) (hy : 0 ≤ y.2.2 ∧ y.2.2 ≤ 1000000000000) :
    CallsE Tryz.prog 85 ([] ++ [Value.agg (fJ x).toArray, Value.agg (fJ y).toArray] ++ []).toArray w (RetV w (.int .i64 (x.2.2 - y.2.2))) := by
  obtain ⟨x1, x2, x3⟩ := x
  obtain ⟨y1, y2, y3⟩ := y
  dsimp only at hx hy
  refine enter (X := cx 10) (cxg _) (args := [.agg #[.int .i64 x1, .int .i64 x2, .int .i64 x3], .agg #[.int .i64 y1, .int .i64 y2, .int .i64 y3]]) [.tmp 4] Tryz.func85 rfl rfl rfl rfl rfl ?_
  intro b2
  intro b3
  refine nw (by omega) (by omega) ?_
  exact ⟨[], ⟨rfl, rfl⟩, fun w' h => h.pick [0] rfl rfl⟩
set_option maxRecDepth 10000 in
theorem Early_spec {al : Option Addr} {nl cl : Nat} {L : List Jb} (w : World) (hT : Sl encT 4 (Hp.whole w) a n c TT) (hS : Sl encN 2 (Hp.whole w) a' n' c' SS) (hs : Sml TT SS) (hL : Sl (encF fJ) 3 (Hp.whole w) al nl cl L) (hl : TT.length < 20) (hnl : nl < 1000000000) :
    CallsE Tryz.prog 40 #[sv a n c a' n' c', .slice al nl cl] w (RetJ w (earR TT SS L) (chkE TT SS L)) := by
  have lT := hT.len
  have lS := hS.len
  have lL := hL.len
  obtain ⟨E, hE⟩ : ∃ E, E = chkE TT SS L := ⟨_, rfl⟩
  have hr : earR TT SS L = if E = 0 then earF TT SS L else [] := by unfold earR; rw [hE]
  have kC : ∀ w' : World, Sl encT 4 (Hp.whole w') a n c TT → Sl encN 2 (Hp.whole w') a' n' c' SS → Sl (encF fJ) 3 (Hp.whole w') al nl cl L → CallsE Tryz.prog 43 #[sv a n c a' n' c', .slice al nl cl] w' (RetV w' (.int .i64 E)) := fun w' h1 h2 h3 => by
    rw [hE]; exact Check_spec w' h1 h2 hs h3
  rw [hr, ← hE]
  refine enter (X := cx 63) (cxg _) (args := [.agg #[.slice a n c, .slice a' n' c'], .slice al nl cl]) [.tmp 4, .tmp 5] Tryz.func40 rfl rfl rfl rfl rfl ?_
  intro b2
  refine callV _ (fun w' hm => kC w' (hT.mono encT_mono (hm 0 _ rfl)) (hS.mono encN_mono (hm 0 _ rfl)) (hL.mono (encF_mono _) (hm 0 _ rfl))) ?_
  refine bsplitd (fun h1 => ?_) (fun h1 => ?_)
  · exact ⟨[.hp Hp.emp], ⟨Os.nil, rfl, rfl, by rw [if_neg h1]; exact OwnO.nil _ _ _⟩, fun w' h => Ok.emp (s := [.hp (Hp.whole w)]) (h.pick [0] rfl rfl)⟩
  have h0 : E = 0 := by omega
  have hch := hE.symm.trans h0
  obtain ⟨g1, g2, g3⟩ := chk_job hch
  have hF := fit_of hs g1
  have hSch := (chk_iff hF g1).1 hch
  have hM := (shop_ok g1).2.1
  rw [if_pos h0]
  clear kC
  refine NeedD.cut (Dw.Os × Dw.Os) (fun g => [(1, .v (.slice al nl cl)), (2, .bx 1 0), (7, .v g.1.v), (8, .v g.2.v)]) (fun g => [.hp (Hp.whole w), .box b2 [.slice a n c, .slice a' n' c'] 25, .hp g.1.h, .hp g.2.h])
    (fun g => OwnO fJ 52 3 g.1 L ∧ OwnO fI 3 1 g.2 (List.replicate SS.length 0)) (NeedD.by_order (cxg _) (.take 0 <| .take 2 <| .take 3 <| .take 4 <| .two 1 (.take 6 <| .run 5 <| .take 7 <| .done) 5 (.run 1 <| .take 6 <| .take 7 <| .done)) (by kernel_rfl) ?_) ?_
  · constructor
    · refine call (fun w' hm => cloneJobs_spec w' (hL.mono (encF_mono _) (hm 0 _ rfl)) (by omega)) ?_
      rintro _ _ ⟨oJ, rfl, rfl, hoJ⟩
      refine ⟨(by repeat first | exact trivial | refine ⟨.inl rfl, ?_⟩ | refine ⟨.inr rfl, ?_⟩), ?_⟩
      refine mkO (f := fI) (cxg _) (e := 3) rfl SS.length 0 rfl (by omega) (by omega) rfl (by omega) fun oF hoFn hoF => ?_
      refine ⟨(by repeat first | exact trivial | refine ⟨.inl rfl, ?_⟩ | refine ⟨.inr rfl, ?_⟩), ?_⟩
      exact ⟨(oJ, oF), ⟨hoJ, hoF⟩, Ent.mk (fun _ _ h => h.pick [0, 1, 2, 3] rfl rfl) rfl rfl⟩
    · refine mkO (f := fI) (cxg _) (e := 3) rfl SS.length 0 rfl (by omega) (by omega) rfl (by omega) fun oF hoFn hoF => ?_
      refine ⟨(by repeat first | exact trivial | refine ⟨.inl rfl, ?_⟩ | refine ⟨.inr rfl, ?_⟩), ?_⟩
      refine call (fun w' hm => cloneJobs_spec w' (hL.mono (encF_mono _) (hm 0 _ rfl)) (by omega)) ?_
      rintro _ _ ⟨oJ, rfl, rfl, hoJ⟩
      refine ⟨(by repeat first | exact trivial | refine ⟨.inl rfl, ?_⟩ | refine ⟨.inr rfl, ?_⟩), ?_⟩
      exact ⟨(oJ, oF), ⟨hoJ, hoF⟩, Ent.mk (fun _ _ h => h.pick [0, 1, 3, 2] rfl rfl) rfl rfl⟩
  rintro ⟨oJ, oF⟩ ⟨hoJ, hoF⟩ _
  dsimp only at hoJ hoF ⊢
  refine call (fun w' hm => cloneJobs_spec w' (hL.mono (encF_mono _) (hm 0 _ rfl)) (by omega)) ?_
  rintro _ _ ⟨oO, rfl, rfl, hoO⟩
  refine callM' (i := 4) rfl (fun w0 w' hok => sortStableJ_spec 85 [] (fun x y => x.2.2 - y.2.2) w' (hok.mem 4 _ rfl) hoO (by omega) (fun w2 h2 x hx y hy => early1_spec x y w2 (g3 x hx).s (g3 y hy).s)) ?_
  rintro _ hO2 _ ⟨rfl, rfl, hoO2⟩
  have lO := hoO2.len
  dsimp only at lO
  have sO := OwnO.sl (f := fJ) (fun _ => rfl) (by decide) hoO2
  obtain ⟨S, hSd⟩ : ∃ S, S = srtJ L := ⟨_, rfl⟩
  have hSd' : srtI (fun a b : Jb => decide (a.2.2 - b.2.2 < 0)) L = S := by rw [hSd]; rfl
  rw [hSd'] at hoO2 lO sO
  obtain ⟨r1, r2, r3⟩ := ear_run hF hSch
  have hP0 : Par TT SS (begJ TT SS L) [] := Par.nil hSch.len
  have hSl : S.length = TT.length := by rw [hSd]; unfold srtJ; rw [srtI_len]; exact hSch.len
  have hQl : (seqJ L).length = TT.length := by unfold seqJ; rw [List.length_map, ← hSd, hSl]
  obtain ⟨st, hst⟩ : ∃ st : Nat → SSt, st = fun m => runS TT (begJ TT SS L) ((seqJ L).take m) := ⟨_, rfl⟩
  have hst0 : st 0 = begJ TT SS L := by rw [hst]; rfl
  have hste : (st TT.length).1 = earF TT SS L := by rw [hst]; dsimp only; rw [List.take_of_length_le (by omega)]; rfl
  have hss : ∀ m (hm : m < TT.length), ∃ (i k : Nat), i < TT.length ∧ k < SS.length ∧ opnF TT (st m).2.1 i = true ∧ caA TT SS i k = true ∧ st (m + 1) = jbS TT (st m) i k ∧ (S[m]'(by omega)) = jbA L i ∧ (k : Int) = snA L i := fun m hm => by
    obtain ⟨q1, ⟨q2, q3, q4, q5⟩, q6⟩ := okS_at hF (seqJ L) hP0 r1 m (by omega)
    have e : (seqJ L)[m]'(by omega) = ((S[m]'(by omega)).1.toNat, (S[m]'(by omega)).2.1.toNat) := by subst hSd; unfold seqJ; rw [List.getElem_map]
    have hmem : (S[m]'(by omega)) ∈ srtJ L := by rw [← hSd]; exact List.getElem_mem _
    obtain ⟨z1, z2⟩ := srtJ_mem hSch hmem
    have z3 := hSch.st _ z1
    rw [e] at q2 q3 q4 q5 q6
    refine ⟨(S[m]'(by omega)).1.toNat, (S[m]'(by omega)).2.1.toNat, q2, q3, by rw [hst]; exact q4, q5, by rw [hst]; exact q6, z2, ?_⟩
    unfold snA at z3 ⊢
    rw [← z2] at z3 ⊢
    omega
  refine NeedL.mk (Nat × Hp × Hp × List Nat) (fun g => [(2, .bx 1 0), (7, .v oJ.v), (8, .v oF.v), (28, .v oO.v), (29, .v (.int .i64 oO.n)), (30, .v (.int .i64 g.1))]) (fun g => [.hp (Hp.whole w), .box b2 [.slice a n c, .slice a' n' c'] 25, .hp g.2.1, .hp g.2.2.1, .hp hO2])
    (fun g => (g.1 ≤ TT.length ∧ g.2.2.2.length = g.1) ∧ EaI TT SS L (st g.1) g.2.2.2 ∧ OwnO fJ 52 3 ⟨oJ.a, oJ.n, oJ.c, g.2.1⟩ (st g.1).1 ∧ OwnO fI 3 1 ⟨oF.a, oF.n, oF.c, g.2.2.1⟩ (st g.1).2.2) (fun g => oO.n - g.1) (0, oJ.h, oF.h, []) ⟨⟨Nat.zero_le _, rfl⟩, ?_, by dsimp only; rw [hst0]; exact hoJ, by dsimp only; rw [hst0]; exact hoF⟩ (Ent.mk (fun _ _ h => h) rfl rfl) ?_
  · dsimp only; rw [hst0]
    exact ⟨hP0, fun _ _ _ => rfl, fun i hi => ⟨rfl, hSch.tk i hi⟩⟩
  clear hoJ hoF
  rintro ⟨m, hJ, hFr, A⟩ ⟨⟨hm, hAl⟩, hI, hoJ, hoF⟩
  dsimp only at *
  refine bsplitd (fun h2 => ?_) (fun h2 => ?_)
  · have hmT : m < TT.length := by omega
    have hmS : m < S.length := by omega
    obtain ⟨i, k, hi, hk, ho, hca, hnx, hSm, hks⟩ := hss m hmT
    have hI2 := hI.step hF hi hk ho hca hks
    rw [← hnx] at hI2
    obtain ⟨s, hsd⟩ : ∃ s, s = st m := ⟨_, rfl⟩
    rw [← hsd] at hI hoJ hoF ho hnx
    have hok := hI.ok hSch hF (by omega)
    have hjl := hI.par.jl
    have hfl := hI.par.fl
    obtain ⟨t1, t2, t3, t4, t5⟩ := hI.par.t0 hF hi hk ho
    have htd := hF.d hi
    have hsni := hI.sn i hi
    obtain ⟨J, D, Fr⟩ := s
    dsimp only at hoJ hoF hjl hfl hok t1
    have sJ := OwnO.sl (f := fJ) (fun _ => rfl) (by decide) hoJ
    have sF := OwnO.sl (f := fI) (fun _ => rfl) (by decide) hoF
    have hiJ : i < J.length := by omega
    have hkF : k < Fr.length := by omega
    have hji : jbA J i = J[i] := gD hiJ
    obtain ⟨old, hold⟩ : ∃ old, old = J[i].2.2 := ⟨_, rfl⟩
    have hJi : J[i] = ((i : Int), (k : Int), old) := by
      rw [hold]
      exact Prod.ext (by rw [← hji]; exact hsni.2) (Prod.ext (by rw [← hji]; exact hsni.1.trans hks.symm) rfl)
    obtain ⟨x, hx⟩ : ∃ x, x = Fr[k] := ⟨_, rfl⟩
    obtain ⟨T0, hT0⟩ : ∃ T0, T0 = t0A TT (J, D, Fr) i k := ⟨_, rfl⟩
    have hT0' : max x (rdyJ TT J i) = T0 := by rw [hT0]; show _ = max (Fr.getD k 0) (rdyJ TT J i); rw [gD hkF, ← hx]
    have hn1 : (st (m + 1)).1 = J.set i ((i : Int), (k : Int), T0) := by rw [hnx, hT0]; rfl
    have hn2 : (st (m + 1)).2.2 = Fr.set k (endF TT ((i : Int), (k : Int), T0)) := by rw [hnx, hT0]; rfl
    rw [← hT0] at t2 t3
    have hjo : JOk TT.length ((i : Int), (k : Int), T0) := ⟨⟨by dsimp only; omega, by dsimp only; omega⟩, by dsimp only; omega, by dsimp only; omega⟩
    obtain ⟨st0, hst0'⟩ : ∃ st0, st0 = (S[m]'hmS).2.2 := ⟨_, rfl⟩
    have hSm2 : (S[m]'hmS) = ((i : Int), (k : Int), st0) := by
      rw [hst0']
      exact Prod.ext (by rw [hSm]; exact hSch.tk i hi) (Prod.ext (by rw [hSm]; exact hks.symm) rfl)
    refine idx (cxg _) (e := 52) rfl sO m rfl hmS (fun b9 o9 cs hcs hR hcell3 => ?_)
    rw [hSm2] at hR
    subst hR
    refine ldn (cxg _) (i := 4) rfl hcell3 rfl ?_
    intro b11
    refine NeedD.by_order0 (cxg _) (.take 0 <| .take 1 <| .take 2 <| .take 3 <| .take 4 <| .take 5 <| .take 6 <| .take 7 <| .take 8 <| .take 9 <| .take 10 <| .take 11 <| .run 12 <| .run 13 <| .take 14 <| .take 15 <| .run 16 <| .done) (by kernel_rfl) (subL_blank _ 2) ?_
    refine idx (cxg _) (e := 3) rfl sF k rfl hkF (fun b9 o9 cs hcs hR hcell4 => ?_)
    rw [← hx] at hR
    subst hR
    refine ld1 (cxg _) (i := 3) rfl (hcell4 0 _ rfl) rfl ?_
    refine callV _ (fun w' hm => ready_spec' i w' (hT.mono encT_mono (hm 0 _ rfl)) hF (sJ.mono (encF_mono _) (hm 2 _ rfl)) hok hjl hi) ?_
    refine ⟨(by repeat first | exact trivial | refine ⟨.inl rfl, ?_⟩ | refine ⟨.inr rfl, ?_⟩), ?_⟩
    refine qMax ?_
    refine ⟨(by repeat first | exact trivial | refine ⟨.inl rfl, ?_⟩ | refine ⟨.inr rfl, ?_⟩), ?_⟩
    rw [hT0']
    refine oidxN (cxg _) (e := 52) rfl (o := ⟨oJ.a, oJ.n, oJ.c, hJ⟩) hoJ i rfl hiJ fun b7 hb7 => ?_
    refine ostF (f := fJ) (cxg _) (sz := 3) (fo := 2) (fun _ => rfl) (i := 2) (o := ⟨oJ.a, oJ.n, oJ.c, hJ⟩) rfl hb7 hoJ hiJ (by decide) rfl rfl ((i : Int), (k : Int), T0) rfl rfl (by rw [hJi]; rfl) fun o2 f1 f2 f3 ho2 => ?_
    refine ⟨(by repeat first | exact trivial | refine ⟨.inl rfl, ?_⟩ | refine ⟨.inr rfl, ?_⟩), ?_⟩
    obtain ⟨xa, xn, xc, h3⟩ := o2
    simp only at f1 f2 f3
    subst f1 f2 f3
    have sJ2 := OwnO.sl (f := fJ) (fun _ => rfl) (by decide) ho2
    have hset : (J.set i ((i : Int), (k : Int), T0))[i]'(by rw [List.length_set]; exact hiJ) = ((i : Int), (k : Int), T0) := by simp
    refine NeedD.by_order (cxg _) (.take 0 <| .take 1 <| .take 2 <| .take 3 <| .take 4 <| .take 5 <| .take 6 <| .take 7 <| .take 8 <| .run 9 <| .take 10 <| .run 11 <| .done) (by kernel_rfl) ?_
    refine idx (cxg _) (e := 52) rfl sJ2 i rfl (by rw [List.length_set]; exact hiJ) (fun b9 o9 cs hcs hR hcell6 => ?_)
    rw [hset] at hR
    subst hR
    refine ldn (cxg _) (i := 2) rfl hcell6 rfl ?_
    refine callV _ (fun w' hm => end_spec (i : Int) (k : Int) T0 w' (hT.mono encT_mono (hm 0 _ rfl)) hF hjo) ?_
    refine ⟨(by repeat first | exact trivial | refine ⟨.inl rfl, ?_⟩ | refine ⟨.inr rfl, ?_⟩), ?_⟩
    refine oidx1 (cxg _) (e := 3) rfl rfl (o := ⟨oF.a, oF.n, oF.c, hFr⟩) hoF k rfl hkF fun b6 hb6 => ?_
    refine osto (g := fun x : Int => .int .i64 x) (fun _ => rfl) (cxg _) (i := 3) (o := ⟨oF.a, oF.n, oF.c, hFr⟩) rfl hb6 hoF hkF rfl rfl (endF TT ((i : Int), (k : Int), T0)) rfl rfl rfl fun o3 f4 f5 f6 ho3 => ?_
    obtain ⟨ya, yn, yc, h4⟩ := o3
    simp only at f4 f5 f6
    subst f4 f5 f6
    refine nw (by omega) (by omega) ?_
    exact ⟨(m + 1, h3, h4, A ++ [i]), ⟨⟨by dsimp only; omega, by simp [hAl]⟩, hI2, by dsimp only; rw [hn1]; exact ho2, by dsimp only; rw [hn2]; exact ho3⟩, by dsimp only; omega, Ent.mk (fun _ _ h => h.pick [0, 1, 2, 3, 4] rfl rfl) rfl rfl⟩
  · have hmn : m = TT.length := by omega
    rw [hmn, hste] at hoJ
    exact ⟨[.hp hJ], ⟨⟨oJ.a, oJ.n, oJ.c, hJ⟩, by rw [h0]; rfl, rfl, hoJ⟩, fun w' h => h.pick [0, 2] rfl rfl⟩
end
end Go.Proofs.YtnlkffccobdbjaaGreat
