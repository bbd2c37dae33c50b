/- Contract of schedule.Lower. Its premises are its own. -/
import Derived.Test.YtnlkffccobdbjaaGreatYWv
namespace Go.Dw
open Go Go.RowKit
/-- a slice of ints as data -/
structure Sd where
  a : Option Addr
  n : Nat
  c : Nat
  L : List Int
abbrev Sd.v (s : Sd) : Value := .slice s.a s.n s.c
abbrev Sd.rd (s : Sd) (h : Hp) : Prop := Sl (encF fI) 1 h s.a s.n s.c s.L
abbrev Sd.nil : Sd := ⟨none, 0, 0, []⟩
theorem Sd.rd.mono {s : Sd} {h k : Hp} (r : s.rd h) (l : h.le k) : s.rd k := by
  have r2 : Sl (encF fI) 1 h s.a s.n s.c s.L := r
  exact r2.mono (encF_mono _) l
theorem Sd.nil_rd (h : Hp) : Sd.nil.rd h := ⟨rfl, Nat.le_refl _, fun i hi => absurd hi (Nat.not_lt_zero i)⟩
end Go.Dw
namespace Go.Proofs.YtnlkffccobdbjaaGreat
open Go Go.RowKit Go.Dw
abbrev Lx := Int × List Int × List Int × List Int
def bitsP (x k : Nat) : Bool := decide ((x >>> k) &&& 1 = 1)
def bitsI (x M : Nat) : List Int := natL ((List.range M).filter (bitsP x))
theorem bitsI_succ (x k : Nat) : bitsI x (k + 1) = if bitsP x k then bitsI x k ++ [(k : Int)] else bitsI x k := by
  unfold bitsI natL
  rw [List.range_succ, List.filter_append, List.map_append]
  by_cases h : bitsP x k = true
  · simp [h]
  · simp [h]
theorem bitsI_len (x k : Nat) : (bitsI x k).length ≤ k := by
  unfold bitsI natL
  rw [List.length_map]
  exact Nat.le_trans (List.length_filter_le _ _) (by simp)
theorem bitsI_pos {x M : Nat} (h0 : 0 < x) (h1 : x < 2 ^ M) : 0 < (bitsI x M).length := by
  obtain ⟨i, hi⟩ : ∃ i, x.testBit i = true := Nat.exists_testBit_of_ne_zero (by omega)
  have hM : i < M := Classical.byContradiction fun hn => by
    have : x < 2 ^ i := Nat.lt_of_lt_of_le h1 (Nat.pow_le_pow_right (by decide) (by omega))
    rw [Nat.testBit_lt_two_pow this] at hi; cases hi
  have hp : bitsP x i = true := by
    unfold bitsP
    rw [decide_eq_true_eq, Nat.and_one_is_mod]
    rw [Nat.testBit, Nat.one_and_eq_mod_two] at hi
    have : (x >>> i) % 2 ≠ 0 := by simpa using hi
    omega
  refine List.length_pos_of_mem (a := (i : Int)) ?_
  unfold bitsI natL
  exact List.mem_map.2 ⟨i, List.mem_filter.2 ⟨List.mem_range.2 hM, hp⟩, rfl⟩
def loA (TT : List Tk) (SS : List Sn) (H R B : List Int) (le : Int) (x : Lx) (af : Int) : Lx :=
  if onF TT SS B H R le af = [] then x else if shF TT H R (onF TT SS B H R le af) B.length > x.1 then (shF TT H R (onF TT SS B H R le af) B.length, [], onF TT SS B H R le af, B) else x
def loL (TT : List Tk) (SS : List Sn) (H R B : List Int) (x : Lx) (le : Int) : Lx := (disF R).foldl (loA TT SS H R B le) x
def loS (TT : List Tk) (SS : List Sn) (H R : List Int) (x : Lx) (s : Nat) : Lx := (disF H).foldl (loL TT SS H R (bitsI (s + 1) SS.length)) x
def lowF (TT : List Tk) (SS : List Sn) : Lx := (List.range (2 ^ SS.length - 1)).foldl (loS TT SS (headF TT) (restF TT)) ((crtR TT SS).1, (crtR TT SS).2, [], [])
def lowR (TT : List Tk) (SS : List Sn) : Lx := if shopE TT SS = 0 then lowF TT SS else (0, [], [], [])
/-- a bound and its proof, and an error -/
def RetL (w : World) (x : Lx) (e : Int) : Ending → World → Prop := Ret w fun v cs => ∃ (p q r : Sd) (h : Hp), v = .tuple #[.int .i64 x.1, .agg #[p.v, q.v, r.v], .int .i64 e] ∧ cs = [.hp h] ∧ (p.rd h ∧ q.rd h ∧ r.rd h) ∧ (p.L, q.L, r.L) = x.2
/-- what the loops of Lower keep -/
structure LoI (G : Hp) (Hs Rs p q r : Sd) (x : Lx) : Prop where
  rh : Hs.rd G
  rr : Rs.rd G
  p1 : p.rd G
  p2 : q.rd G
  p3 : r.rd G
  e : (p.L, q.L, r.L) = x.2
theorem LoI.mono {G G' : Hp} {Hs Rs p q r : Sd} {x : Lx} (i : LoI G Hs Rs p q r x) (l : G.le G') : LoI G' Hs Rs p q r x := ⟨i.rh.mono l, i.rr.mono l, i.p1.mono l, i.p2.mono l, i.p3.mono l, i.e⟩
theorem Ok.join3 {w0 w : World} {W b1 b3 b9 : Ch} {G A B : Hp} (h : Ok w0 [W, b1, b3, b9, .hp G, .hp A, .hp B] w) : Ok w0 [W, b1, b3, b9, .hp ((G.join A).join B)] w := by
  have e1 := Ok.join (c := W) (d := .hp G) (e := .hp A) (s := [b1, b3, b9, .hp B]) (h.pick [0, 4, 5, 1, 2, 3, 6] rfl rfl)
  have e2 := Ok.join (c := W) (d := .hp (G.join A)) (e := .hp B) (s := [b1, b3, b9]) (e1.pick [0, 1, 5, 2, 3, 4] rfl rfl)
  exact e2.pick [0, 2, 3, 4, 1] rfl rfl
theorem Ok.join1 {w0 w : World} {W b1 b3 b9 : Ch} {G A : Hp} (h : Ok w0 [W, b1, b3, b9, .hp G, .hp A] w) : Ok w0 [W, b1, b3, b9, .hp (G.join A)] w := by
  have e1 := Ok.join (c := W) (d := .hp G) (e := .hp A) (s := [b1, b3, b9]) (h.pick [0, 4, 5, 1, 2, 3] rfl rfl)
  exact e1.pick [0, 2, 3, 4, 1] rfl rfl
section
variable {a a' : Option Addr} {n c n' c' : Nat} {TT : List Tk} {SS : List Sn}
set_option maxHeartbeats 1000000 in
set_option maxRecDepth 10000 in
theorem Lower_spec (w : World) (hT : Sl encT 4 (Hp.whole w) a n c TT) (hS : Sl encN 2 (Hp.whole w) a' n' c' SS) (hs : Sml TT SS) (hN : TT.length ≤ 12) :
    CallsE Tryz.prog 15 #[sv a n c a' n' c'] w (RetL w (lowR TT SS) (shopE TT SS)) := by
  have lT := hT.len
  have lS := hS.len
  obtain ⟨E, hE⟩ : ∃ E, E = shopE TT SS := ⟨_, rfl⟩
  have hr : lowR TT SS = if E = 0 then lowF TT SS else (0, [], [], []) := by unfold lowR; rw [hE]
  refine enter (X := cx 105) (cxg _) (args := [.agg #[.slice a n c, .slice a' n' c']]) [.tmp 2, .cell 3 30, .tmp 4] Tryz.func15 rfl rfl rfl rfl rfl ?_
  intro b1
  intro b3
  refine call (fun w' hm => Critical_spec w' (hT.mono encT_mono (hm 0 _ rfl)) (hS.mono encN_mono (hm 0 _ rfl)) hs) ?_
  rintro _ _ ⟨oC, rfl, rfl, hoC⟩
  rw [← hE]
  refine bsplitd (fun h1 => ?_) (fun h1 => ?_)
  · exact ⟨[.hp Hp.emp], ⟨Sd.nil, Sd.nil, Sd.nil, Hp.emp, by rw [hr, if_neg h1], rfl, ⟨Sd.nil_rd _, Sd.nil_rd _, Sd.nil_rd _⟩, by rw [hr, if_neg h1]⟩, fun w' h => Ok.emp (s := [.hp (Hp.whole w)]) (h.pick [0] rfl rfl)⟩
  have hE0 : shopE TT SS = 0 := by rw [← hE]; omega
  have hF := fit_of hs hE0
  have hM := (shop_ok hE0).2.1
  rw [if_pos (by omega)] at hr
  intro b9
  refine callS (fun w' hm => heads_spec w' (hT.mono encT_mono (hm 0 _ rfl)) (hS.mono encN_mono (hm 0 _ rfl)) hs hE0) ?_
  rintro _ _ ⟨oH, oR, rfl, rfl, hoH, hoR⟩ hsat0
  obtain ⟨Hs, hHs⟩ : ∃ Hs : Sd, Hs = ⟨oH.a, oH.n, oH.c, headF TT⟩ := ⟨_, rfl⟩
  obtain ⟨Rs, hRs⟩ : ∃ Rs : Sd, Rs = ⟨oR.a, oR.n, oR.c, restF TT⟩ := ⟨_, rfl⟩
  obtain ⟨Cs, hCs⟩ : ∃ Cs : Sd, Cs = ⟨oC.a, oC.n, oC.c, (crtR TT SS).2⟩ := ⟨_, rfl⟩
  have rH : Hs.rd oH.h := by rw [hHs]; exact OwnO.sl (f := fI) (fun _ => rfl) (by decide) hoH
  have rR : Rs.rd oR.h := by rw [hRs]; exact OwnO.sl (f := fI) (fun _ => rfl) (by decide) hoR
  have rC : Cs.rd oC.h := by rw [hCs]; exact OwnO.sl (f := fI) (fun _ => rfl) (by decide) hoC
  have vH : oH.v = Hs.v := by rw [hHs]; rfl
  have vR : oR.v = Rs.v := by rw [hRs]; rfl
  have vC : oC.v = Cs.v := by rw [hCs]; rfl
  have LH : Hs.L = headF TT := by rw [hHs]
  have LR : Rs.L = restF TT := by rw [hRs]
  have LC : Cs.L = (crtR TT SS).2 := by rw [hCs]
  clear hHs hRs hCs hoH hoR hoC
  have d34 : oC.h.dj oH.h := hsat0.dj 3 5 rfl rfl (by decide)
  have d35 : oC.h.dj oR.h := hsat0.dj 3 6 rfl rfl (by decide)
  have d45 : oH.h.dj oR.h := hsat0.dj 5 6 rfl rfl (by decide)
  clear hsat0
  have hb := head_bd hF
  have hrb := rest_rb hF
  have HbI : ∀ i, i < TT.length → -1000000000000 ≤ (headF TT).getD i 0 ∧ (headF TT).getD i 0 ≤ 1000000000000 := fun i hi => by have := hb.2 i hi; omega
  have RbI : ∀ i, i < TT.length → -1000000000000 ≤ (restF TT).getD i 0 ∧ (restF TT).getD i 0 ≤ 1000000000000 := fun i hi => by have := hrb.2 i hi; omega
  obtain ⟨P, hP⟩ : ∃ P : Nat → Lx, P = fun s => (List.range s).foldl (loS TT SS (headF TT) (restF TT)) ((crtR TT SS).1, (crtR TT SS).2, [], []) := ⟨_, rfl⟩
  have hP0 : P 0 = ((crtR TT SS).1, (crtR TT SS).2, [], []) := by rw [hP]; rfl
  have hPe : P (2 ^ SS.length - 1) = lowF TT SS := by rw [hP]; rfl
  have hPs : ∀ s, P (s + 1) = loS TT SS (headF TT) (restF TT) (P s) s := fun s => by rw [hP]; dsimp only; rw [List.range_succ, List.foldl_append]; rfl
  clear hP
  have h2M : 2 ^ SS.length ≤ 256 := Nat.le_trans (Nat.pow_le_pow_right (by decide) hM) (by decide)
  have h2p : 0 < 2 ^ SS.length := Nat.two_pow_pos _
  refine NeedL.mkS (Nat × Lx × Sd × Sd × Sd × Hp) (fun g => [(1, .bx 1 0), (3, .bx 2 0), (8, .v (.int .i64 g.2.1.1)), (9, .bx 3 0), (10, .v Hs.v), (11, .v Rs.v), (12, .v (.int .i64 g.1))])
    (fun g => [.hp (Hp.whole w), .box b1 [.slice a n c, .slice a' n' c'] 25, .box b3 [.slice none 0 0, .slice none 0 0, .slice none 0 0] 30, .box b9 [g.2.2.1.v, g.2.2.2.1.v, g.2.2.2.2.1.v] 30, .hp g.2.2.2.2.2])
    (fun g => (1 ≤ g.1 ∧ g.1 ≤ 2 ^ SS.length) ∧ g.2.1 = P (g.1 - 1) ∧ LoI g.2.2.2.2.2 Hs Rs g.2.2.1 g.2.2.2.1 g.2.2.2.2.1 g.2.1) (fun g => 2 ^ SS.length - g.1) (1, P 0, Cs, Sd.nil, Sd.nil, (oC.h.join oH.h).join oR.h)
    ⟨⟨Nat.le_refl _, h2p⟩, rfl, ?_⟩ (Ent.mk (fun _ _ h => ?_) (by rw [hP0, vH, vR, vC]; rfl) rfl) ?_
  · have l1 : oC.h.le ((oC.h.join oH.h).join oR.h) := (Hp.le_join_l _ _).trans (Hp.le_join_l _ _)
    have l2 : oH.h.le ((oC.h.join oH.h).join oR.h) := (Hp.le_join_r d34).trans (Hp.le_join_l _ _)
    have l3 : oR.h.le ((oC.h.join oH.h).join oR.h) := Hp.le_join_r (Hp.dj_both d35.symm d45.symm).symm
    exact ⟨rH.mono l2, rR.mono l3, rC.mono l1, Sd.nil_rd _, Sd.nil_rd _, by dsimp only; rw [hP0, LC]⟩
  · rw [show Value.slice oC.a oC.n oC.c = Cs.v from vC] at h
    exact Ok.join3 (h.pick [0, 1, 2, 4, 3, 5, 6] rfl rfl)
  clear rH rR rC vH vR vC LC d34 d35 d45 hP0
  rintro ⟨s, x, p, q, r, G⟩ ⟨⟨hs1, hs2⟩, hx, hI⟩ hsatG
  dsimp only at *
  refine qShlI SS.length rfl (by omega) (by omega) ?_
  refine bsplitd (fun h2 => ?_) (fun h2 => ?_)
  · have hsM : s < 2 ^ SS.length := by omega
    obtain ⟨s', rfl⟩ : ∃ s', s = s' + 1 := ⟨s - 1, by omega⟩
    rw [Nat.add_sub_cancel] at hx
    have hPn := hPs s'
    rw [← hx] at hPn
    have hbp := bitsI_pos (x := s' + 1) (M := SS.length) (by omega) hsM
    refine NeedL.mkS (Nat × Dw.Os) (fun g => [(1, .bx 1 0), (3, .bx 2 0), (8, .v (.int .i64 x.1)), (9, .bx 3 0), (10, .v Hs.v), (11, .v Rs.v), (12, .v (.int .i64 ((s' + 1 : Nat) : Int))), (13, .v g.2.v), (49, .v (.int .i64 n')), (50, .v (.int .i64 g.1))])
      (fun g => [.hp (Hp.whole w), .box b1 [.slice a n c, .slice a' n' c'] 25, .box b3 [.slice none 0 0, .slice none 0 0, .slice none 0 0] 30, .box b9 [p.v, q.v, r.v] 30, .hp G, .hp g.2.h])
      (fun g => g.1 ≤ n' ∧ OwnO fI 3 1 g.2 (bitsI (s' + 1) g.1)) (fun g => n' - g.1) (0, Os.nil) ⟨Nat.zero_le _, OwnO.nil _ _ _⟩ (Ent.mk (fun _ _ h => h.emp) rfl rfl) ?_
    rintro ⟨k, o⟩ ⟨hk, ho⟩ hsat
    dsimp only at *
    refine bsplitd (fun h3 => ?_) (fun h3 => ?_)
    · have hkl := bitsI_len (s' + 1) k
      have hst := bitsI_succ (s' + 1) k
      refine qShrI (s' + 1) k rfl rfl (by omega) ?_
      have hsh : (s' + 1) >>> k < 9223372036854775808 := Nat.lt_of_le_of_lt (Nat.shiftRight_le _ _) (by omega)
      refine qAndI ((s' + 1) >>> k) 1 rfl rfl hsh (by decide) ?_
      refine bsplitd (fun h4 => ?_) (fun h4 => ?_)
      · have hbt : bitsP (s' + 1) k = true := by unfold bitsP; exact decide_eq_true (by omega)
        rw [if_pos hbt] at hst
        intro b60
        refine appO (f := fI) (cxg _) (e := 3) rfl (i := 5) rfl ho (j := 6) (k : Int) rfl rfl rfl rfl (by omega) (fun o2 ho2 => ?_)
        refine nw (by omega) (by omega) ?_
        exact ⟨(k + 1, o2), ⟨by dsimp only; omega, by dsimp only; rw [hst]; exact ho2⟩, by dsimp only; omega, Ent.mk (fun _ _ h => h.pick [0, 1, 2, 3, 4, 5] rfl rfl) rfl rfl⟩
      · have hbt : bitsP (s' + 1) k = false := by unfold bitsP; exact decide_eq_false (by omega)
        rw [if_neg (by rw [hbt]; decide)] at hst
        refine nw (by omega) (by omega) ?_
        exact ⟨(k + 1, o), ⟨by dsimp only; omega, by dsimp only; rw [hst]; exact ho⟩, by dsimp only; omega, Ent.mk (fun _ _ h => h) rfl rfl⟩
    have hkM : k = SS.length := by omega
    rw [hkM] at ho
    have dG : G.dj o.h := hsat.dj 4 5 rfl rfl (by decide)
    clear hsat
    obtain ⟨Bs, hBs⟩ : ∃ Bs : Sd, Bs = ⟨o.a, o.n, o.c, bitsI (s' + 1) SS.length⟩ := ⟨_, rfl⟩
    have rB : Bs.rd o.h := by rw [hBs]; exact OwnO.sl (f := fI) (fun _ => rfl) (by decide) ho
    have LB : Bs.L = bitsI (s' + 1) SS.length := by rw [hBs]
    have lBn : Bs.n = Bs.L.length := rB.len
    have vB : o.v = Bs.v := by rw [hBs]; rfl
    have hBl : Bs.L.length ≤ 8 := by rw [LB]; exact Nat.le_trans (bitsI_len _ _) hM
    have hPn2 : P (s' + 1) = (disF (headF TT)).foldl (loL TT SS (headF TT) (restF TT) Bs.L) x := by rw [hPn, LB]; rfl
    rw [vB]
    clear hBs ho vB hPs
    have kD : ∀ (S : Sd) (L : List Int), S.L = L → L.length ≤ 12 → ∀ w' : World, S.rd (Hp.whole w') → CallsE Tryz.prog 50 #[.slice S.a S.n S.c] w' (Ret w' fun v cs => ∃ o : Dw.Os, v = o.v ∧ cs = [.hp o.h] ∧ OwnO fI 3 1 o (disF L)) := fun S L h1 h2 w' h3 => distinct_spec w' (by rw [← h1]; exact h3) h2
    refine callS (fun w' hm => kD Hs _ LH (by rw [hb.1]; exact hN) w' (hI.rh.mono (hm 4 _ rfl))) ?_
    rintro _ _ ⟨oD, rfl, rfl, hoD⟩ hsat
    have dGD : G.dj oD.h := hsat.dj 4 6 rfl rfl (by decide)
    have doD : o.h.dj oD.h := hsat.dj 5 6 rfl rfl (by decide)
    clear hsat
    obtain ⟨D, hD⟩ : ∃ D : Sd, D = ⟨oD.a, oD.n, oD.c, disF (headF TT)⟩ := ⟨_, rfl⟩
    have rD : D.rd oD.h := by rw [hD]; exact OwnO.sl (f := fI) (fun _ => rfl) (by decide) hoD
    have LD : D.L = disF (headF TT) := by rw [hD]
    have lDn : D.n = D.L.length := rD.len
    have hDl : D.L.length ≤ 12 := by rw [LD]; unfold disF; exact Nat.le_trans (ddI_len _) (by rw [srtI_len, hb.1]; exact hN)
    have vD : oD.v = D.v := by rw [hD]; rfl
    rw [vD]
    clear hD hoD vD
    rw [← LD] at hPn2
    refine NeedL.mkS (Nat × Lx × Sd × Sd × Sd × Hp) (fun g => [(1, .bx 1 0), (3, .bx 2 0), (8, .v (.int .i64 g.2.1.1)), (9, .bx 3 0), (10, .v Hs.v), (11, .v Rs.v), (12, .v (.int .i64 ((s' + 1 : Nat) : Int))), (13, .v Bs.v), (64, .v D.v), (65, .v (.int .i64 D.n)), (66, .v (.int .i64 g.1))])
      (fun g => [.hp (Hp.whole w), .box b1 [.slice a n c, .slice a' n' c'] 25, .box b3 [.slice none 0 0, .slice none 0 0, .slice none 0 0] 30, .box b9 [g.2.2.1.v, g.2.2.2.1.v, g.2.2.2.2.1.v] 30, .hp g.2.2.2.2.2])
      (fun g => g.1 ≤ D.n ∧ g.2.1 = (D.L.take g.1).foldl (loL TT SS (headF TT) (restF TT) Bs.L) x ∧ LoI g.2.2.2.2.2 Hs Rs g.2.2.1 g.2.2.2.1 g.2.2.2.2.1 g.2.1 ∧ Bs.rd g.2.2.2.2.2 ∧ D.rd g.2.2.2.2.2) (fun g => D.n - g.1) (0, x, p, q, r, (G.join o.h).join oD.h)
      ⟨Nat.zero_le _, rfl, hI.mono ((Hp.le_join_l _ _).trans (Hp.le_join_l _ _)), rB.mono ((Hp.le_join_r dG).trans (Hp.le_join_l _ _)), rD.mono (Hp.le_join_r (Hp.dj_both dGD.symm doD.symm).symm)⟩ (Ent.mk (fun _ _ h => Ok.join3 h) rfl rfl) ?_
    clear rB rD dG dGD doD hI hsatG hx hPn
    rintro ⟨i, y, p, q, r, G⟩ ⟨hi, hy, hI, rB, rD⟩ _
    dsimp only at *
    refine bsplitd (fun h5 => ?_) (fun h5 => ?_)
    · have hiD : i < D.L.length := by omega
      obtain ⟨le, hle⟩ : ∃ le, le = D.L[i] := ⟨_, rfl⟩
      have hyn : (D.L.take (i + 1)).foldl (loL TT SS (headF TT) (restF TT) Bs.L) x = (disF (restF TT)).foldl (loA TT SS (headF TT) (restF TT) Bs.L le) y := by
        rw [List.take_succ_eq_append_getElem hiD, List.foldl_append, ← hy, ← hle]; rfl
      refine idx (cxg _) (e := 3) rfl rD i rfl hiD (fun b8 o8 cs hcs hR hcell6 => ?_)
      rw [← hle] at hR
      subst hR
      refine ld1 (cxg _) (i := 4) rfl (hcell6 0 _ rfl) rfl ?_
      clear hcell6
      refine callS (fun w' hm => kD Rs _ LR (by rw [hrb.1]; exact hN) w' (hI.rr.mono (hm 4 _ rfl))) ?_
      rintro _ _ ⟨oA, rfl, rfl, hoA⟩ hsat
      have dGA : G.dj oA.h := hsat.dj 4 5 rfl rfl (by decide)
      clear hsat
      obtain ⟨A, hA⟩ : ∃ A : Sd, A = ⟨oA.a, oA.n, oA.c, disF (restF TT)⟩ := ⟨_, rfl⟩
      have rA : A.rd oA.h := by rw [hA]; exact OwnO.sl (f := fI) (fun _ => rfl) (by decide) hoA
      have LA : A.L = disF (restF TT) := by rw [hA]
      have lAn : A.n = A.L.length := rA.len
      have hAl : A.L.length ≤ 12 := by rw [LA]; unfold disF; exact Nat.le_trans (ddI_len _) (by rw [srtI_len, hrb.1]; exact hN)
      have vA : oA.v = A.v := by rw [hA]; rfl
      rw [vA]
      clear hA hoA vA
      rw [← LA] at hyn
      refine NeedL.mkS (Nat × Lx × Sd × Sd × Sd × Hp) (fun g => [(1, .bx 1 0), (3, .bx 2 0), (8, .v (.int .i64 g.2.1.1)), (9, .bx 3 0), (10, .v Hs.v), (11, .v Rs.v), (12, .v (.int .i64 ((s' + 1 : Nat) : Int))), (13, .v Bs.v), (16, .v (.int .i64 le)), (64, .v D.v), (65, .v (.int .i64 D.n)), (66, .v (.int .i64 i)), (71, .v A.v), (72, .v (.int .i64 A.n)), (73, .v (.int .i64 g.1))])
        (fun g => [.hp (Hp.whole w), .box b1 [.slice a n c, .slice a' n' c'] 25, .box b3 [.slice none 0 0, .slice none 0 0, .slice none 0 0] 30, .box b9 [g.2.2.1.v, g.2.2.2.1.v, g.2.2.2.2.1.v] 30, .hp g.2.2.2.2.2])
        (fun g => g.1 ≤ A.n ∧ g.2.1 = (A.L.take g.1).foldl (loA TT SS (headF TT) (restF TT) Bs.L le) y ∧ LoI g.2.2.2.2.2 Hs Rs g.2.2.1 g.2.2.2.1 g.2.2.2.2.1 g.2.1 ∧ Bs.rd g.2.2.2.2.2 ∧ D.rd g.2.2.2.2.2 ∧ A.rd g.2.2.2.2.2) (fun g => A.n - g.1) (0, y, p, q, r, G.join oA.h)
        ⟨Nat.zero_le _, rfl, hI.mono (Hp.le_join_l _ _), rB.mono (Hp.le_join_l _ _), rD.mono (Hp.le_join_l _ _), rA.mono (Hp.le_join_r dGA)⟩ (Ent.mk (fun _ _ h => Ok.join1 h) rfl rfl) ?_
      clear rB rD rA dGA hI hy
      rintro ⟨j, z, p, q, r, G⟩ ⟨hj, hz, hI, rB, rD, rA⟩ _
      dsimp only at *
      refine bsplitd (fun h7 => ?_) (fun h7 => ?_)
      · have hjA : j < A.L.length := by omega
        obtain ⟨af, haf⟩ : ∃ af, af = A.L[j] := ⟨_, rfl⟩
        obtain ⟨l, hl⟩ : ∃ l, l = onF TT SS Bs.L (headF TT) (restF TT) le af := ⟨_, rfl⟩
        have hzn : (A.L.take (j + 1)).foldl (loA TT SS (headF TT) (restF TT) Bs.L le) y = if l = [] then z else if shF TT (headF TT) (restF TT) l Bs.L.length > z.1 then (shF TT (headF TT) (restF TT) l Bs.L.length, [], l, Bs.L) else z := by
          rw [List.take_succ_eq_append_getElem hjA, List.foldl_append, ← hz, ← haf, hl]; rfl
        have hlm : ∀ x ∈ l, 0 ≤ x ∧ x < (TT.length : Int) := fun x hx => by rw [hl] at hx; exact onF_mem hx
        have hll : l.length ≤ 12 := by rw [hl]; exact Nat.le_trans (onK_len _ _ _ _ _ _ _ _) hN
        refine idx (cxg _) (e := 3) rfl rA j rfl hjA (fun b8 o8 cs hcs hR hcell8 => ?_)
        rw [← haf] at hR
        subst hR
        refine ld1 (cxg _) (i := 4) rfl (hcell8 0 _ rfl) rfl ?_
        clear hcell8
        have kO : ∀ w' : World, Sl encT 4 (Hp.whole w') a n c TT → Sl encN 2 (Hp.whole w') a' n' c' SS → Bs.rd (Hp.whole w') → Hs.rd (Hp.whole w') → Rs.rd (Hp.whole w') →
            CallsE Tryz.prog 51 #[sv a n c a' n' c', .slice Bs.a Bs.n Bs.c, .slice Hs.a Hs.n Hs.c, .slice Rs.a Rs.n Rs.c, .int .i64 le, .int .i64 af] w' (Ret w' fun v cs => ∃ o : Dw.Os, v = o.v ∧ cs = [.hp o.h] ∧ OwnO fI 3 1 o l) := fun w' h1 h2 h3 h4 h5 => by
          rw [hl]
          exact only_spec le af w' h1 h2 hs h3 (by rw [← LH]; exact h4) (by rw [← LR]; exact h5) hb.1 hrb.1 (by omega)
        refine callS (fun w' hm => kO w' (hT.mono encT_mono (hm 0 _ rfl)) (hS.mono encN_mono (hm 0 _ rfl)) (rB.mono (hm 4 _ rfl)) (hI.rh.mono (hm 4 _ rfl)) (hI.rr.mono (hm 4 _ rfl))) ?_
        clear kO
        rintro _ _ ⟨oL, rfl, rfl, hoL⟩ hsat
        have dGL : G.dj oL.h := hsat.dj 4 5 rfl rfl (by decide)
        clear hsat
        obtain ⟨Ls, hLs⟩ : ∃ Ls : Sd, Ls = ⟨oL.a, oL.n, oL.c, l⟩ := ⟨_, rfl⟩
        have rL : Ls.rd oL.h := by rw [hLs]; exact OwnO.sl (f := fI) (fun _ => rfl) (by decide) hoL
        have LL : Ls.L = l := by rw [hLs]
        have lLn : Ls.n = l.length := by rw [← LL]; exact rL.len
        have vL : oL.v = Ls.v := by rw [hLs]; rfl
        rw [vL]
        clear hLs hoL vL
        refine bsplitd (fun h9 => ?_) (fun h9 => ?_)
        · have hl0 : l = [] := List.eq_nil_of_length_eq_zero (by omega)
          rw [if_pos hl0] at hzn
          refine nw (by omega) (by omega) ?_
          exact ⟨(j + 1, z, p, q, r, G), ⟨by dsimp only; omega, hzn.symm, hI, rB, rD, rA⟩, by dsimp only; omega, Ent.mk (fun _ _ h => h.pick [0, 1, 2, 3, 4] rfl rfl) rfl rfl⟩
        have hl0 : l ≠ [] := fun e => by rw [e] at lLn; simp at lLn; omega
        have hlp : 0 < l.length := List.length_pos_iff.2 hl0
        rw [if_neg hl0] at hzn
        obtain ⟨b, hbv⟩ : ∃ b, b = shF TT (headF TT) (restF TT) l Bs.L.length := ⟨_, rfl⟩
        rw [← hbv] at hzn
        have kS : ∀ w' : World, Sl encT 4 (Hp.whole w') a n c TT → Ls.rd (Hp.whole w') → Hs.rd (Hp.whole w') → Rs.rd (Hp.whole w') →
            CallsE Tryz.prog 52 #[sv a n c a' n' c', .slice Ls.a Ls.n Ls.c, .int .i64 Bs.n, .slice Hs.a Hs.n Hs.c, .slice Rs.a Rs.n Rs.c] w' (RetV w' (.int .i64 b)) := fun w' h1 h2 h3 h4 => by
          rw [hbv, lBn]
          exact shared_spec Bs.L.length w' h1 hF (by rw [← LL]; exact h2) (by rw [← LH]; exact h3) (by rw [← LR]; exact h4) hlm hlp (by omega) HbI RbI hb.1 hrb.1 (by rw [LB]; exact hbp) (by omega)
        refine callV _ (fun w' hm => kS w' (hT.mono encT_mono (hm 0 _ rfl)) (rL.mono (hm 5 _ rfl)) (hI.rh.mono (hm 4 _ rfl)) (hI.rr.mono (hm 4 _ rfl))) ?_
        clear kS
        refine bsplitd (fun h10 => ?_) (fun h10 => ?_)
        · rw [if_pos h10] at hzn
          refine nw (by omega) (by omega) ?_
          refine ⟨(j + 1, (b, [], l, Bs.L), Sd.nil, Ls, Bs, G.join oL.h), ⟨by dsimp only; omega, hzn.symm, ?_, rB.mono (Hp.le_join_l _ _), rD.mono (Hp.le_join_l _ _), rA.mono (Hp.le_join_l _ _)⟩, by dsimp only; omega, Ent.mk (fun _ _ h => Ok.join1 h) rfl rfl⟩
          have lg : G.le (G.join oL.h) := Hp.le_join_l _ _
          exact ⟨hI.rh.mono lg, hI.rr.mono lg, Sd.nil_rd _, rL.mono (Hp.le_join_r dGL), rB.mono lg, by dsimp only; rw [LL]⟩
        · rw [if_neg h10] at hzn
          refine nw (by omega) (by omega) ?_
          exact ⟨(j + 1, z, p, q, r, G), ⟨by dsimp only; omega, hzn.symm, hI, rB, rD, rA⟩, by dsimp only; omega, Ent.mk (fun _ _ h => h.pick [0, 1, 2, 3, 4] rfl rfl) rfl rfl⟩
      · have hjn : A.L.take j = A.L := List.take_of_length_le (by omega)
        rw [hjn, ← hyn] at hz
        refine nw (by omega) (by omega) ?_
        exact ⟨(i + 1, z, p, q, r, G), ⟨by dsimp only; omega, hz, hI, rB, rD⟩, by dsimp only; omega, Ent.mk (fun _ _ h => h) rfl rfl⟩
    · have hin : D.L.take i = D.L := List.take_of_length_le (by omega)
      rw [hin, ← hPn2] at hy
      refine nw (by omega) (by omega) ?_
      exact ⟨(s' + 1 + 1, y, p, q, r, G), ⟨⟨by dsimp only; omega, by dsimp only; omega⟩, hy, hI⟩, by dsimp only; omega, Ent.mk (fun _ _ h => h) rfl rfl⟩
  · have hse : s - 1 = 2 ^ SS.length - 1 := by omega
    rw [hse, hPe] at hx
    refine NeedD.by_order (cxg _) (.take 0 <| .take 1 <| .take 2 <| .run 3 <| .run 4 <| .done) (by kernel_rfl) ?_
    exact ⟨[.hp G], ⟨p, q, r, G, by rw [hr, ← hx, show E = 0 by omega], rfl, ⟨hI.p1, hI.p2, hI.p3⟩, by rw [hr, ← hx]; exact hI.e⟩, fun w' h => h.pick [0, 4] rfl rfl⟩
end
end Go.Proofs.YtnlkffccobdbjaaGreat
