/- The law LexerPlaces. Each theorem's premises are its own. -/
import Derived.Test.YtoholjdojdmbkaaGreatDoorXT
import Derived.Test.YtoholjdojdmbkaaGreatDoorYN2
import Derived.Test.YtoholjdojdmbkaaGreatDoorYKi
namespace Go.Proofs.YtoholjdojdmbkaaGreatDoor
open Go Go.RowKit Go.Dw
structure PosM (s : Byts) (i : Nat) (kd : Int) (tx : Byts) : Prop where
  fit : i + (txF kd tx).length ≤ s.length
  eq : (s.drop i).take (txF kd tx).length = txF kd tx
  fin : kd = 5 ↔ i = s.length
  str : kd = 3 → rigB tx ∧ tx.length ≤ 4096
theorem pos_step {s : Byts} {i k : Nat} {L : List Tok} (h : PosL s i (L.drop k)) (hi : i ≤ s.length) :
    (∀ hk : k < L.length, ((L[k].2.2.1, L[k].2.2.2) = plA s i → PosM s i L[k].1 L[k].2.1 ∧ PosL s (i + 1) (L.drop (k + 1))) ∧ ((L[k].2.2.1, L[k].2.2.2) ≠ plA s i → PosL s (i + 1) (L.drop k))) ∧ (L.length ≤ k → PosL s (i + 1) (L.drop k)) := by
  refine ⟨fun hk => ?_, fun hk => ?_⟩
  · rw [List.drop_eq_getElem_cons hk] at h ⊢
    obtain ⟨j, h1, h2, h3, h4, h5, h6, h7, h8⟩ := h
    refine ⟨fun e => ?_, fun e => ?_⟩
    · have : j = i := plA_inj h2 hi (h3.symm.trans e)
      subst this
      exact ⟨⟨h4, h5, h6, h7⟩, h8⟩
    · have : i ≠ j := fun g => by subst g; exact e h3
      exact ⟨j, by omega, h2, h3, h4, h5, h6, h7, h8⟩
  · rw [List.drop_of_length_le hk] at h ⊢
    have h : s.length < i := h
    omega
theorem pos_end {s : Byts} {i k : Nat} {L : List Tok} (h : PosL s i (L.drop k)) (hi : s.length < i) : L.length ≤ k := by
  refine Nat.le_of_not_lt fun hk => ?_
  rw [List.drop_eq_getElem_cons hk] at h
  obtain ⟨j, h1, h2, _⟩ := h
  omega
theorem plA_fst_le (s : Byts) (i : Nat) : (plA s i).1 ≤ i + 1 ∧ (plA s i).2 ≤ i + 2 := by
  have := pasN_le (1, 1) (s.take i)
  rw [List.length_take] at this
  unfold plA
  dsimp only at this
  omega
theorem quoR_rig {x : Byts} (h : rigB x) (hl : x.length ≤ 4096) : quoR x = (quoteF x, 0) := by
  unfold quoR
  rw [if_neg (by omega), if_neg]
  rw [List.any_eq_true]
  rintro ⟨c, hc, h2⟩
  exact h c hc (by rw [unp_iff] at h2; exact of_decide_eq_true h2)
theorem sca_end (s : Byts) (hs : s.length ≤ 1000) : ((scaF s).2.2.2 = 0 → (scaF s).1.length ≤ 1000000 ∧ EndL (scaF s).1) ∧ ((scaF s).2.2.2 ≠ 0 → (scaF s).1 = []) :=
  ⟨fun h => ⟨by have := sca_len s; omega, (sca_shape s).1 h⟩, fun h => sca_err h⟩
set_option maxRecDepth 20000 in
set_option maxHeartbeats 2000000 in
theorem places_ok (s : Byts) (w : World) (hT : TabS (Hp.whole w)) : CallsE Tryz.prog 9 #[.string (bs s)] w (RetV w (.bool true)) := by
  have hzs := bs_size s
  have kn := fun (w' : World) (hm : (Hp.whole w).In w') => known35_spec w' (hT.mono hm.whole)
  refine enter (X := cx 140) (cxg _) (args := [.string (bs s)]) [.tmp 2] Tryz.func9 rfl rfl rfl rfl rfl ?_
  refine callV _ (fun w' hm => kn w' (hm 0 _ rfl)) ?_
  refine bsplitd (fun h2 => ?_) (fun h2 => ?_)
  · refine callV _ (fun w' hm => kn w' (hm 0 _ rfl)) ?_
    exact ⟨[], ⟨rfl, rfl⟩, fun w' h => h.pick [0] rfl rfl⟩
  have hs : s.length ≤ 500 := by omega
  have hps := fun h => sca_pos (s := s) (by omega) h
  have hen := sca_end s (by omega)
  have hSc := fun (w' : World) (hm : (Hp.whole w).In w') => Scan_spec s w' (hT.mono hm.whole)
  generalize scaF s = T at *
  obtain ⟨L, f1, f2, f⟩ := T
  dsimp only at hSc hps hen
  refine call (fun w' hm => hSc w' (hm 0 _ rfl)) ?_
  rintro _ _ ⟨oL, rfl, rfl, hoL⟩
  have hLn := hoL.len
  have hsl : Sl (encF fT) 4 oL.h oL.a oL.n oL.c L := OwnO.sl (f := fT) (sz := 4) (fun _ => rfl) (by decide) hoL
  refine bsplitd (fun h3 => ?_) (fun h3 => ?_)
  · have hL0 : L = [] := hen.2 h3
    have hn0 : oL.n = 0 := by rw [hLn, hL0]; rfl
    exact ⟨[], ⟨congrArg Value.bool (decide_eq_true (by rw [hn0]; rfl)), rfl⟩, fun w' h => h.pick [0] rfl rfl⟩
  have h3 : f = 0 := Classical.byContradiction h3
  have hps := hps h3
  have hen := hen.1 h3
  refine NeedL.mk (Nat × Nat × Nat × Nat) (fun g => [(0, .v (.string (bs s))), (3, .v oL.v), (7, .v (.int .i64 g.2.2.1)), (8, .v (.int .i64 g.2.2.2)), (9, .v (.int .i64 g.2.1)), (10, .v (.int .i64 g.1))]) (fun _ => [.hp (Hp.whole w), .hp oL.h])
    (fun g => g.1 ≤ s.length + 1 ∧ g.2.1 ≤ L.length ∧ (g.1 ≤ s.length → (g.2.2.1, g.2.2.2) = plA s g.1) ∧ PosL s g.1 (L.drop g.2.1) ∧ L.length ≤ 1000000) (fun g => s.length + 1 - g.1) (0, 0, 1, 1) ⟨Nat.zero_le _, Nat.zero_le _, fun _ => rfl, hps, hen.1⟩ (Ent.mk (fun _ _ h => h) rfl rfl) ?_
  rintro ⟨i, k, ln, co⟩ ⟨hi, hk, hpl, hP, hL6⟩
  dsimp only at hi hk hpl hP ⊢
  refine hidWP (fun q' hq' => ?_)
  refine bsplitd (fun h4 => ?_) (fun h4 => ?_)
  · have hi1 : i ≤ s.length := by omega
    have hpl := hpl hi1
    obtain ⟨hst, hst0⟩ := pos_step hP hi1
    have hpb := plA_fst_le s i
    have hnx := fun h => plA_next (s := s) (i := i) h
    rw [← hpl] at hst hpb hnx
    dsimp only at hpb
    clear hpl hP
    show wops _ _ _ _ _ _
    refine w1k (by rfl) fun K hK => ?_
    refine hK _ _ ?_
    refine w1k (by rfl) fun K hK => ?_
    refine hK _ _ ?_
    refine w1k (by rfl) fun K hK => ?_
    refine hK _ _ ?_
    refine w1k (by rfl) fun K hK => ?_
    refine hK _ _ ?_
    refine w1k (by rfl) fun K hK => ?_
    refine hK _ _ ?_
    refine wGSk (by rfl) (by rfl) (by rfl) (fun h4_ K hK => ?_) (fun h4_ K hK => ?_)
    · refine hK _ _ ?_
      refine wGYk (by rfl) (by rfl) (by rfl) fun K hK => ?_
      refine hK _ _ ?_
      refine wGYk (by rfl) (by rfl) (by rfl) fun K hK => ?_
      have hkL : k < L.length := by have := of_decide_eq_true h4_; omega
      obtain ⟨⟨kd, tx, l1, c1⟩, hLk⟩ : ∃ t, L[k] = t := ⟨_, rfl⟩
      refine idx (cxg _) (e := 32) rfl hsl k rfl hkL (fun b9 o9 cs hcs hR hcell => ?_)
      subst hR
      rw [hLk] at hcell
      refine hK _ _ ?_
      refine wGYk (by rfl) (by rfl) (by rfl) fun K hK => ?_
      refine hK _ _ ?_
      refine wGYk (by rfl) (by rfl) (by rfl) fun K hK => ?_
      refine ld1 (cxg _) (i := 1) rfl (hcell 2 _ rfl) rfl ?_
      refine hK _ _ ?_
      refine wGYk (by rfl) (by rfl) (by rfl) fun K hK => ?_
      refine hK _ _ ?_
      refine wGYk (by rfl) (by rfl) (by rfl) fun K hK => ?_
      refine hK _ _ ?_
      refine w1k (by rfl) fun K hK => ?_
      refine hK _ _ ?_
      refine w1k (by rfl) fun K hK => ?_
      refine hK _ _ ?_
      refine wGSk (by rfl) (by rfl) (by rfl) (fun h13_ K hK => ?_) (fun h13_ K hK => ?_)
      · refine hK _ _ ?_
        refine wGYk (by rfl) (by rfl) (by rfl) fun K hK => ?_
        refine hK _ _ ?_
        refine wGYk (by rfl) (by rfl) (by rfl) fun K hK => ?_
        refine idx (cxg _) (e := 32) rfl hsl k rfl hkL (fun b9 o9 cs hcs hR hcell => ?_)
        subst hR
        rw [hLk] at hcell
        refine hK _ _ ?_
        refine wGYk (by rfl) (by rfl) (by rfl) fun K hK => ?_
        refine hK _ _ ?_
        refine wGYk (by rfl) (by rfl) (by rfl) fun K hK => ?_
        refine ld1 (cxg _) (i := 1) rfl (hcell 3 _ rfl) rfl ?_
        refine hK _ _ ?_
        refine wGYk (by rfl) (by rfl) (by rfl) fun K hK => ?_
        refine hK _ _ ?_
        refine wGYk (by rfl) (by rfl) (by rfl) fun K hK => ?_
        refine hK _ _ ?_
        refine w1k (by rfl) fun K hK => ?_
        refine hK _ _ ?_
        refine wnil ?_
        refine wcond (by rfl) (fun hm9 => ?_) (fun hm9 => ?_)
        · obtain ⟨hM, hPn⟩ := (hst hkL).1 (by rw [hLk]; exact Prod.ext (by have g9 : ((l1 : Nat) : Int) = (ln : Int) := of_decide_eq_true h13_; dsimp only; omega) (by have g9 : ((c1 : Nat) : Int) = (co : Int) := of_decide_eq_true hm9; dsimp only; omega))
          rw [hLk] at hM
          dsimp only at hM
          obtain ⟨X, hXd⟩ : ∃ X, X = txF kd tx := ⟨_, rfl⟩
          have hfit := hM.fit
          have heq := hM.eq
          have hfin := hM.fin
          rw [← hXd] at hfit heq
          have heq : (s.take (i + X.length)).drop i = X := by rw [List.drop_take, show i + X.length - i = X.length by omega]; exact heq
          have hXz := bs_size X
          have hEq : (!(decide (kd = 5) == decide ((i : Int) = ((bs s).size : Int)))) = false := by
            by_cases g : kd = 5
            · rw [decide_eq_true g, decide_eq_true (show (i : Int) = ((bs s).size : Int) by have := hfin.1 g; omega)]; rfl
            · rw [decide_eq_false g, decide_eq_false (show ¬ (i : Int) = ((bs s).size : Int) by intro e; exact g (hfin.2 (by omega)))]; rfl
          show wops _ _ _ _ _ _
          refine w1k (by rfl) fun K hK => ?_
          refine hK _ _ ?_
          refine w1k (by rfl) fun K hK => ?_
          refine hK _ _ ?_
          refine w1k (by rfl) fun K hK => ?_
          refine idx (cxg _) (e := 32) rfl hsl k rfl hkL (fun b9 o9 cs hcs hR hcell => ?_)
          subst hR
          rw [hLk] at hcell
          refine hK _ _ ?_
          refine w1k (by rfl) fun K hK => ?_
          refine hK _ _ ?_
          refine w1k (by rfl) fun K hK => ?_
          refine ld1 (cxg _) (i := 1) rfl (hcell 1 _ rfl) rfl ?_
          refine hK _ _ ?_
          refine w1k (by rfl) fun K hK => ?_
          refine hK _ _ ?_
          refine wnil ?_
          show wops _ _ _ _ _ _
          refine w1k (by rfl) fun K hK => ?_
          refine hK _ _ ?_
          refine w1k (by rfl) fun K hK => ?_
          refine hK _ _ ?_
          refine w1k (by rfl) fun K hK => ?_
          refine idx (cxg _) (e := 32) rfl hsl k rfl hkL (fun b9 o9 cs hcs hR hcell => ?_)
          subst hR
          rw [hLk] at hcell
          refine hK _ _ ?_
          refine w1k (by rfl) fun K hK => ?_
          refine hK _ _ ?_
          refine w1k (by rfl) fun K hK => ?_
          refine ld1 (cxg _) (i := 1) rfl (hcell 0 _ rfl) rfl ?_
          refine hK _ _ ?_
          refine w1k (by rfl) fun K hK => ?_
          refine hK _ _ ?_
          refine wnil ?_
          refine wcond (by rfl) (fun h9 => ?_) (fun h9 => ?_)
          · have hk3 : kd = 3 := of_decide_eq_true h9
            obtain ⟨hr3, hl3⟩ := hM.str hk3
            have hQs := fun (w' : World) => Quote_spec tx (by omega) w'
            rw [quoR_rig hr3 hl3] at hQs
            have hX : X = quoteF tx := by rw [hXd]; unfold txF; rw [if_pos hk3]
            dsimp only at hQs
            rw [← hX] at hQs
            clear hX hXd
            refine callV _ (fun w' hm => hQs w') ?_
            refine hideQ (fun _ kz => kz _ _ ?_)
            show wops _ _ _ _ _ _
            refine w1k (by rfl) fun K hK => ?_
            refine hK _ _ ?_
            refine w1k (by rfl) fun K hK => ?_
            refine hK _ _ ?_
            refine w1k (by rfl) fun K hK => ?_
            refine hK _ _ ?_
            refine w1k (by rfl) fun K hK => ?_
            refine nw (by omega) (by omega) ?_
            refine hK _ _ ?_
            refine w1k (by rfl) fun K hK => ?_
            refine hK _ _ ?_
            refine w1k (by rfl) fun K hK => ?_
            refine hK _ _ ?_
            refine w1k (by rfl) fun K hK => ?_
            refine hK _ _ ?_
            refine w1k (by rfl) fun K hK => ?_
            refine hK _ _ ?_
            refine wGSk (by rfl) (by rfl) (by rfl) (fun h7_ K hK => ?_) (fun h7_ K hK => ?_)
            · refine hK _ _ ?_
              refine wGYk (by rfl) (by rfl) (by rfl) fun K hK => ?_
              refine hK _ _ ?_
              refine wGYk (by rfl) (by rfl) (by rfl) fun K hK => ?_
              refine hK _ _ ?_
              refine wGYk (by rfl) (by rfl) (by rfl) fun K hK => ?_
              refine hK _ _ ?_
              refine wGYk (by rfl) (by rfl) (by rfl) fun K hK => ?_
              refine hK _ _ ?_
              refine wGYk (by rfl) (by rfl) (by rfl) fun K hK => ?_
              refine nw (by omega) (by omega) ?_
              refine hK _ _ ?_
              refine wGYk (by rfl) (by rfl) (by rfl) fun K hK => ?_
              refine qSub (cxg _) rfl rfl i (i + X.length) (.inr ⟨_, _, rfl, rfl⟩) (.inr ⟨_, _, rfl, rfl⟩) (by omega) (by omega) ?_
              refine hK _ _ ?_
              refine wGYk (by rfl) (by rfl) (by rfl) fun K hK => ?_
              refine hK _ _ ?_
              refine wGYk (by rfl) (by rfl) (by rfl) fun K hK => ?_
              refine qNeL ?_
              refine hK _ _ ?_
              refine w1k (by rfl) fun K hK => ?_
              refine hK _ _ ?_
              refine w1k (by rfl) fun K hK => ?_
              refine hK _ _ ?_
              refine wGSk (by rfl) (by rfl) (by rfl) (fun h18_ K hK => ?_) (fun h18_ K hK => ?_)
              · refine hK _ _ ?_
                refine wGYk (by rfl) (by rfl) (by rfl) fun K hK => ?_
                refine hK _ _ ?_
                refine wGYk (by rfl) (by rfl) (by rfl) fun K hK => ?_
                refine idx (cxg _) (e := 32) rfl hsl k rfl hkL (fun b9 o9 cs hcs hR hcell => ?_)
                subst hR
                rw [hLk] at hcell
                refine hK _ _ ?_
                refine wGYk (by rfl) (by rfl) (by rfl) fun K hK => ?_
                refine hK _ _ ?_
                refine wGYk (by rfl) (by rfl) (by rfl) fun K hK => ?_
                refine ld1 (cxg _) (i := 1) rfl (hcell 0 _ rfl) rfl ?_
                refine hK _ _ ?_
                refine wGYk (by rfl) (by rfl) (by rfl) fun K hK => ?_
                refine hK _ _ ?_
                refine wGYk (by rfl) (by rfl) (by rfl) fun K hK => ?_
                refine hK _ _ ?_
                refine wGYk (by rfl) (by rfl) (by rfl) fun K hK => ?_
                refine hK _ _ ?_
                refine wGYk (by rfl) (by rfl) (by rfl) fun K hK => ?_
                refine hK _ _ ?_
                refine wGYk (by rfl) (by rfl) (by rfl) fun K hK => ?_
                refine hK _ _ ?_
                refine wGYk (by rfl) (by rfl) (by rfl) fun K hK => ?_
                refine qNeB ?_
                refine hK _ _ ?_
                refine w1k (by rfl) fun K hK => ?_
                refine hK _ _ ?_
                refine wnil ?_
                refine wcond (by rfl) (fun h9 => ?_) (fun h9 => ?_)
                · exact absurd h9 (by rw [hEq]; decide)
                · show wops _ _ _ _ _ _
                  refine w1k (by rfl) fun K hK => ?_
                  refine hK _ _ ?_
                  refine w1k (by rfl) fun K hK => ?_
                  refine nw (by omega) (by omega) ?_
                  refine hK _ _ ?_
                  refine w1k (by rfl) fun K hK => ?_
                  refine hK _ _ ?_
                  refine wnil ?_
                  show wops _ _ _ _ _ _
                  refine w1k (by rfl) fun K hK => ?_
                  refine hK _ _ ?_
                  refine w1k (by rfl) fun K hK => ?_
                  refine nw (by omega) (by omega) ?_
                  refine hK _ _ ?_
                  refine w1k (by rfl) fun K hK => ?_
                  refine hK _ _ ?_
                  refine wnil ?_
                  show wops _ _ _ _ _ _
                  refine w1k (by rfl) fun K hK => ?_
                  refine hK _ _ ?_
                  refine w1k (by rfl) fun K hK => ?_
                  refine hK _ _ ?_
                  refine w1k (by rfl) fun K hK => ?_
                  refine hK _ _ ?_
                  refine w1k (by rfl) fun K hK => ?_
                  refine hK _ _ ?_
                  refine w1k (by rfl) fun K hK => ?_
                  refine hK _ _ ?_
                  refine wGSk (by rfl) (by rfl) (by rfl) (fun h4_ K hK => ?_) (fun h4_ K hK => ?_)
                  · refine hK _ _ ?_
                    refine wGYk (by rfl) (by rfl) (by rfl) fun K hK => ?_
                    refine hK _ _ ?_
                    refine wGYk (by rfl) (by rfl) (by rfl) fun K hK => ?_
                    refine qIdxL (cxg _) rfl rfl i rfl (by have := of_decide_eq_true h4_; omega) ?_
                    refine hK _ _ ?_
                    refine wGYk (by rfl) (by rfl) (by rfl) fun K hK => ?_
                    refine hK _ _ ?_
                    refine w1k (by rfl) fun K hK => ?_
                    refine hK _ _ ?_
                    refine wnil ?_
                    have hi2 : i < s.length := by have := of_decide_eq_true h4_; omega
                    refine wcond (by rfl) (fun h9 => ?_) (fun h9 => ?_)
                    · have hc10 : s.getD i 0 = 10 := byte_is (k := 10) rfl (of_decide_eq_true h9)
                      refine nw (by omega) (by omega) ?_
                      refine nw (by omega) (by omega) ?_
                      exact hq' _ _ _ ⟨(i + 1, k + 1, ln + 1, 1), ⟨by dsimp only; omega, by dsimp only; omega, fun _ => by rw [hnx hi2, hc10]; rfl, hPn, hL6⟩, by dsimp only; omega, Ent.mk (fun _ _ h => h) rfl rfl⟩
                    · have hc10 : s.getD i 0 ≠ 10 := byte_ne (k := 10) rfl (of_decide_eq_false h9)
                      refine nw (by omega) (by omega) ?_
                      exact hq' _ _ _ ⟨(i + 1, k + 1, ln, co + 1), ⟨by dsimp only; omega, by dsimp only; omega, fun _ => by rw [hnx hi2]; unfold pas1; rw [if_neg hc10], hPn, hL6⟩, by dsimp only; omega, Ent.mk (fun _ _ h => h) rfl rfl⟩
                  · refine hK _ _ ?_
                    refine wGNk (by rfl) (by rfl) (by rfl) fun K hK => ?_
                    refine hK _ _ ?_
                    refine wGNk (by rfl) (by rfl) (by rfl) fun K hK => ?_
                    refine hK _ _ ?_
                    refine wGNk (by rfl) (by rfl) (by rfl) fun K hK => ?_
                    refine hK _ _ ?_
                    refine w1k (by rfl) fun K hK => ?_
                    refine hK _ _ ?_
                    refine wnil ?_
                    have hi2 : ¬ i < s.length := by have := of_decide_eq_false h4_; omega
                    refine wcond (by rfl) (fun h9 => ?_) (fun h9 => ?_)
                    · cases h9
                    · refine nw (by omega) (by omega) ?_
                      exact hq' _ _ _ ⟨(i + 1, k + 1, ln, co + 1), ⟨by dsimp only; omega, by dsimp only; omega, fun g => absurd g (by dsimp only; omega), hPn, hL6⟩, by dsimp only; omega, Ent.mk (fun _ _ h => h) rfl rfl⟩
              · exact absurd heq (of_decide_eq_true h18_)
            · exact absurd (of_decide_eq_true h7_) (by omega)
          · have hX : X = tx := by rw [hXd]; unfold txF; rw [if_neg (of_decide_eq_false h9)]
            rw [← hX]
            have hXz2 : (bs ((kd, X, l1, c1) : Tok).2.1).size = X.length := hXz
            clear hX hXd
            show wops _ _ _ _ _ _
            refine w1k (by rfl) fun K hK => ?_
            refine hK _ _ ?_
            refine w1k (by rfl) fun K hK => ?_
            refine hK _ _ ?_
            refine w1k (by rfl) fun K hK => ?_
            refine hK _ _ ?_
            refine w1k (by rfl) fun K hK => ?_
            refine nw (by omega) (by omega) ?_
            refine hK _ _ ?_
            refine w1k (by rfl) fun K hK => ?_
            refine hK _ _ ?_
            refine w1k (by rfl) fun K hK => ?_
            refine hK _ _ ?_
            refine w1k (by rfl) fun K hK => ?_
            refine hK _ _ ?_
            refine w1k (by rfl) fun K hK => ?_
            refine hK _ _ ?_
            refine wGSk (by rfl) (by rfl) (by rfl) (fun h7_ K hK => ?_) (fun h7_ K hK => ?_)
            · refine hK _ _ ?_
              refine wGYk (by rfl) (by rfl) (by rfl) fun K hK => ?_
              refine hK _ _ ?_
              refine wGYk (by rfl) (by rfl) (by rfl) fun K hK => ?_
              refine hK _ _ ?_
              refine wGYk (by rfl) (by rfl) (by rfl) fun K hK => ?_
              refine hK _ _ ?_
              refine wGYk (by rfl) (by rfl) (by rfl) fun K hK => ?_
              refine hK _ _ ?_
              refine wGYk (by rfl) (by rfl) (by rfl) fun K hK => ?_
              refine nw (by omega) (by omega) ?_
              refine hK _ _ ?_
              refine wGYk (by rfl) (by rfl) (by rfl) fun K hK => ?_
              refine qSub (cxg _) rfl rfl i (i + X.length) (.inr ⟨_, _, rfl, rfl⟩) (.inr ⟨_, _, rfl, rfl⟩) (by omega) (by omega) ?_
              refine hK _ _ ?_
              refine wGYk (by rfl) (by rfl) (by rfl) fun K hK => ?_
              refine hK _ _ ?_
              refine wGYk (by rfl) (by rfl) (by rfl) fun K hK => ?_
              refine qNeL ?_
              refine hK _ _ ?_
              refine w1k (by rfl) fun K hK => ?_
              refine hK _ _ ?_
              refine w1k (by rfl) fun K hK => ?_
              refine hK _ _ ?_
              refine wGSk (by rfl) (by rfl) (by rfl) (fun h18_ K hK => ?_) (fun h18_ K hK => ?_)
              · refine hK _ _ ?_
                refine wGYk (by rfl) (by rfl) (by rfl) fun K hK => ?_
                refine hK _ _ ?_
                refine wGYk (by rfl) (by rfl) (by rfl) fun K hK => ?_
                refine idx (cxg _) (e := 32) rfl hsl k rfl hkL (fun b9 o9 cs hcs hR hcell => ?_)
                subst hR
                rw [hLk] at hcell
                refine hK _ _ ?_
                refine wGYk (by rfl) (by rfl) (by rfl) fun K hK => ?_
                refine hK _ _ ?_
                refine wGYk (by rfl) (by rfl) (by rfl) fun K hK => ?_
                refine ld1 (cxg _) (i := 1) rfl (hcell 0 _ rfl) rfl ?_
                refine hK _ _ ?_
                refine wGYk (by rfl) (by rfl) (by rfl) fun K hK => ?_
                refine hK _ _ ?_
                refine wGYk (by rfl) (by rfl) (by rfl) fun K hK => ?_
                refine hK _ _ ?_
                refine wGYk (by rfl) (by rfl) (by rfl) fun K hK => ?_
                refine hK _ _ ?_
                refine wGYk (by rfl) (by rfl) (by rfl) fun K hK => ?_
                refine hK _ _ ?_
                refine wGYk (by rfl) (by rfl) (by rfl) fun K hK => ?_
                refine hK _ _ ?_
                refine wGYk (by rfl) (by rfl) (by rfl) fun K hK => ?_
                refine qNeB ?_
                refine hK _ _ ?_
                refine w1k (by rfl) fun K hK => ?_
                refine hK _ _ ?_
                refine wnil ?_
                refine wcond (by rfl) (fun h9 => ?_) (fun h9 => ?_)
                · exact absurd h9 (by rw [hEq]; decide)
                · show wops _ _ _ _ _ _
                  refine w1k (by rfl) fun K hK => ?_
                  refine hK _ _ ?_
                  refine w1k (by rfl) fun K hK => ?_
                  refine nw (by omega) (by omega) ?_
                  refine hK _ _ ?_
                  refine w1k (by rfl) fun K hK => ?_
                  refine hK _ _ ?_
                  refine wnil ?_
                  show wops _ _ _ _ _ _
                  refine w1k (by rfl) fun K hK => ?_
                  refine hK _ _ ?_
                  refine w1k (by rfl) fun K hK => ?_
                  refine nw (by omega) (by omega) ?_
                  refine hK _ _ ?_
                  refine w1k (by rfl) fun K hK => ?_
                  refine hK _ _ ?_
                  refine wnil ?_
                  show wops _ _ _ _ _ _
                  refine w1k (by rfl) fun K hK => ?_
                  refine hK _ _ ?_
                  refine w1k (by rfl) fun K hK => ?_
                  refine hK _ _ ?_
                  refine w1k (by rfl) fun K hK => ?_
                  refine hK _ _ ?_
                  refine w1k (by rfl) fun K hK => ?_
                  refine hK _ _ ?_
                  refine w1k (by rfl) fun K hK => ?_
                  refine hK _ _ ?_
                  refine wGSk (by rfl) (by rfl) (by rfl) (fun h4_ K hK => ?_) (fun h4_ K hK => ?_)
                  · refine hK _ _ ?_
                    refine wGYk (by rfl) (by rfl) (by rfl) fun K hK => ?_
                    refine hK _ _ ?_
                    refine wGYk (by rfl) (by rfl) (by rfl) fun K hK => ?_
                    refine qIdxL (cxg _) rfl rfl i rfl (by have := of_decide_eq_true h4_; omega) ?_
                    refine hK _ _ ?_
                    refine wGYk (by rfl) (by rfl) (by rfl) fun K hK => ?_
                    refine hK _ _ ?_
                    refine w1k (by rfl) fun K hK => ?_
                    refine hK _ _ ?_
                    refine wnil ?_
                    have hi2 : i < s.length := by have := of_decide_eq_true h4_; omega
                    refine wcond (by rfl) (fun h9 => ?_) (fun h9 => ?_)
                    · have hc10 : s.getD i 0 = 10 := byte_is (k := 10) rfl (of_decide_eq_true h9)
                      refine nw (by omega) (by omega) ?_
                      refine nw (by omega) (by omega) ?_
                      exact hq' _ _ _ ⟨(i + 1, k + 1, ln + 1, 1), ⟨by dsimp only; omega, by dsimp only; omega, fun _ => by rw [hnx hi2, hc10]; rfl, hPn, hL6⟩, by dsimp only; omega, Ent.mk (fun _ _ h => h) rfl rfl⟩
                    · have hc10 : s.getD i 0 ≠ 10 := byte_ne (k := 10) rfl (of_decide_eq_false h9)
                      refine nw (by omega) (by omega) ?_
                      exact hq' _ _ _ ⟨(i + 1, k + 1, ln, co + 1), ⟨by dsimp only; omega, by dsimp only; omega, fun _ => by rw [hnx hi2]; unfold pas1; rw [if_neg hc10], hPn, hL6⟩, by dsimp only; omega, Ent.mk (fun _ _ h => h) rfl rfl⟩
                  · refine hK _ _ ?_
                    refine wGNk (by rfl) (by rfl) (by rfl) fun K hK => ?_
                    refine hK _ _ ?_
                    refine wGNk (by rfl) (by rfl) (by rfl) fun K hK => ?_
                    refine hK _ _ ?_
                    refine wGNk (by rfl) (by rfl) (by rfl) fun K hK => ?_
                    refine hK _ _ ?_
                    refine w1k (by rfl) fun K hK => ?_
                    refine hK _ _ ?_
                    refine wnil ?_
                    have hi2 : ¬ i < s.length := by have := of_decide_eq_false h4_; omega
                    refine wcond (by rfl) (fun h9 => ?_) (fun h9 => ?_)
                    · cases h9
                    · refine nw (by omega) (by omega) ?_
                      exact hq' _ _ _ ⟨(i + 1, k + 1, ln, co + 1), ⟨by dsimp only; omega, by dsimp only; omega, fun g => absurd g (by dsimp only; omega), hPn, hL6⟩, by dsimp only; omega, Ent.mk (fun _ _ h => h) rfl rfl⟩
              · exact absurd heq (of_decide_eq_true h18_)
            · exact absurd (of_decide_eq_true h7_) (by omega)
        · show wops _ _ _ _ _ _
          refine w1k (by rfl) fun K hK => ?_
          refine hK _ _ ?_
          refine w1k (by rfl) fun K hK => ?_
          refine nw (by omega) (by omega) ?_
          refine hK _ _ ?_
          refine w1k (by rfl) fun K hK => ?_
          refine hK _ _ ?_
          refine wnil ?_
          show wops _ _ _ _ _ _
          refine w1k (by rfl) fun K hK => ?_
          refine hK _ _ ?_
          refine w1k (by rfl) fun K hK => ?_
          refine hK _ _ ?_
          refine w1k (by rfl) fun K hK => ?_
          refine hK _ _ ?_
          refine w1k (by rfl) fun K hK => ?_
          refine hK _ _ ?_
          refine w1k (by rfl) fun K hK => ?_
          refine hK _ _ ?_
          refine wGSk (by rfl) (by rfl) (by rfl) (fun h4_ K hK => ?_) (fun h4_ K hK => ?_)
          · refine hK _ _ ?_
            refine wGYk (by rfl) (by rfl) (by rfl) fun K hK => ?_
            refine hK _ _ ?_
            refine wGYk (by rfl) (by rfl) (by rfl) fun K hK => ?_
            refine qIdxL (cxg _) rfl rfl i rfl (by have := of_decide_eq_true h4_; omega) ?_
            refine hK _ _ ?_
            refine wGYk (by rfl) (by rfl) (by rfl) fun K hK => ?_
            refine hK _ _ ?_
            refine w1k (by rfl) fun K hK => ?_
            refine hK _ _ ?_
            refine wnil ?_
            have hi2 : i < s.length := by have := of_decide_eq_true h4_; omega
            refine wcond (by rfl) (fun h9 => ?_) (fun h9 => ?_)
            · have hc10 : s.getD i 0 = 10 := byte_is (k := 10) rfl (of_decide_eq_true h9)
              refine nw (by omega) (by omega) ?_
              refine nw (by omega) (by omega) ?_
              exact hq' _ _ _ ⟨(i + 1, k, ln + 1, 1), ⟨by dsimp only; omega, by dsimp only; omega, fun _ => by rw [hnx hi2, hc10]; rfl, (hst hkL).2 fun e => absurd (congrArg Prod.snd e) (by have g9 : ¬ ((c1 : Nat) : Int) = (co : Int) := of_decide_eq_false hm9; rw [hLk]; dsimp only; omega), hL6⟩, by dsimp only; omega, Ent.mk (fun _ _ h => h) rfl rfl⟩
            · have hc10 : s.getD i 0 ≠ 10 := byte_ne (k := 10) rfl (of_decide_eq_false h9)
              refine nw (by omega) (by omega) ?_
              exact hq' _ _ _ ⟨(i + 1, k, ln, co + 1), ⟨by dsimp only; omega, by dsimp only; omega, fun _ => by rw [hnx hi2]; unfold pas1; rw [if_neg hc10], (hst hkL).2 fun e => absurd (congrArg Prod.snd e) (by have g9 : ¬ ((c1 : Nat) : Int) = (co : Int) := of_decide_eq_false hm9; rw [hLk]; dsimp only; omega), hL6⟩, by dsimp only; omega, Ent.mk (fun _ _ h => h) rfl rfl⟩
          · refine hK _ _ ?_
            refine wGNk (by rfl) (by rfl) (by rfl) fun K hK => ?_
            refine hK _ _ ?_
            refine wGNk (by rfl) (by rfl) (by rfl) fun K hK => ?_
            refine hK _ _ ?_
            refine wGNk (by rfl) (by rfl) (by rfl) fun K hK => ?_
            refine hK _ _ ?_
            refine w1k (by rfl) fun K hK => ?_
            refine hK _ _ ?_
            refine wnil ?_
            have hi2 : ¬ i < s.length := by have := of_decide_eq_false h4_; omega
            refine wcond (by rfl) (fun h9 => ?_) (fun h9 => ?_)
            · cases h9
            · refine nw (by omega) (by omega) ?_
              exact hq' _ _ _ ⟨(i + 1, k, ln, co + 1), ⟨by dsimp only; omega, by dsimp only; omega, fun g => absurd g (by dsimp only; omega), (hst hkL).2 fun e => absurd (congrArg Prod.snd e) (by have g9 : ¬ ((c1 : Nat) : Int) = (co : Int) := of_decide_eq_false hm9; rw [hLk]; dsimp only; omega), hL6⟩, by dsimp only; omega, Ent.mk (fun _ _ h => h) rfl rfl⟩
      · refine hK _ _ ?_
        refine wGNk (by rfl) (by rfl) (by rfl) fun K hK => ?_
        refine hK _ _ ?_
        refine wGNk (by rfl) (by rfl) (by rfl) fun K hK => ?_
        refine hK _ _ ?_
        refine wGNk (by rfl) (by rfl) (by rfl) fun K hK => ?_
        refine hK _ _ ?_
        refine wGNk (by rfl) (by rfl) (by rfl) fun K hK => ?_
        refine hK _ _ ?_
        refine wGNk (by rfl) (by rfl) (by rfl) fun K hK => ?_
        refine hK _ _ ?_
        refine wGNk (by rfl) (by rfl) (by rfl) fun K hK => ?_
        refine hK _ _ ?_
        refine w1k (by rfl) fun K hK => ?_
        refine hK _ _ ?_
        refine wnil ?_
        refine wcond (by rfl) (fun h9 => ?_) (fun h9 => ?_)
        · cases h9
        · show wops _ _ _ _ _ _
          refine w1k (by rfl) fun K hK => ?_
          refine hK _ _ ?_
          refine w1k (by rfl) fun K hK => ?_
          refine nw (by omega) (by omega) ?_
          refine hK _ _ ?_
          refine w1k (by rfl) fun K hK => ?_
          refine hK _ _ ?_
          refine wnil ?_
          show wops _ _ _ _ _ _
          refine w1k (by rfl) fun K hK => ?_
          refine hK _ _ ?_
          refine w1k (by rfl) fun K hK => ?_
          refine hK _ _ ?_
          refine w1k (by rfl) fun K hK => ?_
          refine hK _ _ ?_
          refine w1k (by rfl) fun K hK => ?_
          refine hK _ _ ?_
          refine w1k (by rfl) fun K hK => ?_
          refine hK _ _ ?_
          refine wGSk (by rfl) (by rfl) (by rfl) (fun h4_ K hK => ?_) (fun h4_ K hK => ?_)
          · refine hK _ _ ?_
            refine wGYk (by rfl) (by rfl) (by rfl) fun K hK => ?_
            refine hK _ _ ?_
            refine wGYk (by rfl) (by rfl) (by rfl) fun K hK => ?_
            refine qIdxL (cxg _) rfl rfl i rfl (by have := of_decide_eq_true h4_; omega) ?_
            refine hK _ _ ?_
            refine wGYk (by rfl) (by rfl) (by rfl) fun K hK => ?_
            refine hK _ _ ?_
            refine w1k (by rfl) fun K hK => ?_
            refine hK _ _ ?_
            refine wnil ?_
            have hi2 : i < s.length := by have := of_decide_eq_true h4_; omega
            refine wcond (by rfl) (fun h9 => ?_) (fun h9 => ?_)
            · have hc10 : s.getD i 0 = 10 := byte_is (k := 10) rfl (of_decide_eq_true h9)
              refine nw (by omega) (by omega) ?_
              refine nw (by omega) (by omega) ?_
              exact hq' _ _ _ ⟨(i + 1, k, ln + 1, 1), ⟨by dsimp only; omega, by dsimp only; omega, fun _ => by rw [hnx hi2, hc10]; rfl, (hst hkL).2 fun e => absurd (congrArg Prod.fst e) (by have g9 : ¬ ((l1 : Nat) : Int) = (ln : Int) := of_decide_eq_false h13_; rw [hLk]; dsimp only; omega), hL6⟩, by dsimp only; omega, Ent.mk (fun _ _ h => h) rfl rfl⟩
            · have hc10 : s.getD i 0 ≠ 10 := byte_ne (k := 10) rfl (of_decide_eq_false h9)
              refine nw (by omega) (by omega) ?_
              exact hq' _ _ _ ⟨(i + 1, k, ln, co + 1), ⟨by dsimp only; omega, by dsimp only; omega, fun _ => by rw [hnx hi2]; unfold pas1; rw [if_neg hc10], (hst hkL).2 fun e => absurd (congrArg Prod.fst e) (by have g9 : ¬ ((l1 : Nat) : Int) = (ln : Int) := of_decide_eq_false h13_; rw [hLk]; dsimp only; omega), hL6⟩, by dsimp only; omega, Ent.mk (fun _ _ h => h) rfl rfl⟩
          · refine hK _ _ ?_
            refine wGNk (by rfl) (by rfl) (by rfl) fun K hK => ?_
            refine hK _ _ ?_
            refine wGNk (by rfl) (by rfl) (by rfl) fun K hK => ?_
            refine hK _ _ ?_
            refine wGNk (by rfl) (by rfl) (by rfl) fun K hK => ?_
            refine hK _ _ ?_
            refine w1k (by rfl) fun K hK => ?_
            refine hK _ _ ?_
            refine wnil ?_
            have hi2 : ¬ i < s.length := by have := of_decide_eq_false h4_; omega
            refine wcond (by rfl) (fun h9 => ?_) (fun h9 => ?_)
            · cases h9
            · refine nw (by omega) (by omega) ?_
              exact hq' _ _ _ ⟨(i + 1, k, ln, co + 1), ⟨by dsimp only; omega, by dsimp only; omega, fun g => absurd g (by dsimp only; omega), (hst hkL).2 fun e => absurd (congrArg Prod.fst e) (by have g9 : ¬ ((l1 : Nat) : Int) = (ln : Int) := of_decide_eq_false h13_; rw [hLk]; dsimp only; omega), hL6⟩, by dsimp only; omega, Ent.mk (fun _ _ h => h) rfl rfl⟩
    · refine hK _ _ ?_
      refine wGNk (by rfl) (by rfl) (by rfl) fun K hK => ?_
      refine hK _ _ ?_
      refine wGNk (by rfl) (by rfl) (by rfl) fun K hK => ?_
      refine hK _ _ ?_
      refine wGNk (by rfl) (by rfl) (by rfl) fun K hK => ?_
      refine hK _ _ ?_
      refine wGNk (by rfl) (by rfl) (by rfl) fun K hK => ?_
      refine hK _ _ ?_
      refine wGNk (by rfl) (by rfl) (by rfl) fun K hK => ?_
      refine hK _ _ ?_
      refine wGNk (by rfl) (by rfl) (by rfl) fun K hK => ?_
      refine hK _ _ ?_
      refine w1k (by rfl) fun K hK => ?_
      refine hK _ _ ?_
      refine w1k (by rfl) fun K hK => ?_
      refine hK _ _ ?_
      refine wGNk (by rfl) (by rfl) (by rfl) fun K hK => ?_
      refine hK _ _ ?_
      refine wGNk (by rfl) (by rfl) (by rfl) fun K hK => ?_
      refine hK _ _ ?_
      refine wGNk (by rfl) (by rfl) (by rfl) fun K hK => ?_
      refine hK _ _ ?_
      refine wGNk (by rfl) (by rfl) (by rfl) fun K hK => ?_
      refine hK _ _ ?_
      refine wGNk (by rfl) (by rfl) (by rfl) fun K hK => ?_
      refine hK _ _ ?_
      refine wGNk (by rfl) (by rfl) (by rfl) fun K hK => ?_
      refine hK _ _ ?_
      refine wGNk (by rfl) (by rfl) (by rfl) fun K hK => ?_
      refine hK _ _ ?_
      refine w1k (by rfl) fun K hK => ?_
      refine hK _ _ ?_
      refine wnil ?_
      have hkL : L.length ≤ k := by have := of_decide_eq_false h4_; omega
      refine wcond (by rfl) (fun h9 => ?_) (fun h9 => ?_)
      · cases h9
      · show wops _ _ _ _ _ _
        refine w1k (by rfl) fun K hK => ?_
        refine hK _ _ ?_
        refine w1k (by rfl) fun K hK => ?_
        refine nw (by omega) (by omega) ?_
        refine hK _ _ ?_
        refine w1k (by rfl) fun K hK => ?_
        refine hK _ _ ?_
        refine wnil ?_
        show wops _ _ _ _ _ _
        refine w1k (by rfl) fun K hK => ?_
        refine hK _ _ ?_
        refine w1k (by rfl) fun K hK => ?_
        refine hK _ _ ?_
        refine w1k (by rfl) fun K hK => ?_
        refine hK _ _ ?_
        refine w1k (by rfl) fun K hK => ?_
        refine hK _ _ ?_
        refine w1k (by rfl) fun K hK => ?_
        refine hK _ _ ?_
        refine wGSk (by rfl) (by rfl) (by rfl) (fun h4_ K hK => ?_) (fun h4_ K hK => ?_)
        · refine hK _ _ ?_
          refine wGYk (by rfl) (by rfl) (by rfl) fun K hK => ?_
          refine hK _ _ ?_
          refine wGYk (by rfl) (by rfl) (by rfl) fun K hK => ?_
          refine qIdxL (cxg _) rfl rfl i rfl (by have := of_decide_eq_true h4_; omega) ?_
          refine hK _ _ ?_
          refine wGYk (by rfl) (by rfl) (by rfl) fun K hK => ?_
          refine hK _ _ ?_
          refine w1k (by rfl) fun K hK => ?_
          refine hK _ _ ?_
          refine wnil ?_
          have hi2 : i < s.length := by have := of_decide_eq_true h4_; omega
          refine wcond (by rfl) (fun h9 => ?_) (fun h9 => ?_)
          · have hc10 : s.getD i 0 = 10 := byte_is (k := 10) rfl (of_decide_eq_true h9)
            refine nw (by omega) (by omega) ?_
            refine nw (by omega) (by omega) ?_
            exact hq' _ _ _ ⟨(i + 1, k, ln + 1, 1), ⟨by dsimp only; omega, by dsimp only; omega, fun _ => by rw [hnx hi2, hc10]; rfl, hst0 hkL, hL6⟩, by dsimp only; omega, Ent.mk (fun _ _ h => h) rfl rfl⟩
          · have hc10 : s.getD i 0 ≠ 10 := byte_ne (k := 10) rfl (of_decide_eq_false h9)
            refine nw (by omega) (by omega) ?_
            exact hq' _ _ _ ⟨(i + 1, k, ln, co + 1), ⟨by dsimp only; omega, by dsimp only; omega, fun _ => by rw [hnx hi2]; unfold pas1; rw [if_neg hc10], hst0 hkL, hL6⟩, by dsimp only; omega, Ent.mk (fun _ _ h => h) rfl rfl⟩
        · refine hK _ _ ?_
          refine wGNk (by rfl) (by rfl) (by rfl) fun K hK => ?_
          refine hK _ _ ?_
          refine wGNk (by rfl) (by rfl) (by rfl) fun K hK => ?_
          refine hK _ _ ?_
          refine wGNk (by rfl) (by rfl) (by rfl) fun K hK => ?_
          refine hK _ _ ?_
          refine w1k (by rfl) fun K hK => ?_
          refine hK _ _ ?_
          refine wnil ?_
          have hi2 : ¬ i < s.length := by have := of_decide_eq_false h4_; omega
          refine wcond (by rfl) (fun h9 => ?_) (fun h9 => ?_)
          · cases h9
          · refine nw (by omega) (by omega) ?_
            exact hq' _ _ _ ⟨(i + 1, k, ln, co + 1), ⟨by dsimp only; omega, by dsimp only; omega, fun g => absurd g (by dsimp only; omega), hst0 hkL, hL6⟩, by dsimp only; omega, Ent.mk (fun _ _ h => h) rfl rfl⟩
  · have hi2 : i = s.length + 1 := by omega
    have hkL : k = L.length := by have := pos_end hP (by omega); omega
    obtain ⟨pre, t, hLe, ht5, _⟩ := hen.2
    have hll : L.length = pre.length + 1 := by rw [hLe]; simp
    have hLk : L[pre.length]'(by omega) = t := by
      have : L[pre.length]? = some t := by rw [hLe]; simp
      exact (List.getElem?_eq_some_iff.1 this).2
    refine hq' _ _ _ ?_
    show wops _ _ _ _ _ _
    refine w1k (by rfl) fun K hK => ?_
    refine hK _ _ ?_
    refine w1k (by rfl) fun K hK => ?_
    refine hK _ _ ?_
    refine w1k (by rfl) fun K hK => ?_
    refine hK _ _ ?_
    refine w1k (by rfl) fun K hK => ?_
    refine hK _ _ ?_
    refine w1k (by rfl) fun K hK => ?_
    refine hK _ _ ?_
    refine wGSk (by rfl) (by rfl) (by rfl) (fun h4_ K hK => ?_) (fun h4_ K hK => ?_)
    · refine hK _ _ ?_
      refine wGYk (by rfl) (by rfl) (by rfl) fun K hK => ?_
      refine hK _ _ ?_
      refine w1k (by rfl) fun K hK => ?_
      refine hK _ _ ?_
      refine w1k (by rfl) fun K hK => ?_
      refine hK _ _ ?_
      refine wGSk (by rfl) (by rfl) (by rfl) (fun h8_ K hK => ?_) (fun h8_ K hK => ?_)
      · refine hK _ _ ?_
        refine wGYk (by rfl) (by rfl) (by rfl) fun K hK => ?_
        refine hK _ _ ?_
        refine wGYk (by rfl) (by rfl) (by rfl) fun K hK => ?_
        refine nwEq (y := (pre.length : Int)) (by omega) (by omega) (by omega) ?_
        refine hK _ _ ?_
        refine wGYk (by rfl) (by rfl) (by rfl) fun K hK => ?_
        refine idx (cxg _) (e := 32) rfl hsl pre.length rfl (by omega) (fun b9 o9 cs hcs hR hcell => ?_)
        subst hR
        refine hK _ _ ?_
        refine wGYk (by rfl) (by rfl) (by rfl) fun K hK => ?_
        refine hK _ _ ?_
        refine wGYk (by rfl) (by rfl) (by rfl) fun K hK => ?_
        refine ld1 (cxg _) (i := 1) rfl (hcell 0 _ rfl) rfl ?_
        refine hK _ _ ?_
        refine wGYk (by rfl) (by rfl) (by rfl) fun K hK => ?_
        refine hK _ _ ?_
        refine w1k (by rfl) fun K hK => ?_
        refine hK _ _ ?_
        refine w1k (by rfl) fun K hK => ?_
        refine hK _ _ ?_
        refine wnil ?_
        exact ⟨[], ⟨congrArg Value.bool (decide_eq_true (by rw [hLk]; exact ht5)), rfl⟩, fun w' h => h.pick [0] rfl rfl⟩
      · exact absurd (of_decide_eq_false h8_) (by omega)
    · exact absurd (of_decide_eq_false h4_) (by omega)
end Go.Proofs.YtoholjdojdmbkaaGreatDoor
