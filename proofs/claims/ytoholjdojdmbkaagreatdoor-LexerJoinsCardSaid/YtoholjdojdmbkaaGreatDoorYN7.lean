/- Contract of the model's join. Each theorem's premises are its own. -/
import Derived.Test.YtoholjdojdmbkaaGreatDoorYN6
import Derived.Test.YtoholjdojdmbkaaGreatDoorXL
namespace Go.Proofs.YtoholjdojdmbkaaGreatDoor
open Go Go.RowKit Go.Dw
theorem joinB_snoc : ∀ (L : List Byts) (x : Byts), joinB (L ++ [x]) = (if L = [] then [] else joinB L ++ [32]) ++ x
  | [], x => rfl
  | y :: L, x => by
    have ih := joinB_snoc L x
    rw [List.cons_append, joinB_cons, if_neg (show ¬ L ++ [x] = [] by simp), ih, if_neg (show ¬ y :: L = [] by simp), joinB_cons]
    by_cases h : L = []
    · subst h; simp
    · rw [if_neg h, if_neg h]; simp
theorem wdZ_nil {l : List TokZ} : wdZ l = [] ↔ l.length = 0 := by
  rw [← List.length_eq_zero_iff, wdZ_len]
theorem sub_one {x : Byts} {k : Nat} (h : k < x.length) : (x.take (k + 1)).drop k = [x.getD k 0] := by
  rw [takeB_snoc h, List.drop_left' (by rw [List.length_take]; omega)]
theorem any_of {x : Byts} {k : Nat} (hk : k < x.length) (h : badC (x.getD k 0)) : x.any unpB = true := by
  rw [List.any_eq_true]
  refine ⟨x[k], List.getElem_mem hk, ?_⟩
  rw [unp_iff]
  rw [List.getD_eq_getElem?_getD, List.getElem?_eq_getElem hk] at h
  exact decide_eq_true h
theorem none_of {x : Byts} (h : ∀ j, j < x.length → ¬ badC (x.getD j 0)) : x.any unpB = false := by
  rw [List.any_eq_false]
  intro c hc
  obtain ⟨j, hj, rfl⟩ := List.mem_iff_getElem.1 hc
  have := h j hj
  rw [List.getD_eq_getElem?_getD, List.getElem?_eq_getElem hj] at this
  rw [unp_iff]
  simpa using this
set_option maxRecDepth 20000 in
set_option maxHeartbeats 2000000 in
theorem join35_spec {M : List TokZ} {a : Option Addr} {n c : Nat} (hM : ∀ t ∈ M, t.2.1.length ≤ 50) (hn4 : M.length ≤ 20) (w : World) (hL : Sl (encF fTz) 4 (Hp.whole w) a n c M) :
    CallsE Tryz.prog 33 #[.slice a n c] w (RetV w (.tuple #[.string (bs (jonK (M.map kz)).1), .int .i64 (jonK (M.map kz)).2])) := by
  have hn := hL.len
  refine enter (X := cx 116) (cxg _) (args := [.slice a n c]) [.tmp 2, .tmp 3] Tryz.func33 rfl rfl rfl rfl rfl ?_
  refine NeedL.mk (Nat × Dw.Os) (fun g => [(0, .v (.slice a n c)), (4, .v g.2.v), (5, .v (.string (bs (joinB (wdZ (keptZ (M.take g.1))))))), (6, .v (.int .i64 g.1))]) (fun g => [.hp (Hp.whole w), .hp g.2.h])
    (fun g => g.1 ≤ M.length ∧ OwnO fTz 32 4 g.2 (keptZ (M.take g.1)) ∧ ((keptZ (M.take g.1)).map kz).any badK = false) (fun g => M.length - g.1)
    (0, Os.nil) ⟨Nat.zero_le _, OwnO.nil _ _ _, rfl⟩ (Ent.mk (fun _ _ h => h.emp) rfl rfl) ?_
  rintro ⟨i, oK⟩ ⟨hi, hKo, hbd⟩
  dsimp only at hi hKo hbd ⊢
  have hwx : ∀ j, ∀ x ∈ wdZ (keptZ (M.take j)), x.length ≤ 102 := by
    intro j x hx
    unfold wdZ at hx
    rw [List.map_map] at hx
    obtain ⟨y, hy, rfl⟩ := List.mem_map.1 hx
    have hy2 : y ∈ M := List.mem_of_mem_take (List.mem_filter.1 hy).1
    have hyl := hM y hy2
    have hel := esc_len y.2.1
    show (txF y.1 y.2.1).length ≤ 102
    unfold txF
    split
    · show (escF y.2.1 ++ [34]).length + 1 ≤ 102
      rw [List.length_append]; simp only [List.length_singleton]; omega
    · omega
  have hjl := joinB_le _ (hwx i)
  rw [wdZ_len] at hjl
  have hkl := kept_le (M.take i)
  rw [List.length_take] at hkl
  have hkn := hKo.len
  refine hidWP (fun q' hq' => ?_)
  refine bsplitd (fun h1 => ?_) (fun h1 => ?_)
  · have hi1 : i < M.length := by omega
    have htk := keptZ_take hi1
    have hMi := hM M[i] (List.getElem_mem hi1)
    have hba := fun h3 hb => bad_any hi1 h3 hb
    obtain ⟨⟨kd, tx, l1, c1⟩, hti⟩ : ∃ t, M[i] = t := ⟨_, rfl⟩
    rw [hti] at htk hMi hba
    dsimp only at htk hMi hba
    show wops _ _ _ _ _ _
    refine w1k (by rfl) fun K hK => ?_
    refine hK _ _ ?_
    refine w1k (by rfl) fun K hK => ?_
    refine hK _ _ ?_
    refine w1k (by rfl) fun K hK => ?_
    refine idx (cxg _) (e := 32) rfl hL i rfl hi1 (fun b9 o9 cs hcs hR hcell => ?_)
    subst hR
    rw [hti] at hcell
    refine hK _ _ ?_
    refine w1k (by rfl) fun K hK => ?_
    refine hK _ _ ?_
    refine w1k (by rfl) fun K hK => ?_
    refine ld1 (cxg _) (i := 0) rfl (hcell 0 _ rfl) rfl ?_
    refine hK _ _ ?_
    refine w1k (by rfl) fun K hK => ?_
    refine hK _ _ ?_
    refine wnil ?_
    refine wcond (by rfl) (fun h9 => ?_) (fun h9 => ?_)
    · have h2 : kd = 5 := of_decide_eq_true h9
      rw [if_pos h2, List.append_nil] at htk
      refine nw (by omega) (by omega) ?_
      exact hq' _ _ _ ⟨(i + 1, oK), ⟨hi1, by dsimp only; rw [htk]; exact hKo, by dsimp only; rw [htk]; exact hbd⟩, by dsimp only; omega, Ent.mk (fun _ _ h => h) (by dsimp only; rw [htk]; rfl) rfl⟩
    · have h2 : ¬ kd = 5 := of_decide_eq_false h9
      rw [if_neg h2] at htk
      obtain ⟨X, hX⟩ : ∃ X, X = txF kd tx := ⟨_, rfl⟩
      have hWn : wdZ (keptZ (M.take (i + 1))) = wdZ (keptZ (M.take i)) ++ [X] := by rw [htk, wdZ_snoc, hX]
      have hbad : badK (kd, tx) = false → ((keptZ (M.take (i + 1))).map kz).any badK = false := fun h => by
        rw [htk, List.map_append, List.any_append, hbd]
        show (badK (kd, tx) || false) = false
        rw [h]; rfl
      clear h9
      show wops _ _ _ _ _ _
      refine w1k (by rfl) fun K hK => ?_
      refine hK _ _ ?_
      refine w1k (by rfl) fun K hK => ?_
      refine hK _ _ ?_
      refine w1k (by rfl) fun K hK => ?_
      refine hK _ _ ?_
      refine wnil ?_
      refine wcond (by rfl) (fun h9 => ?_) (fun h9 => ?_)
      · have hne : ¬ wdZ (keptZ (M.take i)) = [] := fun e => by have := wdZ_nil.1 e; have := of_decide_eq_true h9; omega
        clear h9
        show wops _ _ _ _ _ _
        refine w1k (by rfl) fun K hK => ?_
        refine hK _ _ ?_
        refine w1k (by rfl) fun K hK => ?_
        refine qAdd (ty := 9) (a := joinB (wdZ (keptZ (M.take i)))) (b := [32]) (by simp only [List.length_cons, List.length_nil]; have := Nat.mul_le_mul_right 103 (show (keptZ (M.take i)).length ≤ 20 by omega); omega) ?_
        refine hK _ _ ?_
        refine w1k (by rfl) fun K hK => ?_
        refine hK _ _ ?_
        refine wnil ?_
        show wops _ _ _ _ _ _
        refine w1k (by rfl) fun K hK => ?_
        refine hK _ _ ?_
        refine w1k (by rfl) fun K hK => ?_
        refine hK _ _ ?_
        refine w1k (by rfl) fun K hK => ?_
        refine hK _ _ ?_
        refine w1k (by rfl) fun K hK => ?_
        refine idx (cxg _) (e := 32) rfl hL i rfl hi1 (fun b9 o9 cs hcs hR hcell => ?_)
        subst hR
        rw [hti] at hcell
        refine hK _ _ ?_
        refine w1k (by rfl) fun K hK => ?_
        refine ldn (cxg _) (i := 0) rfl hcell rfl ?_
        refine hK _ _ ?_
        refine w1k (by rfl) fun K hK => ?_
        intro b36
        refine hK _ _ ?_
        refine w1k (by rfl) fun K hK => ?_
        refine appO (f := fTz) (cxg _) (e := 32) rfl (i := 1) rfl hKo (j := 2) (kd, tx, l1, c1) rfl rfl rfl rfl (by omega) (fun oK2 hK2 => ?_)
        rw [← htk] at hK2
        refine hK _ _ ?_
        refine w1k (by rfl) fun K hK => ?_
        refine hK _ _ ?_
        refine wnil ?_
        show wops _ _ _ _ _ _
        refine w1k (by rfl) fun K hK => ?_
        refine hK _ _ ?_
        refine w1k (by rfl) fun K hK => ?_
        refine hK _ _ ?_
        refine w1k (by rfl) fun K hK => ?_
        refine idx (cxg _) (e := 32) rfl hL i rfl hi1 (fun b9 o9 cs hcs hR hcell => ?_)
        subst hR
        rw [hti] at hcell
        refine hK _ _ ?_
        refine w1k (by rfl) fun K hK => ?_
        refine hK _ _ ?_
        refine w1k (by rfl) fun K hK => ?_
        refine ld1 (cxg _) (i := 0) rfl (hcell 1 _ rfl) rfl ?_
        refine hK _ _ ?_
        refine w1k (by rfl) fun K hK => ?_
        refine hK _ _ ?_
        refine wnil ?_
        show wops _ _ _ _ _ _
        refine w1k (by rfl) fun K hK => ?_
        refine hK _ _ ?_
        refine w1k (by rfl) fun K hK => ?_
        refine hK _ _ ?_
        refine w1k (by rfl) fun K hK => ?_
        refine idx (cxg _) (e := 32) rfl hL i rfl hi1 (fun b9 o9 cs hcs hR hcell => ?_)
        subst hR
        rw [hti] at hcell
        refine hK _ _ ?_
        refine w1k (by rfl) fun K hK => ?_
        refine hK _ _ ?_
        refine w1k (by rfl) fun K hK => ?_
        refine ld1 (cxg _) (i := 0) rfl (hcell 0 _ rfl) rfl ?_
        refine hK _ _ ?_
        refine w1k (by rfl) fun K hK => ?_
        refine hK _ _ ?_
        refine wnil ?_
        refine wcond (by rfl) (fun h9 => ?_) (fun h9 => ?_)
        · have h3 : kd = 3 := of_decide_eq_true h9
          have hXq : X = quoteF tx := by rw [hX]; unfold txF; rw [if_pos h3]
          refine NeedL.mk Nat (fun k => [(0, .v (.slice a n c)), (4, .v oK2.v), (5, .v (.string (bs (joinB (wdZ (keptZ (M.take i))) ++ [32])))), (6, .v (.int .i64 i)), (7, .v (.string (bs (34 :: escF (tx.take k))))), (8, .v (.int .i64 k))]) (fun _ => [.hp (Hp.whole w), .hp oK2.h])
            (fun k => k ≤ tx.length ∧ ∀ j, j < k → ¬ badC (tx.getD j 0)) (fun k => tx.length - k) 0 ⟨Nat.zero_le _, fun j hj => absurd hj (Nat.not_lt_zero _)⟩ (Ent.mk (fun _ _ h => h.pick [0, 1] rfl rfl) rfl rfl) ?_
          rintro k ⟨hk, hnb⟩
          dsimp only at hk hnb ⊢
          have hel := esc_len (tx.take k)
          rw [List.length_take] at hel
          have htz := bs_size tx
          have htz2 : (bs ((kd, tx, l1, c1) : TokZ).2.1).size = tx.length := bs_size tx
          have hcl : (34 :: escF (tx.take k)).length = (escF (tx.take k)).length + 1 := rfl
          refine hidWP (fun q2 hq2 => ?_)
          show wops _ _ _ _ _ _
          refine w1k (by rfl) fun K hK => ?_
          refine hK _ _ ?_
          refine w1k (by rfl) fun K hK => ?_
          refine hK _ _ ?_
          refine w1k (by rfl) fun K hK => ?_
          refine hK _ _ ?_
          refine w1k (by rfl) fun K hK => ?_
          refine idx (cxg _) (e := 32) rfl hL i rfl hi1 (fun b9 o9 cs hcs hR hcell => ?_)
          subst hR
          rw [hti] at hcell
          refine hK _ _ ?_
          refine w1k (by rfl) fun K hK => ?_
          refine hK _ _ ?_
          refine w1k (by rfl) fun K hK => ?_
          refine ld1 (cxg _) (i := 0) rfl (hcell 1 _ rfl) rfl ?_
          refine hK _ _ ?_
          refine w1k (by rfl) fun K hK => ?_
          refine hK _ _ ?_
          refine w1k (by rfl) fun K hK => ?_
          refine hK _ _ ?_
          refine wnil ?_
          refine wcond (by rfl) (fun h9 => ?_) (fun h9 => ?_)
          · have hk1 : k < tx.length := by have := of_decide_eq_true h9; omega
            obtain ⟨b, hb⟩ : ∃ b, b = tx.getD k 0 := ⟨_, rfl⟩
            show wops _ _ _ _ _ _
            refine w1k (by rfl) fun K hK => ?_
            refine hK _ _ ?_
            refine w1k (by rfl) fun K hK => ?_
            refine hK _ _ ?_
            refine w1k (by rfl) fun K hK => ?_
            refine idx (cxg _) (e := 32) rfl hL i rfl hi1 (fun b9 o9 cs hcs hR hcell => ?_)
            subst hR
            rw [hti] at hcell
            refine hK _ _ ?_
            refine w1k (by rfl) fun K hK => ?_
            refine hK _ _ ?_
            refine w1k (by rfl) fun K hK => ?_
            refine ld1 (cxg _) (i := 0) rfl (hcell 1 _ rfl) rfl ?_
            refine hK _ _ ?_
            refine w1k (by rfl) fun K hK => ?_
            refine hK _ _ ?_
            refine w1k (by rfl) fun K hK => ?_
            refine qIdxL (cxg _) rfl rfl k rfl hk1 ?_
            rw [← hb]
            refine hK _ _ ?_
            refine w1k (by rfl) fun K hK => ?_
            refine hK _ _ ?_
            refine wnil ?_
            show wops _ _ _ _ _ _
            refine w1k (by rfl) fun K hK => ?_
            refine hK _ _ ?_
            refine w1k (by rfl) fun K hK => ?_
            refine hK _ _ ?_
            refine w1k (by rfl) fun K hK => ?_
            refine hK _ _ ?_
            refine wGSk (by rfl) (by rfl) (by rfl) (fun h2_ K hK => ?_) (fun h2_ K hK => ?_)
            · refine hK _ _ ?_
              refine wGYk (by rfl) (by rfl) (by rfl) fun K hK => ?_
              refine hK _ _ ?_
              refine w1k (by rfl) fun K hK => ?_
              refine hK _ _ ?_
              refine wnil ?_
              refine wcond (by rfl) (fun h9 => ?_) (fun h9 => ?_)
              · refine hq2 _ _ _ ?_
                refine hq' _ _ _ ?_
                exact ⟨[], ⟨by rw [hba h3 (any_of hk1 (by rw [← hb]; exact .inr (by have := of_decide_eq_true h9; omega)))]; rfl, rfl⟩, fun w' h => h.pick [0] rfl rfl⟩
              · have hnb2 : ¬ badC b := fun g => g.elim (fun g => by have := of_decide_eq_false h2_; omega) (fun g => by have := of_decide_eq_false h9; omega)
                clear h9
                clear h2_
                show wops _ _ _ _ _ _
                refine w1k (by rfl) fun K hK => ?_
                refine hK _ _ ?_
                refine w1k (by rfl) fun K hK => ?_
                refine hK _ _ ?_
                refine w1k (by rfl) fun K hK => ?_
                refine hK _ _ ?_
                refine wGSk (by rfl) (by rfl) (by rfl) (fun h2_ K hK => ?_) (fun h2_ K hK => ?_)
                · refine hK _ _ ?_
                  refine wGYk (by rfl) (by rfl) (by rfl) fun K hK => ?_
                  refine hK _ _ ?_
                  refine w1k (by rfl) fun K hK => ?_
                  refine hK _ _ ?_
                  refine wnil ?_
                  refine wcond (by rfl) (fun h8 => ?_) (fun h8 => ?_)
                  · show wops _ _ _ _ _ _
                    refine w1k (by rfl) fun K hK => ?_
                    refine hK _ _ ?_
                    refine w1k (by rfl) fun K hK => ?_
                    refine qAdd (ty := 9) (a := 34 :: escF (tx.take k)) (b := [92]) (by rw [hcl]; simp only [List.length_cons, List.length_nil]; omega) ?_
                    refine hK _ _ ?_
                    refine w1k (by rfl) fun K hK => ?_
                    refine hK _ _ ?_
                    refine wnil ?_
                    show wops _ _ _ _ _ _
                    refine w1k (by rfl) fun K hK => ?_
                    refine hK _ _ ?_
                    refine w1k (by rfl) fun K hK => ?_
                    refine hK _ _ ?_
                    refine w1k (by rfl) fun K hK => ?_
                    refine hK _ _ ?_
                    refine w1k (by rfl) fun K hK => ?_
                    refine idx (cxg _) (e := 32) rfl hL i rfl hi1 (fun b9 o9 cs hcs hR hcell => ?_)
                    subst hR
                    rw [hti] at hcell
                    refine hK _ _ ?_
                    refine w1k (by rfl) fun K hK => ?_
                    refine hK _ _ ?_
                    refine w1k (by rfl) fun K hK => ?_
                    refine ld1 (cxg _) (i := 0) rfl (hcell 1 _ rfl) rfl ?_
                    refine hK _ _ ?_
                    refine w1k (by rfl) fun K hK => ?_
                    refine hK _ _ ?_
                    refine w1k (by rfl) fun K hK => ?_
                    refine hK _ _ ?_
                    refine w1k (by rfl) fun K hK => ?_
                    refine nw (by omega) (by omega) ?_
                    refine hK _ _ ?_
                    refine w1k (by rfl) fun K hK => ?_
                    refine qSub (cxg _) rfl rfl k (k + 1) (.inr ⟨_, _, rfl, rfl⟩) (.inr ⟨_, _, rfl, rfl⟩) (by omega) (by show k + 1 ≤ tx.length; omega) ?_
                    rw [show ((((kd, tx, l1, c1) : TokZ).2.1).take (k + 1)).drop k = [b] from by rw [hb]; exact sub_one hk1]
                    refine hK _ _ ?_
                    refine w1k (by rfl) fun K hK => ?_
                    refine qAdd (ty := 9) (a := (34 :: escF (tx.take k)) ++ [92]) (b := [b]) (by rw [List.length_append, hcl]; simp only [List.length_cons, List.length_nil]; omega) ?_
                    refine hK _ _ ?_
                    refine w1k (by rfl) fun K hK => ?_
                    refine hK _ _ ?_
                    refine wnil ?_
                    refine nw (by omega) (by omega) ?_
                    have hst : 34 :: escF (tx.take (k + 1)) = (34 :: escF (tx.take k)) ++ [92] ++ [b] := by rw [esc_take hk1, ← hb, show esc1 b = [92, b] from by unfold esc1; rw [if_pos (.inr (byte_is (k := 92) rfl (of_decide_eq_true h8)))]]; simp
                    exact hq2 _ _ _ ⟨k + 1, ⟨hk1, fun j hj => (Nat.lt_or_ge j k).elim (fun g => hnb j g) (fun g => by rw [show j = k by omega, ← hb]; exact hnb2)⟩, by (try dsimp only); omega, Ent.mk (fun _ _ h => h) (by (try dsimp only); rw [hst]; rfl) rfl⟩
                  · show wops _ _ _ _ _ _
                    refine w1k (by rfl) fun K hK => ?_
                    refine hK _ _ ?_
                    refine w1k (by rfl) fun K hK => ?_
                    refine hK _ _ ?_
                    refine w1k (by rfl) fun K hK => ?_
                    refine hK _ _ ?_
                    refine w1k (by rfl) fun K hK => ?_
                    refine idx (cxg _) (e := 32) rfl hL i rfl hi1 (fun b9 o9 cs hcs hR hcell => ?_)
                    subst hR
                    rw [hti] at hcell
                    refine hK _ _ ?_
                    refine w1k (by rfl) fun K hK => ?_
                    refine hK _ _ ?_
                    refine w1k (by rfl) fun K hK => ?_
                    refine ld1 (cxg _) (i := 0) rfl (hcell 1 _ rfl) rfl ?_
                    refine hK _ _ ?_
                    refine w1k (by rfl) fun K hK => ?_
                    refine hK _ _ ?_
                    refine w1k (by rfl) fun K hK => ?_
                    refine hK _ _ ?_
                    refine w1k (by rfl) fun K hK => ?_
                    refine nw (by omega) (by omega) ?_
                    refine hK _ _ ?_
                    refine w1k (by rfl) fun K hK => ?_
                    refine qSub (cxg _) rfl rfl k (k + 1) (.inr ⟨_, _, rfl, rfl⟩) (.inr ⟨_, _, rfl, rfl⟩) (by omega) (by show k + 1 ≤ tx.length; omega) ?_
                    rw [show ((((kd, tx, l1, c1) : TokZ).2.1).take (k + 1)).drop k = [b] from by rw [hb]; exact sub_one hk1]
                    refine hK _ _ ?_
                    refine w1k (by rfl) fun K hK => ?_
                    refine qAdd (ty := 9) (a := (34 :: escF (tx.take k))) (b := [b]) (by rw [hcl]; simp only [List.length_cons, List.length_nil]; omega) ?_
                    refine hK _ _ ?_
                    refine w1k (by rfl) fun K hK => ?_
                    refine hK _ _ ?_
                    refine wnil ?_
                    refine nw (by omega) (by omega) ?_
                    have hst : 34 :: escF (tx.take (k + 1)) = (34 :: escF (tx.take k)) ++ [b] := by rw [esc_take hk1, ← hb, show esc1 b = [b] from by unfold esc1; rw [if_neg (fun g => g.elim (byte_ne (k := 34) rfl (of_decide_eq_false h2_)) (byte_ne (k := 92) rfl (of_decide_eq_false h8)))]]; simp
                    exact hq2 _ _ _ ⟨k + 1, ⟨hk1, fun j hj => (Nat.lt_or_ge j k).elim (fun g => hnb j g) (fun g => by rw [show j = k by omega, ← hb]; exact hnb2)⟩, by (try dsimp only); omega, Ent.mk (fun _ _ h => h) (by (try dsimp only); rw [hst]; rfl) rfl⟩
                · refine hK _ _ ?_
                  refine wGNk (by rfl) (by rfl) (by rfl) fun K hK => ?_
                  refine hK _ _ ?_
                  refine w1k (by rfl) fun K hK => ?_
                  refine hK _ _ ?_
                  refine wnil ?_
                  refine wcond (by rfl) (fun h9 => ?_) (fun h9 => ?_)
                  · show wops _ _ _ _ _ _
                    refine w1k (by rfl) fun K hK => ?_
                    refine hK _ _ ?_
                    refine w1k (by rfl) fun K hK => ?_
                    refine qAdd (ty := 9) (a := 34 :: escF (tx.take k)) (b := [92]) (by rw [hcl]; simp only [List.length_cons, List.length_nil]; omega) ?_
                    refine hK _ _ ?_
                    refine w1k (by rfl) fun K hK => ?_
                    refine hK _ _ ?_
                    refine wnil ?_
                    show wops _ _ _ _ _ _
                    refine w1k (by rfl) fun K hK => ?_
                    refine hK _ _ ?_
                    refine w1k (by rfl) fun K hK => ?_
                    refine hK _ _ ?_
                    refine w1k (by rfl) fun K hK => ?_
                    refine hK _ _ ?_
                    refine w1k (by rfl) fun K hK => ?_
                    refine idx (cxg _) (e := 32) rfl hL i rfl hi1 (fun b9 o9 cs hcs hR hcell => ?_)
                    subst hR
                    rw [hti] at hcell
                    refine hK _ _ ?_
                    refine w1k (by rfl) fun K hK => ?_
                    refine hK _ _ ?_
                    refine w1k (by rfl) fun K hK => ?_
                    refine ld1 (cxg _) (i := 0) rfl (hcell 1 _ rfl) rfl ?_
                    refine hK _ _ ?_
                    refine w1k (by rfl) fun K hK => ?_
                    refine hK _ _ ?_
                    refine w1k (by rfl) fun K hK => ?_
                    refine hK _ _ ?_
                    refine w1k (by rfl) fun K hK => ?_
                    refine nw (by omega) (by omega) ?_
                    refine hK _ _ ?_
                    refine w1k (by rfl) fun K hK => ?_
                    refine qSub (cxg _) rfl rfl k (k + 1) (.inr ⟨_, _, rfl, rfl⟩) (.inr ⟨_, _, rfl, rfl⟩) (by omega) (by show k + 1 ≤ tx.length; omega) ?_
                    rw [show ((((kd, tx, l1, c1) : TokZ).2.1).take (k + 1)).drop k = [b] from by rw [hb]; exact sub_one hk1]
                    refine hK _ _ ?_
                    refine w1k (by rfl) fun K hK => ?_
                    refine qAdd (ty := 9) (a := (34 :: escF (tx.take k)) ++ [92]) (b := [b]) (by rw [List.length_append, hcl]; simp only [List.length_cons, List.length_nil]; omega) ?_
                    refine hK _ _ ?_
                    refine w1k (by rfl) fun K hK => ?_
                    refine hK _ _ ?_
                    refine wnil ?_
                    refine nw (by omega) (by omega) ?_
                    have hst : 34 :: escF (tx.take (k + 1)) = (34 :: escF (tx.take k)) ++ [92] ++ [b] := by rw [esc_take hk1, ← hb, show esc1 b = [92, b] from by unfold esc1; rw [if_pos (.inl (byte_is (k := 34) rfl (of_decide_eq_true h2_)))]]; simp
                    exact hq2 _ _ _ ⟨k + 1, ⟨hk1, fun j hj => (Nat.lt_or_ge j k).elim (fun g => hnb j g) (fun g => by rw [show j = k by omega, ← hb]; exact hnb2)⟩, by (try dsimp only); omega, Ent.mk (fun _ _ h => h) (by (try dsimp only); rw [hst]; rfl) rfl⟩
                  · cases h9
            · refine hK _ _ ?_
              refine wGNk (by rfl) (by rfl) (by rfl) fun K hK => ?_
              refine hK _ _ ?_
              refine w1k (by rfl) fun K hK => ?_
              refine hK _ _ ?_
              refine wnil ?_
              refine wcond (by rfl) (fun h9 => ?_) (fun h9 => ?_)
              · refine hq2 _ _ _ ?_
                refine hq' _ _ _ ?_
                exact ⟨[], ⟨by rw [hba h3 (any_of hk1 (by rw [← hb]; exact .inl (by have := of_decide_eq_true h2_; omega)))]; rfl, rfl⟩, fun w' h => h.pick [0] rfl rfl⟩
              · cases h9
          · have hk2 : k = tx.length := by have := of_decide_eq_false h9; omega
            subst hk2
            rw [List.take_length]
            have hnn := none_of hnb
            refine hq2 _ _ _ ?_
            show wops _ _ _ _ _ _
            refine w1k (by rfl) fun K hK => ?_
            refine hK _ _ ?_
            refine w1k (by rfl) fun K hK => ?_
            refine qAdd (ty := 9) (a := 34 :: escF tx) (b := [34]) (by have := esc_len tx; simp only [List.length_cons, List.length_nil]; omega) ?_
            refine hK _ _ ?_
            refine w1k (by rfl) fun K hK => ?_
            refine hK _ _ ?_
            refine wnil ?_
            show wops _ _ _ _ _ _
            refine w1k (by rfl) fun K hK => ?_
            refine hK _ _ ?_
            refine w1k (by rfl) fun K hK => ?_
            refine hK _ _ ?_
            refine w1k (by rfl) fun K hK => ?_
            refine qAdd (ty := 9) (a := (joinB (wdZ (keptZ (M.take i))) ++ [32])) (b := ((34 :: escF tx) ++ [34])) (by have := esc_len tx; (try simp only [List.length_append, List.length_cons, List.length_nil]); omega) ?_
            refine hK _ _ ?_
            refine w1k (by rfl) fun K hK => ?_
            refine hK _ _ ?_
            refine wnil ?_
            refine nw (by omega) (by omega) ?_
            exact hq' _ _ _ ⟨(i + 1, oK2), ⟨hi1, hK2, hbad (by have g2 : (tx.any fun c => decide (badC c)) = tx.any unpB := by { congr 1; funext c; exact (unp_iff c).symm }; unfold badK; rw [g2, hnn, Bool.and_false])⟩, by dsimp only; omega, Ent.mk (fun _ _ h => h.pick [0, 1] rfl rfl) (by (try dsimp only); rw [hWn, joinB_snoc, if_neg hne, hXq]; rfl) rfl⟩
        · have h3 : ¬ kd = 3 := of_decide_eq_false h9
          have hXq : X = tx := by rw [hX]; unfold txF; rw [if_neg h3]
          show wops _ _ _ _ _ _
          refine w1k (by rfl) fun K hK => ?_
          refine hK _ _ ?_
          refine w1k (by rfl) fun K hK => ?_
          refine hK _ _ ?_
          refine w1k (by rfl) fun K hK => ?_
          refine qAdd (ty := 9) (a := (joinB (wdZ (keptZ (M.take i))) ++ [32])) (b := tx) (by have := esc_len tx; (try simp only [List.length_append, List.length_cons, List.length_nil]); omega) ?_
          refine hK _ _ ?_
          refine w1k (by rfl) fun K hK => ?_
          refine hK _ _ ?_
          refine wnil ?_
          refine nw (by omega) (by omega) ?_
          exact hq' _ _ _ ⟨(i + 1, oK2), ⟨hi1, hK2, hbad (by unfold badK; rw [decide_eq_false h3, Bool.false_and])⟩, by dsimp only; omega, Ent.mk (fun _ _ h => h.pick [0, 1] rfl rfl) (by (try dsimp only); rw [hWn, joinB_snoc, if_neg hne, hXq]; rfl) rfl⟩
      · have hne : wdZ (keptZ (M.take i)) = [] := wdZ_nil.2 (by have := of_decide_eq_false h9; omega)
        clear h9
        show wops _ _ _ _ _ _
        refine w1k (by rfl) fun K hK => ?_
        refine hK _ _ ?_
        refine w1k (by rfl) fun K hK => ?_
        refine hK _ _ ?_
        refine w1k (by rfl) fun K hK => ?_
        refine hK _ _ ?_
        refine w1k (by rfl) fun K hK => ?_
        refine idx (cxg _) (e := 32) rfl hL i rfl hi1 (fun b9 o9 cs hcs hR hcell => ?_)
        subst hR
        rw [hti] at hcell
        refine hK _ _ ?_
        refine w1k (by rfl) fun K hK => ?_
        refine ldn (cxg _) (i := 0) rfl hcell rfl ?_
        refine hK _ _ ?_
        refine w1k (by rfl) fun K hK => ?_
        intro b36
        refine hK _ _ ?_
        refine w1k (by rfl) fun K hK => ?_
        refine appO (f := fTz) (cxg _) (e := 32) rfl (i := 1) rfl hKo (j := 2) (kd, tx, l1, c1) rfl rfl rfl rfl (by omega) (fun oK2 hK2 => ?_)
        rw [← htk] at hK2
        refine hK _ _ ?_
        refine w1k (by rfl) fun K hK => ?_
        refine hK _ _ ?_
        refine wnil ?_
        show wops _ _ _ _ _ _
        refine w1k (by rfl) fun K hK => ?_
        refine hK _ _ ?_
        refine w1k (by rfl) fun K hK => ?_
        refine hK _ _ ?_
        refine w1k (by rfl) fun K hK => ?_
        refine idx (cxg _) (e := 32) rfl hL i rfl hi1 (fun b9 o9 cs hcs hR hcell => ?_)
        subst hR
        rw [hti] at hcell
        refine hK _ _ ?_
        refine w1k (by rfl) fun K hK => ?_
        refine hK _ _ ?_
        refine w1k (by rfl) fun K hK => ?_
        refine ld1 (cxg _) (i := 0) rfl (hcell 1 _ rfl) rfl ?_
        refine hK _ _ ?_
        refine w1k (by rfl) fun K hK => ?_
        refine hK _ _ ?_
        refine wnil ?_
        show wops _ _ _ _ _ _
        refine w1k (by rfl) fun K hK => ?_
        refine hK _ _ ?_
        refine w1k (by rfl) fun K hK => ?_
        refine hK _ _ ?_
        refine w1k (by rfl) fun K hK => ?_
        refine idx (cxg _) (e := 32) rfl hL i rfl hi1 (fun b9 o9 cs hcs hR hcell => ?_)
        subst hR
        rw [hti] at hcell
        refine hK _ _ ?_
        refine w1k (by rfl) fun K hK => ?_
        refine hK _ _ ?_
        refine w1k (by rfl) fun K hK => ?_
        refine ld1 (cxg _) (i := 0) rfl (hcell 0 _ rfl) rfl ?_
        refine hK _ _ ?_
        refine w1k (by rfl) fun K hK => ?_
        refine hK _ _ ?_
        refine wnil ?_
        refine wcond (by rfl) (fun h9 => ?_) (fun h9 => ?_)
        · have h3 : kd = 3 := of_decide_eq_true h9
          have hXq : X = quoteF tx := by rw [hX]; unfold txF; rw [if_pos h3]
          refine NeedL.mk Nat (fun k => [(0, .v (.slice a n c)), (4, .v oK2.v), (5, .v (.string (bs (joinB (wdZ (keptZ (M.take i))))))), (6, .v (.int .i64 i)), (7, .v (.string (bs (34 :: escF (tx.take k))))), (8, .v (.int .i64 k))]) (fun _ => [.hp (Hp.whole w), .hp oK2.h])
            (fun k => k ≤ tx.length ∧ ∀ j, j < k → ¬ badC (tx.getD j 0)) (fun k => tx.length - k) 0 ⟨Nat.zero_le _, fun j hj => absurd hj (Nat.not_lt_zero _)⟩ (Ent.mk (fun _ _ h => h.pick [0, 1] rfl rfl) rfl rfl) ?_
          rintro k ⟨hk, hnb⟩
          dsimp only at hk hnb ⊢
          have hel := esc_len (tx.take k)
          rw [List.length_take] at hel
          have htz := bs_size tx
          have htz2 : (bs ((kd, tx, l1, c1) : TokZ).2.1).size = tx.length := bs_size tx
          have hcl : (34 :: escF (tx.take k)).length = (escF (tx.take k)).length + 1 := rfl
          refine hidWP (fun q2 hq2 => ?_)
          show wops _ _ _ _ _ _
          refine w1k (by rfl) fun K hK => ?_
          refine hK _ _ ?_
          refine w1k (by rfl) fun K hK => ?_
          refine hK _ _ ?_
          refine w1k (by rfl) fun K hK => ?_
          refine hK _ _ ?_
          refine w1k (by rfl) fun K hK => ?_
          refine idx (cxg _) (e := 32) rfl hL i rfl hi1 (fun b9 o9 cs hcs hR hcell => ?_)
          subst hR
          rw [hti] at hcell
          refine hK _ _ ?_
          refine w1k (by rfl) fun K hK => ?_
          refine hK _ _ ?_
          refine w1k (by rfl) fun K hK => ?_
          refine ld1 (cxg _) (i := 0) rfl (hcell 1 _ rfl) rfl ?_
          refine hK _ _ ?_
          refine w1k (by rfl) fun K hK => ?_
          refine hK _ _ ?_
          refine w1k (by rfl) fun K hK => ?_
          refine hK _ _ ?_
          refine wnil ?_
          refine wcond (by rfl) (fun h9 => ?_) (fun h9 => ?_)
          · have hk1 : k < tx.length := by have := of_decide_eq_true h9; omega
            obtain ⟨b, hb⟩ : ∃ b, b = tx.getD k 0 := ⟨_, rfl⟩
            show wops _ _ _ _ _ _
            refine w1k (by rfl) fun K hK => ?_
            refine hK _ _ ?_
            refine w1k (by rfl) fun K hK => ?_
            refine hK _ _ ?_
            refine w1k (by rfl) fun K hK => ?_
            refine idx (cxg _) (e := 32) rfl hL i rfl hi1 (fun b9 o9 cs hcs hR hcell => ?_)
            subst hR
            rw [hti] at hcell
            refine hK _ _ ?_
            refine w1k (by rfl) fun K hK => ?_
            refine hK _ _ ?_
            refine w1k (by rfl) fun K hK => ?_
            refine ld1 (cxg _) (i := 0) rfl (hcell 1 _ rfl) rfl ?_
            refine hK _ _ ?_
            refine w1k (by rfl) fun K hK => ?_
            refine hK _ _ ?_
            refine w1k (by rfl) fun K hK => ?_
            refine qIdxL (cxg _) rfl rfl k rfl hk1 ?_
            rw [← hb]
            refine hK _ _ ?_
            refine w1k (by rfl) fun K hK => ?_
            refine hK _ _ ?_
            refine wnil ?_
            show wops _ _ _ _ _ _
            refine w1k (by rfl) fun K hK => ?_
            refine hK _ _ ?_
            refine w1k (by rfl) fun K hK => ?_
            refine hK _ _ ?_
            refine w1k (by rfl) fun K hK => ?_
            refine hK _ _ ?_
            refine wGSk (by rfl) (by rfl) (by rfl) (fun h2_ K hK => ?_) (fun h2_ K hK => ?_)
            · refine hK _ _ ?_
              refine wGYk (by rfl) (by rfl) (by rfl) fun K hK => ?_
              refine hK _ _ ?_
              refine w1k (by rfl) fun K hK => ?_
              refine hK _ _ ?_
              refine wnil ?_
              refine wcond (by rfl) (fun h9 => ?_) (fun h9 => ?_)
              · refine hq2 _ _ _ ?_
                refine hq' _ _ _ ?_
                exact ⟨[], ⟨by rw [hba h3 (any_of hk1 (by rw [← hb]; exact .inr (by have := of_decide_eq_true h9; omega)))]; rfl, rfl⟩, fun w' h => h.pick [0] rfl rfl⟩
              · have hnb2 : ¬ badC b := fun g => g.elim (fun g => by have := of_decide_eq_false h2_; omega) (fun g => by have := of_decide_eq_false h9; omega)
                clear h9
                clear h2_
                show wops _ _ _ _ _ _
                refine w1k (by rfl) fun K hK => ?_
                refine hK _ _ ?_
                refine w1k (by rfl) fun K hK => ?_
                refine hK _ _ ?_
                refine w1k (by rfl) fun K hK => ?_
                refine hK _ _ ?_
                refine wGSk (by rfl) (by rfl) (by rfl) (fun h2_ K hK => ?_) (fun h2_ K hK => ?_)
                · refine hK _ _ ?_
                  refine wGYk (by rfl) (by rfl) (by rfl) fun K hK => ?_
                  refine hK _ _ ?_
                  refine w1k (by rfl) fun K hK => ?_
                  refine hK _ _ ?_
                  refine wnil ?_
                  refine wcond (by rfl) (fun h8 => ?_) (fun h8 => ?_)
                  · show wops _ _ _ _ _ _
                    refine w1k (by rfl) fun K hK => ?_
                    refine hK _ _ ?_
                    refine w1k (by rfl) fun K hK => ?_
                    refine qAdd (ty := 9) (a := 34 :: escF (tx.take k)) (b := [92]) (by rw [hcl]; simp only [List.length_cons, List.length_nil]; omega) ?_
                    refine hK _ _ ?_
                    refine w1k (by rfl) fun K hK => ?_
                    refine hK _ _ ?_
                    refine wnil ?_
                    show wops _ _ _ _ _ _
                    refine w1k (by rfl) fun K hK => ?_
                    refine hK _ _ ?_
                    refine w1k (by rfl) fun K hK => ?_
                    refine hK _ _ ?_
                    refine w1k (by rfl) fun K hK => ?_
                    refine hK _ _ ?_
                    refine w1k (by rfl) fun K hK => ?_
                    refine idx (cxg _) (e := 32) rfl hL i rfl hi1 (fun b9 o9 cs hcs hR hcell => ?_)
                    subst hR
                    rw [hti] at hcell
                    refine hK _ _ ?_
                    refine w1k (by rfl) fun K hK => ?_
                    refine hK _ _ ?_
                    refine w1k (by rfl) fun K hK => ?_
                    refine ld1 (cxg _) (i := 0) rfl (hcell 1 _ rfl) rfl ?_
                    refine hK _ _ ?_
                    refine w1k (by rfl) fun K hK => ?_
                    refine hK _ _ ?_
                    refine w1k (by rfl) fun K hK => ?_
                    refine hK _ _ ?_
                    refine w1k (by rfl) fun K hK => ?_
                    refine nw (by omega) (by omega) ?_
                    refine hK _ _ ?_
                    refine w1k (by rfl) fun K hK => ?_
                    refine qSub (cxg _) rfl rfl k (k + 1) (.inr ⟨_, _, rfl, rfl⟩) (.inr ⟨_, _, rfl, rfl⟩) (by omega) (by show k + 1 ≤ tx.length; omega) ?_
                    rw [show ((((kd, tx, l1, c1) : TokZ).2.1).take (k + 1)).drop k = [b] from by rw [hb]; exact sub_one hk1]
                    refine hK _ _ ?_
                    refine w1k (by rfl) fun K hK => ?_
                    refine qAdd (ty := 9) (a := (34 :: escF (tx.take k)) ++ [92]) (b := [b]) (by rw [List.length_append, hcl]; simp only [List.length_cons, List.length_nil]; omega) ?_
                    refine hK _ _ ?_
                    refine w1k (by rfl) fun K hK => ?_
                    refine hK _ _ ?_
                    refine wnil ?_
                    refine nw (by omega) (by omega) ?_
                    have hst : 34 :: escF (tx.take (k + 1)) = (34 :: escF (tx.take k)) ++ [92] ++ [b] := by rw [esc_take hk1, ← hb, show esc1 b = [92, b] from by unfold esc1; rw [if_pos (.inr (byte_is (k := 92) rfl (of_decide_eq_true h8)))]]; simp
                    exact hq2 _ _ _ ⟨k + 1, ⟨hk1, fun j hj => (Nat.lt_or_ge j k).elim (fun g => hnb j g) (fun g => by rw [show j = k by omega, ← hb]; exact hnb2)⟩, by (try dsimp only); omega, Ent.mk (fun _ _ h => h) (by (try dsimp only); rw [hst]; rfl) rfl⟩
                  · show wops _ _ _ _ _ _
                    refine w1k (by rfl) fun K hK => ?_
                    refine hK _ _ ?_
                    refine w1k (by rfl) fun K hK => ?_
                    refine hK _ _ ?_
                    refine w1k (by rfl) fun K hK => ?_
                    refine hK _ _ ?_
                    refine w1k (by rfl) fun K hK => ?_
                    refine idx (cxg _) (e := 32) rfl hL i rfl hi1 (fun b9 o9 cs hcs hR hcell => ?_)
                    subst hR
                    rw [hti] at hcell
                    refine hK _ _ ?_
                    refine w1k (by rfl) fun K hK => ?_
                    refine hK _ _ ?_
                    refine w1k (by rfl) fun K hK => ?_
                    refine ld1 (cxg _) (i := 0) rfl (hcell 1 _ rfl) rfl ?_
                    refine hK _ _ ?_
                    refine w1k (by rfl) fun K hK => ?_
                    refine hK _ _ ?_
                    refine w1k (by rfl) fun K hK => ?_
                    refine hK _ _ ?_
                    refine w1k (by rfl) fun K hK => ?_
                    refine nw (by omega) (by omega) ?_
                    refine hK _ _ ?_
                    refine w1k (by rfl) fun K hK => ?_
                    refine qSub (cxg _) rfl rfl k (k + 1) (.inr ⟨_, _, rfl, rfl⟩) (.inr ⟨_, _, rfl, rfl⟩) (by omega) (by show k + 1 ≤ tx.length; omega) ?_
                    rw [show ((((kd, tx, l1, c1) : TokZ).2.1).take (k + 1)).drop k = [b] from by rw [hb]; exact sub_one hk1]
                    refine hK _ _ ?_
                    refine w1k (by rfl) fun K hK => ?_
                    refine qAdd (ty := 9) (a := (34 :: escF (tx.take k))) (b := [b]) (by rw [hcl]; simp only [List.length_cons, List.length_nil]; omega) ?_
                    refine hK _ _ ?_
                    refine w1k (by rfl) fun K hK => ?_
                    refine hK _ _ ?_
                    refine wnil ?_
                    refine nw (by omega) (by omega) ?_
                    have hst : 34 :: escF (tx.take (k + 1)) = (34 :: escF (tx.take k)) ++ [b] := by rw [esc_take hk1, ← hb, show esc1 b = [b] from by unfold esc1; rw [if_neg (fun g => g.elim (byte_ne (k := 34) rfl (of_decide_eq_false h2_)) (byte_ne (k := 92) rfl (of_decide_eq_false h8)))]]; simp
                    exact hq2 _ _ _ ⟨k + 1, ⟨hk1, fun j hj => (Nat.lt_or_ge j k).elim (fun g => hnb j g) (fun g => by rw [show j = k by omega, ← hb]; exact hnb2)⟩, by (try dsimp only); omega, Ent.mk (fun _ _ h => h) (by (try dsimp only); rw [hst]; rfl) rfl⟩
                · refine hK _ _ ?_
                  refine wGNk (by rfl) (by rfl) (by rfl) fun K hK => ?_
                  refine hK _ _ ?_
                  refine w1k (by rfl) fun K hK => ?_
                  refine hK _ _ ?_
                  refine wnil ?_
                  refine wcond (by rfl) (fun h9 => ?_) (fun h9 => ?_)
                  · show wops _ _ _ _ _ _
                    refine w1k (by rfl) fun K hK => ?_
                    refine hK _ _ ?_
                    refine w1k (by rfl) fun K hK => ?_
                    refine qAdd (ty := 9) (a := 34 :: escF (tx.take k)) (b := [92]) (by rw [hcl]; simp only [List.length_cons, List.length_nil]; omega) ?_
                    refine hK _ _ ?_
                    refine w1k (by rfl) fun K hK => ?_
                    refine hK _ _ ?_
                    refine wnil ?_
                    show wops _ _ _ _ _ _
                    refine w1k (by rfl) fun K hK => ?_
                    refine hK _ _ ?_
                    refine w1k (by rfl) fun K hK => ?_
                    refine hK _ _ ?_
                    refine w1k (by rfl) fun K hK => ?_
                    refine hK _ _ ?_
                    refine w1k (by rfl) fun K hK => ?_
                    refine idx (cxg _) (e := 32) rfl hL i rfl hi1 (fun b9 o9 cs hcs hR hcell => ?_)
                    subst hR
                    rw [hti] at hcell
                    refine hK _ _ ?_
                    refine w1k (by rfl) fun K hK => ?_
                    refine hK _ _ ?_
                    refine w1k (by rfl) fun K hK => ?_
                    refine ld1 (cxg _) (i := 0) rfl (hcell 1 _ rfl) rfl ?_
                    refine hK _ _ ?_
                    refine w1k (by rfl) fun K hK => ?_
                    refine hK _ _ ?_
                    refine w1k (by rfl) fun K hK => ?_
                    refine hK _ _ ?_
                    refine w1k (by rfl) fun K hK => ?_
                    refine nw (by omega) (by omega) ?_
                    refine hK _ _ ?_
                    refine w1k (by rfl) fun K hK => ?_
                    refine qSub (cxg _) rfl rfl k (k + 1) (.inr ⟨_, _, rfl, rfl⟩) (.inr ⟨_, _, rfl, rfl⟩) (by omega) (by show k + 1 ≤ tx.length; omega) ?_
                    rw [show ((((kd, tx, l1, c1) : TokZ).2.1).take (k + 1)).drop k = [b] from by rw [hb]; exact sub_one hk1]
                    refine hK _ _ ?_
                    refine w1k (by rfl) fun K hK => ?_
                    refine qAdd (ty := 9) (a := (34 :: escF (tx.take k)) ++ [92]) (b := [b]) (by rw [List.length_append, hcl]; simp only [List.length_cons, List.length_nil]; omega) ?_
                    refine hK _ _ ?_
                    refine w1k (by rfl) fun K hK => ?_
                    refine hK _ _ ?_
                    refine wnil ?_
                    refine nw (by omega) (by omega) ?_
                    have hst : 34 :: escF (tx.take (k + 1)) = (34 :: escF (tx.take k)) ++ [92] ++ [b] := by rw [esc_take hk1, ← hb, show esc1 b = [92, b] from by unfold esc1; rw [if_pos (.inl (byte_is (k := 34) rfl (of_decide_eq_true h2_)))]]; simp
                    exact hq2 _ _ _ ⟨k + 1, ⟨hk1, fun j hj => (Nat.lt_or_ge j k).elim (fun g => hnb j g) (fun g => by rw [show j = k by omega, ← hb]; exact hnb2)⟩, by (try dsimp only); omega, Ent.mk (fun _ _ h => h) (by (try dsimp only); rw [hst]; rfl) rfl⟩
                  · cases h9
            · refine hK _ _ ?_
              refine wGNk (by rfl) (by rfl) (by rfl) fun K hK => ?_
              refine hK _ _ ?_
              refine w1k (by rfl) fun K hK => ?_
              refine hK _ _ ?_
              refine wnil ?_
              refine wcond (by rfl) (fun h9 => ?_) (fun h9 => ?_)
              · refine hq2 _ _ _ ?_
                refine hq' _ _ _ ?_
                exact ⟨[], ⟨by rw [hba h3 (any_of hk1 (by rw [← hb]; exact .inl (by have := of_decide_eq_true h2_; omega)))]; rfl, rfl⟩, fun w' h => h.pick [0] rfl rfl⟩
              · cases h9
          · have hk2 : k = tx.length := by have := of_decide_eq_false h9; omega
            subst hk2
            rw [List.take_length]
            have hnn := none_of hnb
            refine hq2 _ _ _ ?_
            show wops _ _ _ _ _ _
            refine w1k (by rfl) fun K hK => ?_
            refine hK _ _ ?_
            refine w1k (by rfl) fun K hK => ?_
            refine qAdd (ty := 9) (a := 34 :: escF tx) (b := [34]) (by have := esc_len tx; simp only [List.length_cons, List.length_nil]; omega) ?_
            refine hK _ _ ?_
            refine w1k (by rfl) fun K hK => ?_
            refine hK _ _ ?_
            refine wnil ?_
            show wops _ _ _ _ _ _
            refine w1k (by rfl) fun K hK => ?_
            refine hK _ _ ?_
            refine w1k (by rfl) fun K hK => ?_
            refine hK _ _ ?_
            refine w1k (by rfl) fun K hK => ?_
            refine qAdd (ty := 9) (a := (joinB (wdZ (keptZ (M.take i))))) (b := ((34 :: escF tx) ++ [34])) (by have := esc_len tx; (try simp only [List.length_append, List.length_cons, List.length_nil]); omega) ?_
            refine hK _ _ ?_
            refine w1k (by rfl) fun K hK => ?_
            refine hK _ _ ?_
            refine wnil ?_
            refine nw (by omega) (by omega) ?_
            exact hq' _ _ _ ⟨(i + 1, oK2), ⟨hi1, hK2, hbad (by have g2 : (tx.any fun c => decide (badC c)) = tx.any unpB := by { congr 1; funext c; exact (unp_iff c).symm }; unfold badK; rw [g2, hnn, Bool.and_false])⟩, by dsimp only; omega, Ent.mk (fun _ _ h => h.pick [0, 1] rfl rfl) (by (try dsimp only); rw [hWn, joinB_snoc, if_pos hne, hXq, hne]; rfl) rfl⟩
        · have h3 : ¬ kd = 3 := of_decide_eq_false h9
          have hXq : X = tx := by rw [hX]; unfold txF; rw [if_neg h3]
          show wops _ _ _ _ _ _
          refine w1k (by rfl) fun K hK => ?_
          refine hK _ _ ?_
          refine w1k (by rfl) fun K hK => ?_
          refine hK _ _ ?_
          refine w1k (by rfl) fun K hK => ?_
          refine qAdd (ty := 9) (a := (joinB (wdZ (keptZ (M.take i))))) (b := tx) (by have := esc_len tx; (try simp only [List.length_append, List.length_cons, List.length_nil]); omega) ?_
          refine hK _ _ ?_
          refine w1k (by rfl) fun K hK => ?_
          refine hK _ _ ?_
          refine wnil ?_
          refine nw (by omega) (by omega) ?_
          exact hq' _ _ _ ⟨(i + 1, oK2), ⟨hi1, hK2, hbad (by unfold badK; rw [decide_eq_false h3, Bool.false_and])⟩, by dsimp only; omega, Ent.mk (fun _ _ h => h.pick [0, 1] rfl rfl) (by (try dsimp only); rw [hWn, joinB_snoc, if_pos hne, hXq, hne]; rfl) rfl⟩
  · have hi2 : i = M.length := by omega
    subst hi2
    rw [List.take_length] at hKo hbd hjl hkl hkn
    have hwx := hwx M.length
    rw [List.take_length] at hwx
    rw [List.take_length]
    have hJ : jonK (M.map kz) = if (scaF (joinB (wdZ (keptZ M)))).2.2.2 = 0 ∧ (scaF (joinB (wdZ (keptZ M)))).1.dropLast.map ktF = (keptZ M).map kz then (joinB (wdZ (keptZ M)), 0) else ([], 3) := by
      unfold jonK
      rw [← keptZ_kz, if_neg (by rw [hbd]; decide)]
      rfl
    have hdl : ∀ L : List Tok, L.take (L.length - 1) = L.dropLast := fun L => (List.dropLast_eq_take).symm
    have hjl2 := Nat.mul_le_mul_right 103 (show (keptZ M).length ≤ 20 by omega)
    generalize wdZ (keptZ M) = Ws at *
    generalize keptZ M = Kp at *
    have hen := sca_shape (joinB Ws)
    have hsl := sca_len (joinB Ws)
    have hSc := fun (w' : World) => scan35_spec (joinB Ws) (by omega) w'
    generalize scaF (joinB Ws) = T at *
    obtain ⟨L, f1, f2, f⟩ := T
    dsimp only at hSc hen hJ hsl
    refine hq' _ _ _ ?_
    refine call (fun w' hm => hSc w') ?_
    rintro _ _ ⟨oL, rfl, rfl, hoL⟩
    have hLn := hoL.len
    have hcap : oL.n ≤ oL.c := hoL.2.cap
    refine hideQ (fun _ kzz => kzz _ _ ?_)
    refine normS [.hp (Hp.whole w), .hp oK.h, .hp oL.h] rfl ?_
    show wops _ _ _ _ _ _
    refine w1k (by rfl) fun K hK => ?_
    refine hK _ _ ?_
    refine w1k (by rfl) fun K hK => ?_
    refine hK _ _ ?_
    refine w1k (by rfl) fun K hK => ?_
    refine hK _ _ ?_
    refine wGSk (by rfl) (by rfl) (by rfl) (fun h2_ K hK => ?_) (fun h2_ K hK => ?_)
    · refine hK _ _ ?_
      refine wGYk (by rfl) (by rfl) (by rfl) fun K hK => ?_
      refine hK _ _ ?_
      refine wGYk (by rfl) (by rfl) (by rfl) fun K hK => ?_
      refine hK _ _ ?_
      refine wGYk (by rfl) (by rfl) (by rfl) fun K hK => ?_
      have hf0 : f = 0 := Classical.byContradiction (of_decide_eq_false h2_)
      have hpos := (hen.1 hf0).pos
      refine nw (by omega) (by omega) ?_
      refine hK _ _ ?_
      refine wGYk (by rfl) (by rfl) (by rfl) fun K hK => ?_
      refine slT (cxg _) (e := 32) rfl (oL.n - 1) (by omega) (by omega) ?_
      refine hK _ _ ?_
      refine wGYk (by rfl) (by rfl) (by rfl) fun K hK => ?_
      refine hK _ _ ?_
      refine wGYk (by rfl) (by rfl) (by rfl) fun K hK => ?_
      have hbk := OwnO.take (f := fT) (fun _ => rfl) hoL (oL.n - 1) (by omega)
      rw [hLn, hdl, ← hLn] at hbk
      refine callV _ (fun w' hm => alike35_spec w' ((slZ (OwnO.sl (f := fT) (sz := 4) (fun _ => rfl) (by decide) hbk)).mono (encF_mono _) (hm 2 _ rfl)) ((OwnO.sl (f := fTz) (sz := 4) (fun _ => rfl) (by decide) hKo).mono (encF_mono _) (hm 1 _ rfl)) (by rw [List.length_map, List.length_dropLast]; omega)) ?_
      refine hK _ _ ?_
      refine wGYk (by rfl) (by rfl) (by rfl) fun K hK => ?_
      refine hK _ _ ?_
      refine w1k (by rfl) fun K hK => ?_
      refine hK _ _ ?_
      refine wnil ?_
      refine wcond (by rfl) (fun h9 => ?_) (fun h9 => ?_)
      · exact ⟨[], ⟨by rw [hJ, if_neg (fun g => by rw [map_kz] at h9; rw [decide_eq_true g.2] at h9; cases h9)]; rfl, rfl⟩, fun w' h => h.pick [0] rfl rfl⟩
      · have hg : L.dropLast.map ktF = Kp.map kz := by rw [map_kz] at h9; simpa using h9
        exact ⟨[], ⟨by rw [hJ, if_pos ⟨hf0, hg⟩], rfl⟩, fun w' h => h.pick [0] rfl rfl⟩
    · refine hK _ _ ?_
      refine wGNk (by rfl) (by rfl) (by rfl) fun K hK => ?_
      refine hK _ _ ?_
      refine wGNk (by rfl) (by rfl) (by rfl) fun K hK => ?_
      refine hK _ _ ?_
      refine wGNk (by rfl) (by rfl) (by rfl) fun K hK => ?_
      refine hK _ _ ?_
      refine wGNk (by rfl) (by rfl) (by rfl) fun K hK => ?_
      refine hK _ _ ?_
      refine wGNk (by rfl) (by rfl) (by rfl) fun K hK => ?_
      refine hK _ _ ?_
      refine wGNk (by rfl) (by rfl) (by rfl) fun K hK => ?_
      refine hK _ _ ?_
      refine wGNk (by rfl) (by rfl) (by rfl) fun K hK => ?_
      refine hK _ _ ?_
      refine w1k (by rfl) fun K hK => ?_
      refine hK _ _ ?_
      refine wnil ?_
      refine wcond (by rfl) (fun h9 => ?_) (fun h9 => ?_)
      · exact ⟨[], ⟨by rw [hJ, if_neg (fun g => (of_decide_eq_true h2_) g.1)]; rfl, rfl⟩, fun w' h => h.pick [0] rfl rfl⟩
      · cases h9
end Go.Proofs.YtoholjdojdmbkaaGreatDoor
